/- The walk of rpc.mayReply at any reply, to the sign. -/
import Derived.Test.YtlgefkaafoidmaaGreatDoorRepE
namespace Go.Proofs.YtlgefkaafoidmaaGreatDoor
open Go.RowKit Go.WideShapes

/-- what mayReply leaves -/
def MayY (p : RpD) (w : World) (e : Ending) (w' : World) : Prop := e = .returned (.bool (mayRP p)) ∧ Below w.heap.size w w'
theorem MayY.of {p : RpD} {b : Bool} {w w' : World} (h : mayRP p = b) (hb : Below w.heap.size w w') : MayY p w (.returned (.bool b)) w' := ⟨by rw [h], hb⟩
theorem obv_zero (A : Nat → Prop) (w : World) : ObV A w (.agg #[.slice none 0 0, .slice none 0 0, .int .i64 0]) ObD.none := ⟨_, _, rfl, RB.nil _ _, SlE.nil _ _ _⟩
set_option maxRecDepth 100000 in
set_option maxHeartbeats 4000000 in
theorem mayp_any (A B : Nat → Prop) (p : RpD) (dv kv : Value) (w : World) (hd : RB A w dv p.obj.data) (hk : SlE Enc.key B w kv p.obj.keys) (hl : p.obj.keys.length ≤ 100000) : Calls Tryz.prog 49 #[rpV p dv kv] w (MayY p w) := by
  obtain ⟨da, dc, rfl⟩ := hd.shape
  obtain ⟨ka, kc, rfl⟩ := hk.shape
  obtain ⟨pc, pl, ps, pe, pn, px, pt, ⟨pd, pk, po⟩⟩ := p
  simp only at *
  have HD := Lib.hid hd
  have HK := Lib.hid hk
  have HOB : Hid (∀ W, Below w.heap.size w W → ObV (fun _ => True) W (.agg #[.slice da pd.length dc, .slice ka pk.length kc, .int .i64 po]) ⟨pd, pk, po⟩) := Lib.hid fun W h => ⟨_, _, rfl, (HD.out.ext h).weak fun _ _ _ => trivial, SlE.weak (HK.out.ext h) fun _ _ _ => trivial⟩
  clear hd hk
  simp only [rpV]
  by_cases hid : idP pc pl ps
  · by_cases he : 0 ≤ pe ∧ pe ≤ 65535
    · by_cases hn : 0 ≤ pn ∧ pn ≤ 1099511627776
      · by_cases hx : 0 ≤ px ∧ px ≤ 1099511627776
        · have hnp : MayPN ⟨pc, pl, ps, pe, pn, px, pt, ⟨pd, pk, po⟩⟩ := ⟨hid, he, hn, hx⟩
          have HM := Lib.hid (mayRP_yes hnp)
          clear hnp
          go_enter Tryz.func49, Tryz.ntmps49
          go_wp2_with fail
          refine (ident_yes _ _ _ hid.1 hid.2.1 hid.2.2 _).mono ?_
          rintro e w1 ⟨rfl, rfl⟩
          go_wp2_with fail
          refine (within_yes _ _ _ he _).mono ?_
          rintro e w1 ⟨rfl, rfl⟩
          go_wp2_with fail
          refine (within_yes _ _ _ hn _).mono ?_
          rintro e w1 ⟨rfl, rfl⟩
          go_wp2_with fail
          refine (within_yes _ _ _ hx _).mono ?_
          rintro e w1 ⟨rfl, rfl⟩
          clear hid he hn hx
          go_wp2_with fail
          obtain ⟨w0, hw0⟩ : ∃ w0, w0 = w.alloc (.cells #[.int .i64 pc, .int .i64 pl, .int .i64 ps, .int .i64 pe, .int .i64 pn, .int .i64 px, .bool pt, .slice da pd.length dc, .slice ka pk.length kc, .int .i64 po] 40) := ⟨_, rfl⟩
          rw [← hw0]
          have b0 : w0.heap[w.heap.size]? = some (.cells (rpC ⟨pc, pl, ps, pe, pn, px, pt, ⟨pd, pk, po⟩⟩ (.slice da pd.length dc) (.slice ka pk.length kc)) 40 (0, 0)) := by rw [hw0]; exact heap_alloc_new _ _
          have hw : Below w.heap.size w w0 := by rw [hw0]; ((repeat' (first | exact Below.refl _ _ | refine below_drewN ?_ _ | refine Below.drew ?_ | refine Below.alloc ?_ ?_ _ | refine Below.trans ?_ (Below.mono (by assumption) ?_))); all_goals (first | exact Nat.le_refl _ | exact Below.size (by assumption) | omega | (simp; done) | (simp; omega)))
          clear hw0
          refine (check_any _ _ ⟨pd, pk, po⟩ _ (HOB.out _ hw) hl).mono ?_
          rintro e w2 ⟨rfl, hb2⟩
          have W2 := Lib.hid (below_call hw hb2)
          have B2 := Lib.hid (blkk hb2 b0)
          clear hb2 b0 hw
          obtain ⟨y0, y1, y2, y3, y4, y5, y6, y7, y8, y9, -⟩ := rp_cells B2.out
          simp only at y0 y1 y2 y3 y4 y5 y6 y7 y8 y9
          cases hmb : mayB ⟨pd, pk, po⟩ with
          | false =>
            have HX : Hid (_ = false) := Lib.hid (HM.out.trans (by simp [hmb]))
            clear HM hmb
            go_wp2
            go_ret
            exact MayY.of HX.out W2.out
          | true =>
            cases pt with
            | true =>
              have HX : Hid (_ = true) := Lib.hid (HM.out.trans (by simp [hmb]))
              clear HM hmb
              go_wp2
              go_ret
              exact MayY.of HX.out W2.out
            | false =>
              have HX : Hid (_ = sameB ⟨pd, pk, po⟩ ObD.none) := Lib.hid (HM.out.trans (by simp [hmb]))
              clear HM hmb
              go_wp2_with fail
              refine (osame_any _ (fun _ => True) ⟨pd, pk, po⟩ ObD.none _ _ _ (HOB.out _ W2.out) (obv_zero _ _) hl).mono ?_
              rintro e w3 ⟨rfl, hb3⟩
              have W3 := Lib.hid (below_call W2.out hb3)
              clear hb3
              generalize sameB ⟨pd, pk, po⟩ ObD.none = SB at *
              go_wp2
              go_ret
              exact MayY.of HX.out W3.out
        · have HX : Hid (mayRP ⟨pc, pl, ps, pe, pn, px, pt, ⟨pd, pk, po⟩⟩ = false) := Lib.hid (mayRP_no fun h => hx h.x)
          go_enter Tryz.func49, Tryz.ntmps49
          go_wp2_with fail
          refine (ident_yes _ _ _ hid.1 hid.2.1 hid.2.2 _).mono ?_
          rintro e w1 ⟨rfl, rfl⟩
          go_wp2_with fail
          refine (within_yes _ _ _ he _).mono ?_
          rintro e w1 ⟨rfl, rfl⟩
          go_wp2_with fail
          refine (within_yes _ _ _ hn _).mono ?_
          rintro e w1 ⟨rfl, rfl⟩
          go_wp2_with fail
          refine (within_no _ _ _ hx _).mono ?_
          rintro e w1 ⟨rfl, rfl⟩
          go_wp2
          go_ret
          exact MayY.of HX.out (by ((repeat' (first | exact Below.refl _ _ | refine below_drewN ?_ _ | refine Below.drew ?_ | refine Below.alloc ?_ ?_ _ | refine Below.trans ?_ (Below.mono (by assumption) ?_))); all_goals (first | exact Nat.le_refl _ | exact Below.size (by assumption) | omega | (simp; done) | (simp; omega))))
      · have HX : Hid (mayRP ⟨pc, pl, ps, pe, pn, px, pt, ⟨pd, pk, po⟩⟩ = false) := Lib.hid (mayRP_no fun h => hn h.n)
        go_enter Tryz.func49, Tryz.ntmps49
        go_wp2_with fail
        refine (ident_yes _ _ _ hid.1 hid.2.1 hid.2.2 _).mono ?_
        rintro e w1 ⟨rfl, rfl⟩
        go_wp2_with fail
        refine (within_yes _ _ _ he _).mono ?_
        rintro e w1 ⟨rfl, rfl⟩
        go_wp2_with fail
        refine (within_no _ _ _ hn _).mono ?_
        rintro e w1 ⟨rfl, rfl⟩
        go_wp2
        go_ret
        exact MayY.of HX.out (by ((repeat' (first | exact Below.refl _ _ | refine below_drewN ?_ _ | refine Below.drew ?_ | refine Below.alloc ?_ ?_ _ | refine Below.trans ?_ (Below.mono (by assumption) ?_))); all_goals (first | exact Nat.le_refl _ | exact Below.size (by assumption) | omega | (simp; done) | (simp; omega))))
    · have HX : Hid (mayRP ⟨pc, pl, ps, pe, pn, px, pt, ⟨pd, pk, po⟩⟩ = false) := Lib.hid (mayRP_no fun h => he h.e)
      go_enter Tryz.func49, Tryz.ntmps49
      go_wp2_with fail
      refine (ident_yes _ _ _ hid.1 hid.2.1 hid.2.2 _).mono ?_
      rintro e w1 ⟨rfl, rfl⟩
      go_wp2_with fail
      refine (within_no _ _ _ he _).mono ?_
      rintro e w1 ⟨rfl, rfl⟩
      go_wp2
      go_ret
      exact MayY.of HX.out (by ((repeat' (first | exact Below.refl _ _ | refine below_drewN ?_ _ | refine Below.drew ?_ | refine Below.alloc ?_ ?_ _ | refine Below.trans ?_ (Below.mono (by assumption) ?_))); all_goals (first | exact Nat.le_refl _ | exact Below.size (by assumption) | omega | (simp; done) | (simp; omega))))
  · have HX : Hid (mayRP ⟨pc, pl, ps, pe, pn, px, pt, ⟨pd, pk, po⟩⟩ = false) := Lib.hid (mayRP_no fun h => hid h.id)
    go_enter Tryz.func49, Tryz.ntmps49
    go_wp2_with fail
    refine (ident_no _ _ _ hid _).mono ?_
    rintro e w1 ⟨rfl, rfl⟩
    go_wp2
    go_ret
    exact MayY.of HX.out (by ((repeat' (first | exact Below.refl _ _ | refine below_drewN ?_ _ | refine Below.drew ?_ | refine Below.alloc ?_ ?_ _ | refine Below.trans ?_ (Below.mono (by assumption) ?_))); all_goals (first | exact Nat.le_refl _ | exact Below.size (by assumption) | omega | (simp; done) | (simp; omega))))
end Go.Proofs.YtlgefkaafoidmaaGreatDoor
