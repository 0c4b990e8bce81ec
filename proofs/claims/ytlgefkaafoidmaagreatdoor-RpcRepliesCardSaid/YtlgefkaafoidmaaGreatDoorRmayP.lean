/- The walk of terrazzoref16.MayReply at any reply. -/
import Derived.Test.YtlgefkaafoidmaaGreatDoorMayP
import Derived.Test.YtlgefkaafoidmaaGreatDoorRmay
import Derived.Test.YtlgefkaafoidmaaGreatDoorRefB8
import Derived.Test.YtlgefkaafoidmaaGreatDoorRefD8
namespace Go.Proofs.YtlgefkaafoidmaaGreatDoor
open Go.RowKit Go.WideShapes

set_option maxRecDepth 100000 in
set_option maxHeartbeats 4000000 in
theorem rmayp_any (A B : Nat → Prop) (p : RpD) (dv kv : Value) (w : World) (hd : RB A w dv p.obj.data) (hk : SlE Enc.key B w kv p.obj.keys) (hl : p.obj.keys.length ≤ 100000) : Calls Tryz.prog 51 #[rpV p dv kv] w (MayY p w) := by
  obtain ⟨da, dc, rfl⟩ := hd.shape
  obtain ⟨ka, kc, rfl⟩ := hk.shape
  obtain ⟨pc, pl, ps, pe, pn, px, pt, ⟨pd, pk, po⟩⟩ := p
  simp only at *
  have HD := Lib.hid hd
  have HK := Lib.hid hk
  have HOB : Hid (∀ W, Below w.heap.size w W → ObV (fun _ => True) W (.agg #[.slice da pd.length dc, .slice ka pk.length kc, .int .i64 po]) ⟨pd, pk, po⟩) := Lib.hid fun W h => ⟨_, _, rfl, (HD.out.ext h).weak fun _ _ _ => trivial, SlE.weak (HK.out.ext h) fun _ _ _ => trivial⟩
  clear hd hk
  simp only [rpV]
  have HMP : Hid (∀ h : MayPN ⟨pc, pl, ps, pe, pn, px, pt, ⟨pd, pk, po⟩⟩, mayRP ⟨pc, pl, ps, pe, pn, px, pt, ⟨pd, pk, po⟩⟩ = (mayB ⟨pd, pk, po⟩ && (pt || sameB ⟨pd, pk, po⟩ ObD.none))) := Lib.hid fun h => mayRP_yes h
  have HNO : Hid (¬ MayPN ⟨pc, pl, ps, pe, pn, px, pt, ⟨pd, pk, po⟩⟩ → mayRP ⟨pc, pl, ps, pe, pn, px, pt, ⟨pd, pk, po⟩⟩ = false) := Lib.hid fun h => mayRP_no h
  go_enter Tryz.func51, Tryz.ntmps51
  go_wp2_with fail
  obtain ⟨w0, hw0⟩ : ∃ w0, w0 = w.alloc (.cells #[.int .i64 pc, .int .i64 pl, .int .i64 ps, .int .i64 pe, .int .i64 pn, .int .i64 px, .bool pt, .slice da pd.length dc, .slice ka pk.length kc, .int .i64 po] 40) := ⟨_, rfl⟩
  rw [← hw0]
  have b0 : w0.heap[w.heap.size]? = some (.cells (rpC ⟨pc, pl, ps, pe, pn, px, pt, ⟨pd, pk, po⟩⟩ (.slice da pd.length dc) (.slice ka pk.length kc)) 40 (0, 0)) := by rw [hw0]; exact heap_alloc_new _ _
  have hw : Below w.heap.size w w0 := by rw [hw0]; ((repeat' (first | exact Below.refl _ _ | refine below_drewN ?_ _ | refine Below.drew ?_ | refine Below.alloc ?_ ?_ _ | refine Below.trans ?_ (Below.mono (by assumption) ?_))); all_goals (first | exact Nat.le_refl _ | exact Below.size (by assumption) | omega | (simp; done) | (simp; omega)))
  clear hw0
  obtain ⟨idb, hidb⟩ : ∃ b : Bool, (idX pc pl ps → b = true) ∧ (¬ idX pc pl ps → b = false) := by
    by_cases h : idX pc pl ps
    · exact ⟨true, fun _ => rfl, fun h2 => absurd h h2⟩
    · exact ⟨false, fun h2 => absurd h2 h, fun _ => rfl⟩
  have hidr : Hid (Calls Tryz.prog 67 #[.int .i64 pc, .int .i64 pl, .int .i64 ps] w0 fun e w' => e = .returned (.bool idb) ∧ w0 = w') := Lib.hid ((rident_any pc pl ps w0).mono fun e w' ⟨h1, h2, h3⟩ => ⟨by
    by_cases h : idX pc pl ps
    · rw [hidb.1 h]; exact h1 h
    · rw [hidb.2 h]; exact h2 h, h3⟩)
  have HID := Lib.hid hidb
  clear hidb
  refine hidr.out.mono ?_
  rintro e w1 ⟨rfl, rfl⟩
  clear hidr
  obtain ⟨y0, y1, y2, y3, y4, y5, y6, y7, y8, y9, -⟩ := rp_cells b0
  simp only at y0 y1 y2 y3 y4 y5 y6 y7 y8 y9
  go_wp2_with fail
  refine (rmay8_any _ _ ⟨pd, pk, po⟩ _ (HOB.out _ hw) hl).mono ?_
  rintro e w2 ⟨rfl, hb2⟩
  have W2 := Lib.hid (below_call hw hb2)
  have B2 := Lib.hid (blkk hb2 b0)
  clear hb2 b0 hw y0 y1 y2 y3 y4 y5 y6 y7 y8 y9
  obtain ⟨y0, y1, y2, y3, y4, y5, y6, y7, y8, y9, -⟩ := rp_cells B2.out
  simp only at y0 y1 y2 y3 y4 y5 y6 y7 y8 y9
  go_wp2_with fail
  refine (rsame_any _ (fun _ => True) ⟨pd, pk, po⟩ ObD.none _ _ _ (HOB.out _ W2.out) (obv_zero _ _) hl (by simp [ObD.none])).mono ?_
  rintro e w3 ⟨rfl, hb3⟩
  have W3 := Lib.hid (below_call W2.out hb3)
  have B3 := Lib.hid (blkk hb3 B2.out)
  clear hb3 B2 W2 y0 y1 y2 y3 y4 y5 y6 y7 y8 y9
  obtain ⟨y0, y1, y2, y3, y4, y5, y6, y7, y8, y9, -⟩ := rp_cells B3.out
  simp only at y0 y1 y2 y3 y4 y5 y6 y7 y8 y9
  generalize mayB ⟨pd, pk, po⟩ = MB at *
  generalize sameB ⟨pd, pk, po⟩ ObD.none = SB at *
  by_cases hid : idX pc pl ps
  · by_cases h0 : 0 ≤ pe
    · by_cases h1 : pe ≤ 65535
      · by_cases h2 : 0 ≤ pn
        · by_cases h3 : pn ≤ 1099511627776
          · by_cases h4 : 0 ≤ px
            · by_cases h5 : px ≤ 1099511627776
              · have HM := Lib.hid (HMP.out ⟨hid, ⟨h0, h1⟩, ⟨h2, h3⟩, ⟨h4, h5⟩⟩)
                obtain rfl := HID.out.1 hid
                clear hid
                cases MB <;> cases pt <;> cases SB
                all_goals
                  go_wp2
                  go_ret
                  exact MayY.of HM.out W3.out
              · have HX := Lib.hid (HNO.out fun h => h5 h.x.2)
                obtain rfl := HID.out.1 hid
                have k5 : 1099511627776 < px := by omega
                clear h5 hid
                go_wp2
                go_ret
                exact MayY.of HX.out W3.out
            · have HX := Lib.hid (HNO.out fun h => h4 h.x.1)
              obtain rfl := HID.out.1 hid
              have k4 : px < 0 := by omega
              clear h4 hid
              go_wp2
              go_ret
              exact MayY.of HX.out W3.out
          · have HX := Lib.hid (HNO.out fun h => h3 h.n.2)
            obtain rfl := HID.out.1 hid
            have k3 : 1099511627776 < pn := by omega
            clear h3 hid
            go_wp2
            go_ret
            exact MayY.of HX.out W3.out
        · have HX := Lib.hid (HNO.out fun h => h2 h.n.1)
          obtain rfl := HID.out.1 hid
          have k2 : pn < 0 := by omega
          clear h2 hid
          go_wp2
          go_ret
          exact MayY.of HX.out W3.out
      · have HX := Lib.hid (HNO.out fun h => h1 h.e.2)
        obtain rfl := HID.out.1 hid
        have k1 : 65535 < pe := by omega
        clear h1 hid
        go_wp2
        go_ret
        exact MayY.of HX.out W3.out
    · have HX := Lib.hid (HNO.out fun h => h0 h.e.1)
      obtain rfl := HID.out.1 hid
      have k0 : pe < 0 := by omega
      clear h0 hid
      go_wp2
      go_ret
      exact MayY.of HX.out W3.out
  · have HX := Lib.hid (HNO.out fun h => hid h.id)
    obtain rfl := HID.out.2 hid
    clear hid
    go_wp2
    go_ret
    exact MayY.of HX.out W3.out
end Go.Proofs.YtlgefkaafoidmaaGreatDoor
