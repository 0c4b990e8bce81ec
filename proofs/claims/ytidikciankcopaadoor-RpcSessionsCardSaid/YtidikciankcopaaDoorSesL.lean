/- The walk of terrazzolaw16.RpcSessions. -/
import Derived.Test.YtidikciankcopaaDoorOpenA
import Derived.Test.YtidikciankcopaaDoorSameR
import Derived.Test.YtidikciankcopaaDoorAwk16
import Derived.Test.YtidikciankcopaaDoorRSes
import Derived.Test.YtidikciankcopaaDoorRowSt
import Derived.Laws.BitsLemmas
import Derived.Deep.DeepCutAuto
namespace Go.Proofs.YtidikciankcopaaDoor
open Go.RowKit Go.WideShapes

theorem set14_blk {w : World} {p : Nat} {t : TypeId} {u0 u1 u2 u3 u4 u5 u6 u7 u8 u9 u10 u11 u12 u13 v0 v1 v2 v3 v4 v5 v6 v7 v8 v9 v10 v11 v12 v13 : Value} (hb : w.heap[p]? = some (.cells #[u0, u1, u2, u3, u4, u5, u6, u7, u8, u9, u10, u11, u12, u13] t (0, 0))) :
    (((((((((((((((w.setCell ⟨p, 0, none⟩ v0).setCell ⟨p, 1, none⟩ v1).setCell ⟨p, 2, none⟩ v2).setCell ⟨p, 3, none⟩ v3).setCell ⟨p, 4, none⟩ v4).setCell ⟨p, 5, none⟩ v5).setCell ⟨p, 6, none⟩ v6).setCell ⟨p, 7, none⟩ v7).setCell ⟨p, 8, none⟩ v8).setCell ⟨p, 9, none⟩ v9).setCell ⟨p, 10, none⟩ v10).setCell ⟨p, 11, none⟩ v11).setCell ⟨p, 12, none⟩ v12).setCell ⟨p, 13, none⟩ v13)).heap[p]? = some (.cells #[v0, v1, v2, v3, v4, v5, v6, v7, v8, v9, v10, v11, v12, v13] t (0, 0)) := by
  have := (set_blk3 (j := 13) (v := v13) (set_blk3 (j := 12) (v := v12) (set_blk3 (j := 11) (v := v11) (set_blk3 (j := 10) (v := v10) (set_blk3 (j := 9) (v := v9) (set_blk3 (j := 8) (v := v8) (set_blk3 (j := 7) (v := v7) (set_blk3 (j := 6) (v := v6) (set_blk3 (j := 5) (v := v5) (set_blk3 (j := 4) (v := v4) (set_blk3 (j := 3) (v := v3) (set_blk3 (j := 2) (v := v2) (set_blk3 (j := 1) (v := v1) (set_blk3 (j := 0) (v := v0) hb))))))))))))))
  simpa using this
theorem same14 {A : Nat → Prop} {w : World} {p : Nat} {v0 v1 v2 v3 v4 v5 v6 v7 v8 v9 v10 v11 v12 v13 : Value} (h : ¬ A p) : Same A w (((((((((((((((w.setCell ⟨p, 0, none⟩ v0).setCell ⟨p, 1, none⟩ v1).setCell ⟨p, 2, none⟩ v2).setCell ⟨p, 3, none⟩ v3).setCell ⟨p, 4, none⟩ v4).setCell ⟨p, 5, none⟩ v5).setCell ⟨p, 6, none⟩ v6).setCell ⟨p, 7, none⟩ v7).setCell ⟨p, 8, none⟩ v8).setCell ⟨p, 9, none⟩ v9).setCell ⟨p, 10, none⟩ v10).setCell ⟨p, 11, none⟩ v11).setCell ⟨p, 12, none⟩ v12).setCell ⟨p, 13, none⟩ v13)) :=
  (Same.setCell (a := ⟨p, 13, none⟩) (Same.setCell (a := ⟨p, 12, none⟩) (Same.setCell (a := ⟨p, 11, none⟩) (Same.setCell (a := ⟨p, 10, none⟩) (Same.setCell (a := ⟨p, 9, none⟩) (Same.setCell (a := ⟨p, 8, none⟩) (Same.setCell (a := ⟨p, 7, none⟩) (Same.setCell (a := ⟨p, 6, none⟩) (Same.setCell (a := ⟨p, 5, none⟩) (Same.setCell (a := ⟨p, 4, none⟩) (Same.setCell (a := ⟨p, 3, none⟩) (Same.setCell (a := ⟨p, 2, none⟩) (Same.setCell (a := ⟨p, 1, none⟩) (Same.setCell (a := ⟨p, 0, none⟩) (Same.refl _ _) h v0) h v1) h v2) h v3) h v4) h v5) h v6) h v7) h v8) h v9) h v10) h v11) h v12) h v13)
theorem below14 {B : Nat} {w0 w : World} {p : Nat} {v0 v1 v2 v3 v4 v5 v6 v7 v8 v9 v10 v11 v12 v13 : Value} (hb : Below B w0 w) (h : B ≤ p) : Below B w0 (((((((((((((((w.setCell ⟨p, 0, none⟩ v0).setCell ⟨p, 1, none⟩ v1).setCell ⟨p, 2, none⟩ v2).setCell ⟨p, 3, none⟩ v3).setCell ⟨p, 4, none⟩ v4).setCell ⟨p, 5, none⟩ v5).setCell ⟨p, 6, none⟩ v6).setCell ⟨p, 7, none⟩ v7).setCell ⟨p, 8, none⟩ v8).setCell ⟨p, 9, none⟩ v9).setCell ⟨p, 10, none⟩ v10).setCell ⟨p, 11, none⟩ v11).setCell ⟨p, 12, none⟩ v12).setCell ⟨p, 13, none⟩ v13)) :=
  (Below.setCell (p := ⟨p, 13, none⟩) (Below.setCell (p := ⟨p, 12, none⟩) (Below.setCell (p := ⟨p, 11, none⟩) (Below.setCell (p := ⟨p, 10, none⟩) (Below.setCell (p := ⟨p, 9, none⟩) (Below.setCell (p := ⟨p, 8, none⟩) (Below.setCell (p := ⟨p, 7, none⟩) (Below.setCell (p := ⟨p, 6, none⟩) (Below.setCell (p := ⟨p, 5, none⟩) (Below.setCell (p := ⟨p, 4, none⟩) (Below.setCell (p := ⟨p, 3, none⟩) (Below.setCell (p := ⟨p, 2, none⟩) (Below.setCell (p := ⟨p, 1, none⟩) (Below.setCell (p := ⟨p, 0, none⟩) hb h v0) h v1) h v2) h v3) h v4) h v5) h v6) h v7) h v8) h v9) h v10) h v11) h v12) h v13)
theorem size14 {w : World} {p : Nat} {v0 v1 v2 v3 v4 v5 v6 v7 v8 v9 v10 v11 v12 v13 : Value} : (((((((((((((((w.setCell ⟨p, 0, none⟩ v0).setCell ⟨p, 1, none⟩ v1).setCell ⟨p, 2, none⟩ v2).setCell ⟨p, 3, none⟩ v3).setCell ⟨p, 4, none⟩ v4).setCell ⟨p, 5, none⟩ v5).setCell ⟨p, 6, none⟩ v6).setCell ⟨p, 7, none⟩ v7).setCell ⟨p, 8, none⟩ v8).setCell ⟨p, 9, none⟩ v9).setCell ⟨p, 10, none⟩ v10).setCell ⟨p, 11, none⟩ v11).setCell ⟨p, 12, none⟩ v12).setCell ⟨p, 13, none⟩ v13)).heap.size = w.heap.size := by simp [World.setCell]
theorem IsS.idle {lo lo' : Nat → Prop} {w : World} {p : Nat} {c l last at_ : Int} (h : IsS lo w p c l last at_ none) (hl : ¬ lo' p) : IsS lo' w p c l last at_ none := ⟨h.ex, hl⟩
/-- what stays true of a session and the reference's -/
structure SesR (w wr : World) (p b : Nat) (c l : Int) (last : Nat) (at_ : Int) (wait : Option RqD) (qs : RqD) (sa : Option Addr) (sn sc : Nat) : Prop where
  is : IsS (fun x => x ≠ p ∧ x ≠ b) wr p c l last at_ wait
  box : wr.heap[b]? = some (.cells (ssC ⟨c, l, last, wait.isSome, qs, at_⟩ (.slice sa sn sc)) 32 (0, 0))
  q : ∀ q, wait = some q → qs = q ∧ sn = q.txn.ops.length ∧ SlE Enc.op (Hp w) wr (.slice sa sn sc) q.txn.ops ∧ q.okl
  below : Below w.heap.size w wr
  old : w.heap.size ≤ p ∧ p < b
theorem i64_mask (x : Int) (j : Nat) (hj : j < 63) : bits .and .i64 x (((2 ^ j - 1 : Nat) : Int)) = x % ((2 ^ j : Nat) : Int) := by
  have hm : 2 ^ j - 1 < 2 ^ 64 := Nat.lt_of_le_of_lt (Nat.sub_le _ _) (Nat.pow_lt_pow_right (by decide) (by omega))
  have hj' : 2 ^ j ≤ 2 ^ 62 := Nat.pow_le_pow_right (by decide) (by omega)
  have hp : 0 < 2 ^ j := Nat.two_pow_pos j
  have hd : ((2 ^ j : Nat) : Int) ∣ ((2 ^ 64 : Nat) : Int) := Int.natCast_dvd_natCast.2 (Nat.pow_dvd_pow 2 (by omega))
  have e1 : (BitVec.ofInt IntKind.i64.bits (((2 ^ j - 1 : Nat) : Int))).toNat = 2 ^ j - 1 := by
    rw [BitVec.ofInt_natCast, BitVec.toNat_ofNat]
    exact Nat.mod_eq_of_lt hm
  have e2 : ((BitVec.ofInt IntKind.i64.bits x).toNat : Int) = x % ((2 ^ 64 : Nat) : Int) := by
    rw [BitVec.toNat_ofInt]
    exact Int.toNat_of_nonneg (Int.emod_nonneg _ (by decide))
  have e3 : (((BitVec.ofInt IntKind.i64.bits x).toNat % 2 ^ j : Nat) : Int) = x % ((2 ^ j : Nat) : Int) := by
    rw [Int.natCast_emod, e2, Int.emod_emod_of_dvd _ hd]
  have h0 : 0 ≤ x % ((2 ^ j : Nat) : Int) := Int.emod_nonneg _ (by omega)
  have h1 : x % ((2 ^ j : Nat) : Int) < ((2 ^ j : Nat) : Int) := Int.emod_lt_of_pos _ (by omega)
  have e4 : bits .and .i64 x (((2 ^ j - 1 : Nat) : Int)) = IntKind.i64.wrap (((BitVec.ofInt IntKind.i64.bits x &&& BitVec.ofInt IntKind.i64.bits (((2 ^ j - 1 : Nat) : Int))).toNat : Nat) : Int) := rfl
  rw [e4, BitVec.toNat_and, e1, Nat.and_two_pow_sub_one_eq_mod, e3]
  refine IntWalk.i64_in _ ⟨by omega, ?_⟩
  have : ((2 ^ j : Nat) : Int) ≤ ((2 ^ 62 : Nat) : Int) := Int.ofNat_le.2 hj'
  have e5 : ((2 ^ 62 : Nat) : Int) = 4611686018427387904 := by decide
  omega
theorem and3 (x : Int) : ∃ i : Nat, i < 4 ∧ bits .and .i64 x 3 = (i : Int) := by
  have h : bits .and .i64 x 3 = x % 4 := i64_mask x 2 (by omega)
  have h0 : 0 ≤ x % 4 := Int.emod_nonneg _ (by decide)
  have h1 : x % 4 < 4 := Int.emod_lt_of_pos _ (by decide)
  obtain ⟨i, hi⟩ := Int.eq_ofNat_of_zero_le h0
  exact ⟨i, by omega, h.trans hi⟩
theorem SesR.ext {w wr W : World} {p b : Nat} {c l : Int} {last : Nat} {at_ : Int} {wait : Option RqD} {qs : RqD} {sa : Option Addr} {sn sc : Nat} (h : SesR w wr p b c l last at_ wait qs sa sn sc) (hb : Below wr.heap.size wr W) : SesR w W p b c l last at_ wait qs sa sn sc :=
  ⟨h.is.ext hb, blkk hb h.box, fun q hq => by obtain ⟨h1, h2, h3, h4⟩ := h.q q hq; exact ⟨h1, h2, h3.ext hb, h4⟩, below_call h.below hb, h.old⟩
theorem SesR.move {w wr W W' : World} {p b : Nat} {c l : Int} {last : Nat} {at_ : Int} {wait : Option RqD} {qs : RqD} {sa : Option Addr} {sn sc : Nat} (h : SesR w wr p b c l last at_ wait qs sa sn sc) (hb : Below wr.heap.size wr W)
    (hP : Put W W' b (.cells (ssC ⟨c, l, last, wait.isSome, qs, at_⟩ (.slice sa sn sc)) 32 (0, 0))) : SesR w W' p b c l last at_ wait qs sa sn sc := by
  have h' := h.ext hb
  have ho := h.old
  refine ⟨h'.is.same (hP.same fun hx => ?_), hP.blk, fun q hq => ?_, hP.below h'.below (by omega), ho⟩
  · rcases hx with hx | hx
    · exact hx.2 rfl
    · omega
  · obtain ⟨h1, h2, h3, h4⟩ := h'.q q hq
    exact ⟨h1, h2, h3.mono (hP.same fun hx => by have hx : b < w.heap.size := hx; omega), h4⟩
theorem SesR.drewN {w wr : World} {p b : Nat} {c l : Int} {last : Nat} {at_ : Int} {wait : Option RqD} {qs : RqD} {sa : Option Addr} {sn sc : Nat} (h : SesR w wr p b c l last at_ wait qs sa sn sc) (n : Nat) : SesR w (wr.drewN n) p b c l last at_ wait qs sa sn sc :=
  ⟨h.is.ext (below_drewN (Below.refl _ _) n), h.box, fun q hq => by obtain ⟨h1, h2, h3, h4⟩ := h.q q hq; exact ⟨h1, h2, h3.ext (below_drewN (Below.refl _ _) n), h4⟩, below_drewN h.below n, h.old⟩
theorem few_okl {q : RqD} (h : fewP q.txn) : q.okl := ⟨by have := h.1; omega, fun o ho => by have := (h.2.2 o ho).1; omega⟩
set_option maxRecDepth 100000 in
set_option maxHeartbeats 16000000 in
theorem sessions_law (c l : Int) (a : Option Addr) (n cp : Nat) (acts : List ActD) (w : World) (hT : TabW w) (hg0 : 0 < w.heap.size) (hs : SlE Enc.act (Hp w) w (.slice a n cp) acts) :
    Calls Tryd.prog 3 #[.int .i64 c, .int .i64 l, .slice a n cp] w (Yes w) := by
  obtain ⟨rfl, hcp⟩ := hs.len_le
  have HS := Lib.hid hs
  have HT := Lib.hid hT
  have HG := Lib.hid hg0
  clear hs hT hg0
  go_enter Tryd.func3, Tryd.ntmps3
  go_wp2_with fail
  refine (awake_any _ HT.out HG.out).mono ?_
  rintro e w1 ⟨rfl, hb1⟩
  have HW1 := Lib.hid hb1
  have hs1 := hb1.size
  clear hb1 HT HG
  go_wp2_with fail
  refine (open_any (fun x => x ≠ w1.heap.size) c l _ (fun h => h rfl)).mono ?_
  rintro e w2 ⟨rfl, his, hb2⟩
  have hp2 := his.lt
  have HI2 := Lib.hid his
  have HW2 : Hid (Below w.heap.size w w2) := below_call HW1.out hb2
  clear his hb2 HW1
  go_wp2
  have B3 := heap_alloc_new w2 (.cells (ssC ⟨c, l, (0 : Nat), false, RqD.none, 0⟩ (.slice none 0 0)) 32)
  have hR : SesR w (w2.alloc (.cells (ssC ⟨c, l, (0 : Nat), false, RqD.none, 0⟩ (.slice none 0 0)) 32)) w1.heap.size w2.heap.size c l 0 0 none RqD.none none 0 0 :=
    ⟨(HI2.out.idle (fun h => h.1 rfl)).ext (by ((repeat' (first | exact Below.refl _ _ | refine below_drewN ?_ _ | refine Below.drew ?_ | refine Below.alloc ?_ ?_ _ | refine Below.trans ?_ (Below.mono (by assumption) ?_))); all_goals (first | exact Nat.le_refl _ | exact Below.size (by assumption) | omega | (simp; done) | (simp; omega)))), B3, (fun q h => by cases h), below_new HW2.out _, by omega, hp2⟩
  simp only [ssC, RqD.none, TxD.none] at hR
  have HR := Lib.hid hR
  clear hR B3 HI2 HW2
  go_loopw [10, 11] (fun q10 q11 wr => ∃ (k : Nat) (now : Int) (last : Nat) (at_ : Int) (wait : Option RqD) (qs : RqD) (sa : Option Addr) (sn sc : Nat), k ≤ acts.length ∧ k ≤ 40 ∧ q10 = .int .i64 now ∧ q11 = .int .i64 k ∧ 0 ≤ now ∧ now ≤ 100 * (k : Int) ∧ 0 ≤ at_ ∧ at_ ≤ 4000 ∧ last ≤ k ∧ SesR w wr w1.heap.size w2.heap.size c l last at_ wait qs sa sn sc) (fun _ q11 _ => acts.length - (intOf q11).toNat)
  case atStart => exact ⟨0, 0, 0, 0, none, _, none, 0, 0, by omega, by omega, rfl, rfl, by omega, by omega, by omega, by omega, by omega, HR.out⟩
  case round =>
    obtain ⟨k, now, last, at_, wait, qs, sa, sn, sc, hk, hk40, rfl, rfl, hn0, hn1, ha0, ha1, hlk, hr⟩ := hrel
    have HRR := Lib.hid hr
    have HWR := Lib.hid hr.below
    have hsr := hr.below.size
    clear hr HR
    by_cases hlt : k < acts.length
    · by_cases hlt40 : k < 40
      · obtain ⟨b, off, oa, oc, da, dc, ka, kc, rfl, hb, ho, hd, hkk, hone, hc⟩ := Acts.at (HS.out.ext HWR.out) hlt
        have HO := Lib.hid ho
        have HD := Lib.hid hd
        have HK := Lib.hid hkk
        generalize acts[k] = act at *
        obtain ⟨kd, ⟨qc, ql, qs', qk, qi, qw, qn, ⟨qo, qops⟩⟩, ⟨pc, pl, ps, pe, pn, px, pt, ⟨pd, pk, po⟩⟩, tk⟩ := act
        simp only at hc ho hd hkk hone
        have HONE := Lib.hid hone
        have hL : wr.rangeAt b (off + k * 21) [.int .i64 kd, .int .i64 qc, .int .i64 ql, .int .i64 qs', .int .i64 qk, .int .i64 qi, .int .i64 qw, .int .i64 qn, .string qo, .slice oa qops.length oc, .int .i64 pc, .int .i64 pl, .int .i64 ps, .int .i64 pe, .int .i64 pn, .int .i64 px, .bool pt, .slice da pd.length dc, .slice ka pk.length kc, .int .i64 po, .int .i64 tk] := fun j v hv => (hc j (List.getElem?_eq_some_iff.1 hv).1).trans hv
        have HL := Lib.hid hL
        clear hL
        clear hc ho hd hkk hone
        go_wp2_with (first
          | ((with_reducible refine wpList_load_mid rfl 41 (.tmp 49) rfl b (off + k * 21) ?hx1 _ _ HL.out Tryd.underlying41 ?hd1 ?hi1 ?_); (case hx1 => rfl); (case hd1 => rfl); (case hi1 => kernel_rfl); simp only [Act.put, List.setIfInBounds_toArray, List.set_cons_zero, List.set_cons_succ])
          | ((with_reducible refine wpList_store_new rfl 41 (.tmp 12) (.tmp 50) rfl #[.int .i64 kd, .int .i64 qc, .int .i64 ql, .int .i64 qs', .int .i64 qk, .int .i64 qi, .int .i64 qw, .int .i64 qn, .string qo, .slice oa qops.length oc, .int .i64 pc, .int .i64 pl, .int .i64 ps, .int .i64 pe, .int .i64 pn, .int .i64 px, .bool pt, .slice da pd.length dc, .slice ka pk.length kc, .int .i64 po, .int .i64 tk] ?hx2 ?hy2 ?hn2 ?hi2 ?h12 ?_); (case hx2 => rfl); (case hy2 => rfl); (case hn2 => rfl); (case hi2 => kernel_rfl); (case h12 => exact all_oneCell_toArray HONE.out); simp only [Act.put, List.setIfInBounds_toArray, List.set_cons_zero, List.set_cons_succ]))
        refine (few_any (Hp w) ⟨qo, qops⟩ _ _ (HO.out.ext ((Below.refl _ _).alloc (Nat.le_refl _) _))).mono ?_
        rintro e w4 ⟨f, rfl, hfew, hb4⟩
        have A4 := Lib.hid (blkk hb4 (heap_alloc_new wr _))
        have hb4' : Below wr.heap.size wr w4 := below_call ((Below.refl _ _).alloc (Nat.le_refl _) _) hb4
        have hs4 := hb4'.size
        have HB4 := Lib.hid hb4'
        have hal : wr.heap.size < w4.heap.size := (Array.getElem?_eq_some_iff.1 A4.out).1
        clear hb4 hb4'
        rcases f with _ | _
        · clear hfew
          go_wp2
          go_ret
          exact ⟨rfl, below_call HWR.out HB4.out⟩
        have HF := Lib.hid (hfew rfl)
        clear hfew
        obtain ⟨y0, -⟩ := blk_cell (i := 0) A4.out
        obtain ⟨y20, -⟩ := blk_cell (i := 20) A4.out
        simp at y0 y20
        obtain ⟨kk, hkk4, hkk⟩ := and3 kd
        go_upto_region 14 with fail
        go_cut [10] (fun s10 wx => ∃ d : Int, 0 ≤ d ∧ d ≤ 100 ∧ s10 = .int .i64 (now + d) ∧ wx = w4)
        case first =>
          by_cases h1 : tk < 0
          · go_wp2
            go_meet
            exact ⟨0, by omega, by omega, by simp, rfl⟩
          · by_cases h2 : 100 < tk
            · go_wp2
              go_meet
              exact ⟨100, by omega, by omega, by simp, rfl⟩
            · go_wp2
              all_goals
                go_meet
                exact ⟨tk, by omega, by omega, by simp, rfl⟩
        case rest =>
          obtain ⟨d, hd0, hd1, rfl, rfl⟩ := hcut
          obtain ⟨nw, hnw⟩ : ∃ nw, nw = now + d := ⟨_, rfl⟩
          rw [← hnw]
          have hw0 : 0 ≤ nw := by omega
          have hw1 : nw ≤ 100 * ((k + 1 : Nat) : Int) := by omega
          have hw2 : nw ≤ 4000 := by omega
          clear hnw hd0 hd1
          have hold := HRR.out.old
          have hpb := HRR.out.is.lt
          have hbb := (Array.getElem?_eq_some_iff.1 HRR.out.box).1
          have B4 := Lib.hid (blkk HB4.out HRR.out.box)
          have hk' : (kk = 0 ∨ kk = 1) ∨ kk = 2 ∨ kk = 3 := by omega
          rcases hk' with hk' | rfl | rfl
          · rcases wait with _ | q0
            · simp only [Option.isSome_none] at B4
              rcases hk' with rfl | rfl
              all_goals
                as_aux_lemma =>
                  obtain ⟨a1, -⟩ := blk_cell (i := 1) A4.out
                  obtain ⟨a2, -⟩ := blk_cell (i := 2) A4.out
                  obtain ⟨a3, -⟩ := blk_cell (i := 3) A4.out
                  obtain ⟨a4, -⟩ := blk_cell (i := 4) A4.out
                  obtain ⟨a5, -⟩ := blk_cell (i := 5) A4.out
                  obtain ⟨a6, -⟩ := blk_cell (i := 6) A4.out
                  obtain ⟨a7, -⟩ := blk_cell (i := 7) A4.out
                  obtain ⟨a8, -⟩ := blk_cell (i := 8) A4.out
                  obtain ⟨a9, -⟩ := blk_cell (i := 9) A4.out
                  simp at a1 a2 a3 a4 a5 a6 a7 a8 a9
                  go_wp2_with fail
                  refine (ask_idle (Hp w) (fun x => x ≠ w1.heap.size ∧ x ≠ w2.heap.size) _ _ c l at_ nw last _ ⟨qc, ql, qs', qk, qi, qw, qn, ⟨qo, qops⟩⟩ (HRR.out.is.ext HB4.out) (by omega) ⟨_, rfl, HO.out.ext HB4.out⟩ (few_okl HF.out) (fun h => by have h : w1.heap.size < w.heap.size := h; have := HRR.out.old; omega) (fun x hx => by constructor <;> omega)).mono ?_
                  rintro e w5 ⟨v5, rfl, ⟨ov5, rfl, ho5⟩, is5, fr5⟩
                  obtain ⟨oa5, oc5, rfl⟩ := ho5.shape
                  have ec : ((last + 1 : Nat) : Int) = (last : Int) + 1 := by omega
                  rw [ec] at is5
                  have hs5 := fr5.size
                  have B5 := Lib.hid ((fr5.block w2.heap.size (by omega) (by show ¬ (w2.heap.size = w1.heap.size); omega)).trans B4.out)
                  have A5 := Lib.hid ((fr5.block wr.heap.size (by omega) (by show ¬ (wr.heap.size = w1.heap.size); omega)).trans A4.out)
                  have HW5 : Hid (Below w.heap.size w w5) := (below_call HWR.out HB4.out).trans (fr5.below (by have := HWR.out.size; omega) fun j hj e => by have e : j = w1.heap.size := e; omega)
                  have HO5 : Hid (SlE Enc.op (Hp w) w5 (.slice oa qops.length oc) qops) := (HO.out.ext HB4.out).mono (Same.of_fr fr5 fun x hx _ e => by have e : x = w1.heap.size := e; have hx : x < w.heap.size := hx; omega)
                  have HN5 := Lib.hid ho5
                  have IS5 := Lib.hid is5
                  clear ho5 is5 fr5
                  simp only [rqV, ec]
                  obtain ⟨d0, -⟩ := blk_cell (i := 0) B5.out
                  obtain ⟨d1, -⟩ := blk_cell (i := 1) B5.out
                  obtain ⟨d2, -⟩ := blk_cell (i := 2) B5.out
                  obtain ⟨d3, -⟩ := blk_cell (i := 3) B5.out
                  obtain ⟨d4, -⟩ := blk_cell (i := 4) B5.out
                  obtain ⟨d5, -⟩ := blk_cell (i := 5) B5.out
                  obtain ⟨d6, -⟩ := blk_cell (i := 6) B5.out
                  obtain ⟨d7, -⟩ := blk_cell (i := 7) B5.out
                  obtain ⟨d8, -⟩ := blk_cell (i := 8) B5.out
                  obtain ⟨d9, -⟩ := blk_cell (i := 9) B5.out
                  obtain ⟨d10, -⟩ := blk_cell (i := 10) B5.out
                  obtain ⟨d11, -⟩ := blk_cell (i := 11) B5.out
                  obtain ⟨d12, -⟩ := blk_cell (i := 12) B5.out
                  obtain ⟨d13, -⟩ := blk_cell (i := 13) B5.out
                  simp [ssC] at d0 d1 d2 d3 d4 d5 d6 d7 d8 d9 d10 d11 d12 d13
                  have lbx := (Array.getElem?_eq_some_iff.1 B5.out).1
                  obtain ⟨a1, -⟩ := blk_cell (i := 1) A5.out
                  obtain ⟨a2, -⟩ := blk_cell (i := 2) A5.out
                  obtain ⟨a3, -⟩ := blk_cell (i := 3) A5.out
                  obtain ⟨a4, -⟩ := blk_cell (i := 4) A5.out
                  obtain ⟨a5, -⟩ := blk_cell (i := 5) A5.out
                  obtain ⟨a6, -⟩ := blk_cell (i := 6) A5.out
                  obtain ⟨a7, -⟩ := blk_cell (i := 7) A5.out
                  obtain ⟨a8, -⟩ := blk_cell (i := 8) A5.out
                  obtain ⟨a9, -⟩ := blk_cell (i := 9) A5.out
                  simp at a1 a2 a3 a4 a5 a6 a7 a8 a9
                  have la5 := (Array.getElem?_eq_some_iff.1 A5.out).1
                  go_wp2_with fail
                  refine (rask_idle c l at_ nw last qs sa sn sc ⟨qc, ql, qs', qk, qi, qw, qn, ⟨qo, qops⟩⟩ oa qops.length oc _ (by omega)).mono ?_
                  rintro e w6 ⟨rfl, hb6⟩
                  have B6 := Lib.hid (blkk hb6 (blka B5.out _))
                  have N6 := Lib.hid (blkk hb6 (heap_alloc_new w5 _))
                  have HW6 : Hid (Below w.heap.size w w6) := below_call (below_new HW5.out _) hb6
                  have hb56 : Below w5.heap.size w5 w6 := below_call (below_new (Below.refl _ _) _) hb6
                  have HO6 := Lib.hid (HO5.out.ext hb56)
                  have HN6 := Lib.hid (HN5.out.ext hb56)
                  have IS6 := Lib.hid (IS5.out.ext hb56)
                  have hs6 := hb56.size
                  have ln6 := (Array.getElem?_eq_some_iff.1 N6.out).1
                  have lb6 := (Array.getElem?_eq_some_iff.1 B6.out).1
                  clear hb6 hb56 B5 A5 HW5 HO5 HN5 IS5 a1 a2 a3 a4 a5 a6 a7 a8 a9 d0 d1 d2 d3 d4 d5 d6 d7 d8 d9 d10 d11 d12 d13
                  simp only [ssC, rqC, ec]
                  have EC := Lib.hid ec
                  clear ec
                  go_wp2_with (first
                    | ((with_reducible refine wpList_store_put rfl 32 (.tmp 9) (.tmp 86) rfl w2.heap.size (ssC ⟨c, l, (last : Int) + 1, true, ⟨c, l, (last : Int) + 1, qk, qi, qw, qn, ⟨qo, qops⟩⟩, nw⟩ (.slice oa qops.length oc)) _ 32 ?hxA ?hyA (blka (blka B6.out _) _) ?hnA ?hiA ?h1A ?_); (case hxA => rfl); (case hyA => rfl); (case hnA => rfl); (case hiA => kernel_rfl); (case h1A => first | rfl | simp [ssC, Value.oneCell'])))
                  intro w7 hP
                  have hb67 : ∀ o1 o2, Below w6.heap.size w6 ((w6.alloc o1).alloc o2) := fun o1 o2 => below_new (below_new (Below.refl _ _) _) _
                  have B7 := Lib.hid hP.blk
                  have N7 := Lib.hid (hP.keep (by omega) (blka (blka N6.out _) _))
                  have M7 := Lib.hid (hP.keep (by omega) (heap_alloc2_new w6 _ _))
                  have hs7 := hP.size
                  simp only [World.size_alloc] at hs7
                  have HW7 : Hid (Below w.heap.size w w7) := hP.below (below_new (below_new HW6.out _) _) (by have := HRR.out.old; omega)
                  have HO7 : Hid (SlE Enc.op (Hp w) w7 (.slice oa qops.length oc) qops) := (HO6.out.ext (hb67 _ _)).mono (hP.same fun h => by have h : w2.heap.size < w.heap.size := h; have := HRR.out.old; omega)
                  have HN7 : Hid (SlE Enc.op (fun x => wc.heap.size ≤ x) w7 (.slice oa5 qops.length oc5) qops) := (HN6.out.ext (hb67 _ _)).mono (hP.same fun h => by have h : wc.heap.size ≤ w2.heap.size := h; omega)
                  have IS7 : Hid (IsS (fun x => x ≠ w1.heap.size ∧ x ≠ w2.heap.size) w7 w1.heap.size c l ((last : Int) + 1) nw (some ⟨c, l, (last : Int) + 1, qk, qi, qw, qn, ⟨qo, qops⟩⟩)) := (IS6.out.ext (hb67 _ _)).same (hP.same fun h => by rcases h with h | h; exact h.2 rfl; have := HRR.out.old; omega)
                  clear hP hb67 B6 N6 HW6 HO6 HN6 IS6
                  obtain ⟨n0, n1, n2, n3, n4, n5, n6, n7, n8, nl⟩ := rq_cells (q := ⟨c, l, (last : Int) + 1, qk, qi, qw, qn, ⟨qo, qops⟩⟩) N7.out
                  obtain ⟨m0, m1, m2, m3, m4, m5, m6, m7, m8, ml⟩ := rq_cells (q := ⟨c, l, (last : Int) + 1, qk, qi, qw, qn, ⟨qo, qops⟩⟩) M7.out
                  simp only at n0 n1 n2 n3 n4 n5 n6 n7 n8 m0 m1 m2 m3 m4 m5 m6 m7 m8
                  go_wp2_with fail
                  refine (samerq_yes _ _ ⟨c, l, (last : Int) + 1, qk, qi, qw, qn, ⟨qo, qops⟩⟩ _ _ _ ⟨_, rfl, HN7.out⟩ ⟨_, rfl, HO7.out⟩ (by have := HF.out.1; simp only at this ⊢; omega)).mono ?_
                  rintro e w8 ⟨rfl, hb8⟩
                  have hR : SesR w w8 w1.heap.size w2.heap.size c l (last + 1) nw (some ⟨c, l, (last : Int) + 1, qk, qi, qw, qn, ⟨qo, qops⟩⟩) ⟨c, l, (last : Int) + 1, qk, qi, qw, qn, ⟨qo, qops⟩⟩ oa qops.length oc := ⟨by rw [EC.out]; exact IS7.out.ext hb8, by rw [EC.out]; exact blkk hb8 B7.out, fun q hq => by cases hq; exact ⟨rfl, rfl, HO7.out.ext hb8, few_okl HF.out⟩, below_call HW7.out hb8, HRR.out.old⟩
                  have HR8 := Lib.hid hR
                  clear hR hb8 B7 N7 M7 HW7 HO7 HN7 IS7 n0 n1 n2 n3 n4 n5 n6 n7 n8 m0 m1 m2 m3 m4 m5 m6 m7 m8
                  obtain ⟨x3, -⟩ := blk_cell (i := 3) HR8.out.box
                  have lb := (Array.getElem?_eq_some_iff.1 HR8.out.box).1
                  simp [ssC] at x3
                  have hsb : ∀ nq, Calls Tryd.prog 18 #[.pointer (some ⟨w1.heap.size, 0, none⟩)] (w8.drewN nq) fun e w' => e = .returned (.bool true) ∧ w' = w8.drewN nq := fun nq => (busy_any (fun x => x ≠ w1.heap.size ∧ x ≠ w2.heap.size) _ _ _ _ _ _ (some ⟨c, l, (last : Int) + 1, qk, qi, qw, qn, ⟨qo, qops⟩⟩) (HR8.out.is.ext (below_drewN (Below.refl _ _) nq))).mono fun e w' ⟨h1, h2⟩ => ⟨h1, h2.symm⟩
                  have HSB := Lib.hid hsb
                  clear hsb
                  go_wp2_with fail
                  go_quiet ((go_at_call 18; exact Calls.quiet_of_same (HSB.out _)))
                  go_wp2
                  go_roundw
                  case rel => exact ⟨k + 1, nw, last + 1, nw, some ⟨c, l, (last : Int) + 1, qk, qi, qw, qn, ⟨qo, qops⟩⟩, ⟨c, l, (last : Int) + 1, qk, qi, qw, qn, ⟨qo, qops⟩⟩, oa, qops.length, oc, by omega, by omega, rfl, by go_num, hw0, hw1, hw0, hw2, by omega, HR8.out.drewN _⟩
                  case measure => simp [intOf]; omega
            · simp only [Option.isSome_some] at B4
              rcases hk' with rfl | rfl
              all_goals
                as_aux_lemma =>
                  obtain ⟨a1, -⟩ := blk_cell (i := 1) A4.out
                  obtain ⟨a2, -⟩ := blk_cell (i := 2) A4.out
                  obtain ⟨a3, -⟩ := blk_cell (i := 3) A4.out
                  obtain ⟨a4, -⟩ := blk_cell (i := 4) A4.out
                  obtain ⟨a5, -⟩ := blk_cell (i := 5) A4.out
                  obtain ⟨a6, -⟩ := blk_cell (i := 6) A4.out
                  obtain ⟨a7, -⟩ := blk_cell (i := 7) A4.out
                  obtain ⟨a8, -⟩ := blk_cell (i := 8) A4.out
                  obtain ⟨a9, -⟩ := blk_cell (i := 9) A4.out
                  simp at a1 a2 a3 a4 a5 a6 a7 a8 a9
                  go_wp2_with fail
                  refine (ask_busy (fun x => x ≠ w1.heap.size ∧ x ≠ w2.heap.size) _ w1.heap.size c l last at_ nw q0 ⟨qc, ql, qs', qk, qi, qw, qn, ⟨qo, qops⟩⟩ _ (HRR.out.is.ext HB4.out)).mono ?_
                  rintro e w5 ⟨rfl, hb5⟩
                  have B5 := Lib.hid (blkk hb5 B4.out)
                  have A5 := Lib.hid (blkk hb5 A4.out)
                  have HB5 := Lib.hid (below_call HB4.out hb5)
                  clear hb5 a1 a2 a3 a4 a5 a6 a7 a8 a9
                  simp only [rqV, RqD.none, TxD.none]
                  obtain ⟨d0, -⟩ := blk_cell (i := 0) B5.out
                  obtain ⟨d1, -⟩ := blk_cell (i := 1) B5.out
                  obtain ⟨d2, -⟩ := blk_cell (i := 2) B5.out
                  obtain ⟨d3, -⟩ := blk_cell (i := 3) B5.out
                  obtain ⟨d4, -⟩ := blk_cell (i := 4) B5.out
                  obtain ⟨d5, -⟩ := blk_cell (i := 5) B5.out
                  obtain ⟨d6, -⟩ := blk_cell (i := 6) B5.out
                  obtain ⟨d7, -⟩ := blk_cell (i := 7) B5.out
                  obtain ⟨d8, -⟩ := blk_cell (i := 8) B5.out
                  obtain ⟨d9, -⟩ := blk_cell (i := 9) B5.out
                  obtain ⟨d10, -⟩ := blk_cell (i := 10) B5.out
                  obtain ⟨d11, -⟩ := blk_cell (i := 11) B5.out
                  obtain ⟨d12, -⟩ := blk_cell (i := 12) B5.out
                  obtain ⟨d13, -⟩ := blk_cell (i := 13) B5.out
                  simp [ssC] at d0 d1 d2 d3 d4 d5 d6 d7 d8 d9 d10 d11 d12 d13
                  have lbx := (Array.getElem?_eq_some_iff.1 B5.out).1
                  obtain ⟨a1, -⟩ := blk_cell (i := 1) A5.out
                  obtain ⟨a2, -⟩ := blk_cell (i := 2) A5.out
                  obtain ⟨a3, -⟩ := blk_cell (i := 3) A5.out
                  obtain ⟨a4, -⟩ := blk_cell (i := 4) A5.out
                  obtain ⟨a5, -⟩ := blk_cell (i := 5) A5.out
                  obtain ⟨a6, -⟩ := blk_cell (i := 6) A5.out
                  obtain ⟨a7, -⟩ := blk_cell (i := 7) A5.out
                  obtain ⟨a8, -⟩ := blk_cell (i := 8) A5.out
                  obtain ⟨a9, -⟩ := blk_cell (i := 9) A5.out
                  simp at a1 a2 a3 a4 a5 a6 a7 a8 a9
                  have la5 := (Array.getElem?_eq_some_iff.1 A5.out).1
                  go_wp2_with fail
                  refine (rask_busy ⟨c, l, last, true, qs, at_⟩ sa sn sc ⟨qc, ql, qs', qk, qi, qw, qn, ⟨qo, qops⟩⟩ oa qops.length oc nw _ rfl).mono ?_
                  rintro e w6 ⟨rfl, hb6⟩
                  have B6 := Lib.hid (blkk hb6 (blka B5.out _))
                  have N6 := Lib.hid (blkk hb6 (heap_alloc_new w5 _))
                  have HB6 := Lib.hid (below_call (below_new HB5.out _) hb6)
                  have ln6 := (Array.getElem?_eq_some_iff.1 N6.out).1
                  have lb6 := (Array.getElem?_eq_some_iff.1 B6.out).1
                  have hs6 := HB6.out.size
                  clear hb6 B5 A5 HB5 d0 d1 d2 d3 d4 d5 d6 d7 d8 d9 d10 d11 d12 d13 a1 a2 a3 a4 a5 a6 a7 a8 a9
                  simp only [ssC, rq0]
                  go_wp2_with (first
                    | ((with_reducible refine wpList_store_put rfl 32 (.tmp 9) (.tmp 86) rfl w2.heap.size (ssC ⟨c, l, last, true, qs, at_⟩ (.slice sa sn sc)) _ 32 ?hxB ?hyB (blka (blka B6.out _) _) ?hnB ?hiB ?h1B ?_); (case hxB => rfl); (case hyB => rfl); (case hnB => rfl); (case hiB => kernel_rfl); (case h1B => first | rfl | simp [ssC, Value.oneCell'])))
                  intro w7 hP
                  have HR7 := Lib.hid (HRR.out.move (below_new (below_new HB6.out _) _) hP)
                  have N7 := Lib.hid (hP.keep (by omega) (blka (blka N6.out _) _))
                  have M7 := Lib.hid (hP.keep (by omega) (heap_alloc2_new w6 _ _))
                  clear hP B6 N6 HB6
                  obtain ⟨n0, n1, n2, n3, n4, n5, n6, n7, n8, nl⟩ := rq_cells (q := RqD.none) (ov := .slice none 0 0) N7.out
                  obtain ⟨m0, m1, m2, m3, m4, m5, m6, m7, m8, ml⟩ := rq_cells (q := RqD.none) (ov := .slice none 0 0) M7.out
                  simp only [RqD.none, TxD.none] at n0 n1 n2 n3 n4 n5 n6 n7 n8 m0 m1 m2 m3 m4 m5 m6 m7 m8
                  go_wp2_with fail
                  refine (samerq_yes (fun _ => False) (fun _ => False) RqD.none _ _ _ ⟨.slice none 0 0, rfl, SlE.nil _ _ _⟩ ⟨.slice none 0 0, rfl, SlE.nil _ _ _⟩ (by simp [RqD.none, TxD.none])).mono ?_
                  rintro e w8 ⟨rfl, hb8⟩
                  have HR8 := Lib.hid (HR7.out.ext hb8)
                  clear hb8 N7 M7 HR7 n0 n1 n2 n3 n4 n5 n6 n7 n8 m0 m1 m2 m3 m4 m5 m6 m7 m8
                  obtain ⟨x3, -⟩ := blk_cell (i := 3) HR8.out.box
                  have lb := (Array.getElem?_eq_some_iff.1 HR8.out.box).1
                  simp [ssC] at x3
                  have hsb : ∀ nq, Calls Tryd.prog 18 #[.pointer (some ⟨w1.heap.size, 0, none⟩)] (w8.drewN nq) fun e w' => e = .returned (.bool true) ∧ w' = w8.drewN nq := fun nq => (busy_any (fun x => x ≠ w1.heap.size ∧ x ≠ w2.heap.size) _ _ _ _ _ _ (some q0) (HR8.out.is.ext (below_drewN (Below.refl _ _) nq))).mono fun e w' ⟨h1, h2⟩ => ⟨h1, h2.symm⟩
                  have HSB := Lib.hid hsb
                  clear hsb
                  go_wp2_with fail
                  go_quiet ((go_at_call 18; exact Calls.quiet_of_same (HSB.out _)))
                  go_wp2
                  go_roundw
                  case rel => exact ⟨k + 1, nw, last, at_, (some q0), qs, sa, sn, sc, by omega, by omega, rfl, by go_num, hw0, hw1, ha0, ha1, by omega, HR8.out.drewN _⟩
                  case measure => simp [intOf]; omega
          · rcases wait with _ | q0
            · simp only [Option.isSome_none] at B4
              as_aux_lemma =>
                go_wp2_with fail
                refine (due_idle (fun x => x ≠ w1.heap.size ∧ x ≠ w2.heap.size) _ w1.heap.size c l last at_ nw (HRR.out.is.ext HB4.out)).mono ?_
                rintro e w5 ⟨rfl, hb5⟩
                have B5 := Lib.hid (blkk hb5 B4.out)
                have A5 := Lib.hid (blkk hb5 A4.out)
                have HB5 := Lib.hid (below_call HB4.out hb5)
                clear hb5
                simp only [rqV, RqD.none, TxD.none]
                obtain ⟨d0, -⟩ := blk_cell (i := 0) B5.out
                obtain ⟨d1, -⟩ := blk_cell (i := 1) B5.out
                obtain ⟨d2, -⟩ := blk_cell (i := 2) B5.out
                obtain ⟨d3, -⟩ := blk_cell (i := 3) B5.out
                obtain ⟨d4, -⟩ := blk_cell (i := 4) B5.out
                obtain ⟨d5, -⟩ := blk_cell (i := 5) B5.out
                obtain ⟨d6, -⟩ := blk_cell (i := 6) B5.out
                obtain ⟨d7, -⟩ := blk_cell (i := 7) B5.out
                obtain ⟨d8, -⟩ := blk_cell (i := 8) B5.out
                obtain ⟨d9, -⟩ := blk_cell (i := 9) B5.out
                obtain ⟨d10, -⟩ := blk_cell (i := 10) B5.out
                obtain ⟨d11, -⟩ := blk_cell (i := 11) B5.out
                obtain ⟨d12, -⟩ := blk_cell (i := 12) B5.out
                obtain ⟨d13, -⟩ := blk_cell (i := 13) B5.out
                simp [ssC] at d0 d1 d2 d3 d4 d5 d6 d7 d8 d9 d10 d11 d12 d13
                have lbx := (Array.getElem?_eq_some_iff.1 B5.out).1
                have la5 := (Array.getElem?_eq_some_iff.1 A5.out).1
                go_wp2_with fail
                refine (rdue_no ⟨c, l, last, false, qs, at_⟩ sa sn sc nw _ ⟨ha0, Int.le_trans ha1 (by decide)⟩ ⟨hw0, by omega⟩ (.inl rfl)).mono ?_
                rintro e w6 ⟨rfl, hb6⟩
                have B6 := Lib.hid (blkk hb6 (blka B5.out _))
                have N6 := Lib.hid (blkk hb6 (heap_alloc_new w5 _))
                have HB6 := Lib.hid (below_call (below_new HB5.out _) hb6)
                have ln6 := (Array.getElem?_eq_some_iff.1 N6.out).1
                have lb6 := (Array.getElem?_eq_some_iff.1 B6.out).1
                have hs6 := HB6.out.size
                clear hb6 B5 A5 HB5 d0 d1 d2 d3 d4 d5 d6 d7 d8 d9 d10 d11 d12 d13
                simp only [ssC, rq0]
                go_wp2_with (first
                  | ((with_reducible refine wpList_store_put rfl 32 (.tmp 9) (.tmp 110) rfl w2.heap.size (ssC ⟨c, l, last, false, qs, at_⟩ (.slice sa sn sc)) _ 32 ?hxC ?hyC (blka (blka B6.out _) _) ?hnC ?hiC ?h1C ?_); (case hxC => rfl); (case hyC => rfl); (case hnC => rfl); (case hiC => kernel_rfl); (case h1C => first | rfl | simp [ssC, Value.oneCell'])))
                intro w7 hP
                have HR7 := Lib.hid (HRR.out.move (below_new (below_new HB6.out _) _) hP)
                have N7 := Lib.hid (hP.keep (by omega) (blka (blka N6.out _) _))
                have M7 := Lib.hid (hP.keep (by omega) (heap_alloc2_new w6 _ _))
                clear hP B6 N6 HB6
                obtain ⟨n0, n1, n2, n3, n4, n5, n6, n7, n8, nl⟩ := rq_cells (q := RqD.none) (ov := .slice none 0 0) N7.out
                obtain ⟨m0, m1, m2, m3, m4, m5, m6, m7, m8, ml⟩ := rq_cells (q := RqD.none) (ov := .slice none 0 0) M7.out
                simp only [RqD.none, TxD.none] at n0 n1 n2 n3 n4 n5 n6 n7 n8 m0 m1 m2 m3 m4 m5 m6 m7 m8
                go_wp2_with fail
                refine (samerq_yes (fun _ => False) (fun _ => False) RqD.none _ _ _ ⟨.slice none 0 0, rfl, SlE.nil _ _ _⟩ ⟨.slice none 0 0, rfl, SlE.nil _ _ _⟩ (by simp [RqD.none, TxD.none])).mono ?_
                rintro e w8 ⟨rfl, hb8⟩
                have HR8 := Lib.hid (HR7.out.ext hb8)
                clear hb8 N7 M7 HR7 n0 n1 n2 n3 n4 n5 n6 n7 n8 m0 m1 m2 m3 m4 m5 m6 m7 m8
                obtain ⟨x3, -⟩ := blk_cell (i := 3) HR8.out.box
                have lb := (Array.getElem?_eq_some_iff.1 HR8.out.box).1
                simp [ssC] at x3
                have hsb : ∀ nq, Calls Tryd.prog 18 #[.pointer (some ⟨w1.heap.size, 0, none⟩)] (w8.drewN nq) fun e w' => e = .returned (.bool false) ∧ w' = w8.drewN nq := fun nq => (busy_any (fun x => x ≠ w1.heap.size ∧ x ≠ w2.heap.size) _ _ _ _ _ _ none (HR8.out.is.ext (below_drewN (Below.refl _ _) nq))).mono fun e w' ⟨h1, h2⟩ => ⟨h1, h2.symm⟩
                have HSB := Lib.hid hsb
                clear hsb
                go_wp2_with fail
                go_quiet ((go_at_call 18; exact Calls.quiet_of_same (HSB.out _)))
                go_wp2
                go_roundw
                case rel => exact ⟨k + 1, nw, last, at_, none, qs, sa, sn, sc, by omega, by omega, rfl, by go_num, hw0, hw1, ha0, ha1, by omega, HR8.out.drewN _⟩
                case measure => simp [intOf]; omega
            · simp only [Option.isSome_some] at B4
              by_cases hearly : nw < at_ ∨ nw - at_ < 4
              · as_aux_lemma =>
                  go_wp2_with fail
                  refine (due_early (fun x => x ≠ w1.heap.size ∧ x ≠ w2.heap.size) _ w1.heap.size c l last at_ nw q0 (HRR.out.is.ext HB4.out) ⟨ha0, by omega⟩ ⟨hw0, by omega⟩ hearly).mono ?_
                  rintro e w5 ⟨rfl, hb5⟩
                  have B5 := Lib.hid (blkk hb5 B4.out)
                  have A5 := Lib.hid (blkk hb5 A4.out)
                  have HB5 := Lib.hid (below_call HB4.out hb5)
                  clear hb5
                  simp only [rqV, RqD.none, TxD.none]
                  obtain ⟨d0, -⟩ := blk_cell (i := 0) B5.out
                  obtain ⟨d1, -⟩ := blk_cell (i := 1) B5.out
                  obtain ⟨d2, -⟩ := blk_cell (i := 2) B5.out
                  obtain ⟨d3, -⟩ := blk_cell (i := 3) B5.out
                  obtain ⟨d4, -⟩ := blk_cell (i := 4) B5.out
                  obtain ⟨d5, -⟩ := blk_cell (i := 5) B5.out
                  obtain ⟨d6, -⟩ := blk_cell (i := 6) B5.out
                  obtain ⟨d7, -⟩ := blk_cell (i := 7) B5.out
                  obtain ⟨d8, -⟩ := blk_cell (i := 8) B5.out
                  obtain ⟨d9, -⟩ := blk_cell (i := 9) B5.out
                  obtain ⟨d10, -⟩ := blk_cell (i := 10) B5.out
                  obtain ⟨d11, -⟩ := blk_cell (i := 11) B5.out
                  obtain ⟨d12, -⟩ := blk_cell (i := 12) B5.out
                  obtain ⟨d13, -⟩ := blk_cell (i := 13) B5.out
                  simp [ssC] at d0 d1 d2 d3 d4 d5 d6 d7 d8 d9 d10 d11 d12 d13
                  have lbx := (Array.getElem?_eq_some_iff.1 B5.out).1
                  have la5 := (Array.getElem?_eq_some_iff.1 A5.out).1
                  go_wp2_with fail
                  refine (rdue_no ⟨c, l, last, true, qs, at_⟩ sa sn sc nw _ ⟨ha0, Int.le_trans ha1 (by decide)⟩ ⟨hw0, by omega⟩ (.inr hearly)).mono ?_
                  rintro e w6 ⟨rfl, hb6⟩
                  have B6 := Lib.hid (blkk hb6 (blka B5.out _))
                  have N6 := Lib.hid (blkk hb6 (heap_alloc_new w5 _))
                  have HB6 := Lib.hid (below_call (below_new HB5.out _) hb6)
                  have ln6 := (Array.getElem?_eq_some_iff.1 N6.out).1
                  have lb6 := (Array.getElem?_eq_some_iff.1 B6.out).1
                  have hs6 := HB6.out.size
                  clear hb6 B5 A5 HB5 d0 d1 d2 d3 d4 d5 d6 d7 d8 d9 d10 d11 d12 d13
                  simp only [ssC, rq0]
                  go_wp2_with (first
                    | ((with_reducible refine wpList_store_put rfl 32 (.tmp 9) (.tmp 110) rfl w2.heap.size (ssC ⟨c, l, last, true, qs, at_⟩ (.slice sa sn sc)) _ 32 ?hxD ?hyD (blka (blka B6.out _) _) ?hnD ?hiD ?h1D ?_); (case hxD => rfl); (case hyD => rfl); (case hnD => rfl); (case hiD => kernel_rfl); (case h1D => first | rfl | simp [ssC, Value.oneCell'])))
                  intro w7 hP
                  have HR7 := Lib.hid (HRR.out.move (below_new (below_new HB6.out _) _) hP)
                  have N7 := Lib.hid (hP.keep (by omega) (blka (blka N6.out _) _))
                  have M7 := Lib.hid (hP.keep (by omega) (heap_alloc2_new w6 _ _))
                  clear hP B6 N6 HB6
                  obtain ⟨n0, n1, n2, n3, n4, n5, n6, n7, n8, nl⟩ := rq_cells (q := RqD.none) (ov := .slice none 0 0) N7.out
                  obtain ⟨m0, m1, m2, m3, m4, m5, m6, m7, m8, ml⟩ := rq_cells (q := RqD.none) (ov := .slice none 0 0) M7.out
                  simp only [RqD.none, TxD.none] at n0 n1 n2 n3 n4 n5 n6 n7 n8 m0 m1 m2 m3 m4 m5 m6 m7 m8
                  go_wp2_with fail
                  refine (samerq_yes (fun _ => False) (fun _ => False) RqD.none _ _ _ ⟨.slice none 0 0, rfl, SlE.nil _ _ _⟩ ⟨.slice none 0 0, rfl, SlE.nil _ _ _⟩ (by simp [RqD.none, TxD.none])).mono ?_
                  rintro e w8 ⟨rfl, hb8⟩
                  have HR8 := Lib.hid (HR7.out.ext hb8)
                  clear hb8 N7 M7 HR7 n0 n1 n2 n3 n4 n5 n6 n7 n8 m0 m1 m2 m3 m4 m5 m6 m7 m8
                  obtain ⟨x3, -⟩ := blk_cell (i := 3) HR8.out.box
                  have lb := (Array.getElem?_eq_some_iff.1 HR8.out.box).1
                  simp [ssC] at x3
                  have hsb : ∀ nq, Calls Tryd.prog 18 #[.pointer (some ⟨w1.heap.size, 0, none⟩)] (w8.drewN nq) fun e w' => e = .returned (.bool true) ∧ w' = w8.drewN nq := fun nq => (busy_any (fun x => x ≠ w1.heap.size ∧ x ≠ w2.heap.size) _ _ _ _ _ _ (some q0) (HR8.out.is.ext (below_drewN (Below.refl _ _) nq))).mono fun e w' ⟨h1, h2⟩ => ⟨h1, h2.symm⟩
                  have HSB := Lib.hid hsb
                  clear hsb
                  go_wp2_with fail
                  go_quiet ((go_at_call 18; exact Calls.quiet_of_same (HSB.out _)))
                  go_wp2
                  go_roundw
                  case rel => exact ⟨k + 1, nw, last, at_, (some q0), qs, sa, sn, sc, by omega, by omega, rfl, by go_num, hw0, hw1, ha0, ha1, by omega, HR8.out.drewN _⟩
                  case measure => simp [intOf]; omega
              · obtain ⟨rfl, rfl, hq3, hq4⟩ := HRR.out.q q0 rfl
                as_aux_lemma =>
                  have HQ3 := Lib.hid (hq3.ext HB4.out)
                  have HQ4 := Lib.hid hq4
                  clear hq3 hq4
                  go_wp2_with fail
                  refine (due_yes (fun x => x ≠ w1.heap.size ∧ x ≠ w2.heap.size) _ w1.heap.size c l last at_ nw qs (HRR.out.is.ext HB4.out) HQ4.out ⟨ha0, by omega⟩ ⟨hw0, by omega⟩ (by omega) (by omega)).mono ?_
                  rintro e w5 ⟨v5, rfl, ⟨ov5, rfl, ho5⟩, is5, fr5⟩
                  obtain ⟨oa5, oc5, rfl⟩ := ho5.shape
                  have hs5 := fr5.size
                  have B5 := Lib.hid ((fr5.block w2.heap.size (by omega) (by show ¬ (w2.heap.size = w1.heap.size); omega)).trans B4.out)
                  have HW5 : Hid (Below w.heap.size w w5) := (below_call HWR.out HB4.out).trans (fr5.below (by have := HWR.out.size; omega) fun j hj e => by have e : j = w1.heap.size := e; omega)
                  have HO5 : Hid (SlE Enc.op (Hp w) w5 (.slice sa qs.txn.ops.length sc) qs.txn.ops) := HQ3.out.mono (Same.of_fr fr5 fun x hx _ e => by have e : x = w1.heap.size := e; have hx : x < w.heap.size := hx; omega)
                  have HN5 := Lib.hid ho5
                  have IS5 := Lib.hid is5
                  clear ho5 is5 fr5
                  simp only [rqV]
                  obtain ⟨d0, -⟩ := blk_cell (i := 0) B5.out
                  obtain ⟨d1, -⟩ := blk_cell (i := 1) B5.out
                  obtain ⟨d2, -⟩ := blk_cell (i := 2) B5.out
                  obtain ⟨d3, -⟩ := blk_cell (i := 3) B5.out
                  obtain ⟨d4, -⟩ := blk_cell (i := 4) B5.out
                  obtain ⟨d5, -⟩ := blk_cell (i := 5) B5.out
                  obtain ⟨d6, -⟩ := blk_cell (i := 6) B5.out
                  obtain ⟨d7, -⟩ := blk_cell (i := 7) B5.out
                  obtain ⟨d8, -⟩ := blk_cell (i := 8) B5.out
                  obtain ⟨d9, -⟩ := blk_cell (i := 9) B5.out
                  obtain ⟨d10, -⟩ := blk_cell (i := 10) B5.out
                  obtain ⟨d11, -⟩ := blk_cell (i := 11) B5.out
                  obtain ⟨d12, -⟩ := blk_cell (i := 12) B5.out
                  obtain ⟨d13, -⟩ := blk_cell (i := 13) B5.out
                  simp [ssC] at d0 d1 d2 d3 d4 d5 d6 d7 d8 d9 d10 d11 d12 d13
                  have lbx := (Array.getElem?_eq_some_iff.1 B5.out).1
                  go_wp2_with fail
                  refine (rdue_yes ⟨c, l, last, true, qs, at_⟩ sa qs.txn.ops.length sc nw _ rfl ⟨ha0, Int.le_trans ha1 (by decide)⟩ ⟨hw0, by omega⟩ (by simp only; omega) (by simp only; omega)).mono ?_
                  rintro e w6 ⟨rfl, hb6⟩
                  have B6 := Lib.hid (blkk hb6 (blka B5.out _))
                  have N6 := Lib.hid (blkk hb6 (heap_alloc_new w5 _))
                  have HW6 : Hid (Below w.heap.size w w6) := below_call (below_new HW5.out _) hb6
                  have hb56 : Below w5.heap.size w5 w6 := below_call (below_new (Below.refl _ _) _) hb6
                  have HO6 := Lib.hid (HO5.out.ext hb56)
                  have HN6 := Lib.hid (HN5.out.ext hb56)
                  have IS6 := Lib.hid (IS5.out.ext hb56)
                  have hs6 := hb56.size
                  have ln6 := (Array.getElem?_eq_some_iff.1 N6.out).1
                  have lb6 := (Array.getElem?_eq_some_iff.1 B6.out).1
                  clear hb6 hb56 B5 HW5 HO5 HN5 IS5 d0 d1 d2 d3 d4 d5 d6 d7 d8 d9 d10 d11 d12 d13
                  simp only [ssC, rqC]
                  go_wp2_with (first
                    | ((with_reducible refine wpList_store_put rfl 32 (.tmp 9) (.tmp 110) rfl w2.heap.size (ssC ⟨c, l, last, true, qs, nw⟩ (.slice sa qs.txn.ops.length sc)) _ 32 ?hxE ?hyE (blka (blka B6.out _) _) ?hnE ?hiE ?h1E ?_); (case hxE => rfl); (case hyE => rfl); (case hnE => rfl); (case hiE => kernel_rfl); (case h1E => first | rfl | simp [ssC, Value.oneCell'])))
                  intro w7 hP
                  have hb67 : ∀ o1 o2, Below w6.heap.size w6 ((w6.alloc o1).alloc o2) := fun o1 o2 => below_new (below_new (Below.refl _ _) _) _
                  have B7 := Lib.hid hP.blk
                  have N7 := Lib.hid (hP.keep (by omega) (blka (blka N6.out _) _))
                  have M7 := Lib.hid (hP.keep (by omega) (heap_alloc2_new w6 _ _))
                  have hs7 := hP.size
                  simp only [World.size_alloc] at hs7
                  have HW7 : Hid (Below w.heap.size w w7) := hP.below (below_new (below_new HW6.out _) _) (by omega)
                  have HO7 : Hid (SlE Enc.op (Hp w) w7 (.slice sa qs.txn.ops.length sc) qs.txn.ops) := (HO6.out.ext (hb67 _ _)).mono (hP.same fun h => by have h : w2.heap.size < w.heap.size := h; omega)
                  have HN7 : Hid (SlE Enc.op (fun x => wc.heap.size ≤ x) w7 (.slice oa5 qs.txn.ops.length oc5) qs.txn.ops) := (HN6.out.ext (hb67 _ _)).mono (hP.same fun h => by have h : wc.heap.size ≤ w2.heap.size := h; omega)
                  have IS7 : Hid (IsS (fun x => x ≠ w1.heap.size ∧ x ≠ w2.heap.size) w7 w1.heap.size c l last nw (some qs)) := (IS6.out.ext (hb67 _ _)).same (hP.same fun h => by rcases h with h | h; exact h.2 rfl; omega)
                  clear hP hb67 B6 N6 HW6 HO6 HN6 IS6
                  obtain ⟨n0, n1, n2, n3, n4, n5, n6, n7, n8, nl⟩ := rq_cells (q := qs) N7.out
                  obtain ⟨m0, m1, m2, m3, m4, m5, m6, m7, m8, ml⟩ := rq_cells (q := qs) M7.out
                  go_wp2_with fail
                  refine (samerq_yes _ _ qs _ _ _ ⟨_, rfl, HN7.out⟩ ⟨_, rfl, HO7.out⟩ (by have := HQ4.out.ops; omega)).mono ?_
                  rintro e w8 ⟨rfl, hb8⟩
                  have hR : SesR w w8 w1.heap.size w2.heap.size c l last nw (some qs) qs sa qs.txn.ops.length sc := ⟨IS7.out.ext hb8, blkk hb8 B7.out, fun q hq => by cases hq; exact ⟨rfl, rfl, HO7.out.ext hb8, HQ4.out⟩, below_call HW7.out hb8, HRR.out.old⟩
                  have HR8 := Lib.hid hR
                  clear hR hb8 B7 N7 M7 HW7 HO7 HN7 IS7 n0 n1 n2 n3 n4 n5 n6 n7 n8 m0 m1 m2 m3 m4 m5 m6 m7 m8
                  obtain ⟨x3, -⟩ := blk_cell (i := 3) HR8.out.box
                  have lb := (Array.getElem?_eq_some_iff.1 HR8.out.box).1
                  simp [ssC] at x3
                  have hsb : ∀ nq, Calls Tryd.prog 18 #[.pointer (some ⟨w1.heap.size, 0, none⟩)] (w8.drewN nq) fun e w' => e = .returned (.bool true) ∧ w' = w8.drewN nq := fun nq => (busy_any (fun x => x ≠ w1.heap.size ∧ x ≠ w2.heap.size) _ _ _ _ _ _ (some qs) (HR8.out.is.ext (below_drewN (Below.refl _ _) nq))).mono fun e w' ⟨h1, h2⟩ => ⟨h1, h2.symm⟩
                  have HSB := Lib.hid hsb
                  clear hsb
                  go_wp2_with fail
                  go_quiet ((go_at_call 18; exact Calls.quiet_of_same (HSB.out _)))
                  go_wp2
                  go_roundw
                  case rel => exact ⟨k + 1, nw, last, nw, some qs, qs, sa, qs.txn.ops.length, sc, by omega, by omega, rfl, by go_num, hw0, hw1, hw0, hw2, by omega, HR8.out.drewN _⟩
                  case measure => simp [intOf]; omega
          · rcases wait with _ | q0
            · simp only [Option.isSome_none] at B4
              as_aux_lemma =>
                obtain ⟨r10, -⟩ := blk_cell (i := 10) A4.out
                obtain ⟨r11, -⟩ := blk_cell (i := 11) A4.out
                obtain ⟨r12, -⟩ := blk_cell (i := 12) A4.out
                obtain ⟨r13, -⟩ := blk_cell (i := 13) A4.out
                obtain ⟨r14, -⟩ := blk_cell (i := 14) A4.out
                obtain ⟨r15, -⟩ := blk_cell (i := 15) A4.out
                obtain ⟨r16, -⟩ := blk_cell (i := 16) A4.out
                obtain ⟨r17, -⟩ := blk_cell (i := 17) A4.out
                obtain ⟨r18, -⟩ := blk_cell (i := 18) A4.out
                obtain ⟨r19, -⟩ := blk_cell (i := 19) A4.out
                simp at r10 r11 r12 r13 r14 r15 r16 r17 r18 r19
                go_wp2_with fail
                refine (hear_idle (fun x => x ≠ w1.heap.size ∧ x ≠ w2.heap.size) _ w1.heap.size c l last at_ ⟨pc, pl, ps, pe, pn, px, pt, ⟨pd, pk, po⟩⟩ _ _ (HRR.out.is.ext HB4.out)).mono ?_
                rintro e w5 ⟨rfl, hb5⟩
                have B5 := Lib.hid (blkk hb5 B4.out)
                have A5 := Lib.hid (blkk hb5 A4.out)
                have HB5 := Lib.hid (below_call HB4.out hb5)
                clear hb5 r10 r11 r12 r13 r14 r15 r16 r17 r18 r19
                obtain ⟨d0, -⟩ := blk_cell (i := 0) B5.out
                obtain ⟨d1, -⟩ := blk_cell (i := 1) B5.out
                obtain ⟨d2, -⟩ := blk_cell (i := 2) B5.out
                obtain ⟨d3, -⟩ := blk_cell (i := 3) B5.out
                obtain ⟨d4, -⟩ := blk_cell (i := 4) B5.out
                obtain ⟨d5, -⟩ := blk_cell (i := 5) B5.out
                obtain ⟨d6, -⟩ := blk_cell (i := 6) B5.out
                obtain ⟨d7, -⟩ := blk_cell (i := 7) B5.out
                obtain ⟨d8, -⟩ := blk_cell (i := 8) B5.out
                obtain ⟨d9, -⟩ := blk_cell (i := 9) B5.out
                obtain ⟨d10, -⟩ := blk_cell (i := 10) B5.out
                obtain ⟨d11, -⟩ := blk_cell (i := 11) B5.out
                obtain ⟨d12, -⟩ := blk_cell (i := 12) B5.out
                obtain ⟨d13, -⟩ := blk_cell (i := 13) B5.out
                simp [ssC] at d0 d1 d2 d3 d4 d5 d6 d7 d8 d9 d10 d11 d12 d13
                have lbx := (Array.getElem?_eq_some_iff.1 B5.out).1
                obtain ⟨r10, -⟩ := blk_cell (i := 10) A5.out
                obtain ⟨r11, -⟩ := blk_cell (i := 11) A5.out
                obtain ⟨r12, -⟩ := blk_cell (i := 12) A5.out
                obtain ⟨r13, -⟩ := blk_cell (i := 13) A5.out
                obtain ⟨r14, -⟩ := blk_cell (i := 14) A5.out
                obtain ⟨r15, -⟩ := blk_cell (i := 15) A5.out
                obtain ⟨r16, -⟩ := blk_cell (i := 16) A5.out
                obtain ⟨r17, -⟩ := blk_cell (i := 17) A5.out
                obtain ⟨r18, -⟩ := blk_cell (i := 18) A5.out
                obtain ⟨r19, -⟩ := blk_cell (i := 19) A5.out
                simp at r10 r11 r12 r13 r14 r15 r16 r17 r18 r19
                have la5 := (Array.getElem?_eq_some_iff.1 A5.out).1
                go_wp2_with fail
                refine (rhear_no ⟨c, l, last, false, qs, at_⟩ sa sn sc ⟨pc, pl, ps, pe, pn, px, pt, ⟨pd, pk, po⟩⟩ da pd.length dc ka pk.length kc _ (.inl rfl)).mono ?_
                rintro e w6 ⟨rfl, hb6⟩
                have B6 := Lib.hid (blkk hb6 B5.out)
                have HB6 := Lib.hid (below_call HB5.out hb6)
                have lb6 := (Array.getElem?_eq_some_iff.1 B6.out).1
                clear hb6 B5 A5 HB5 d0 d1 d2 d3 d4 d5 d6 d7 d8 d9 d10 d11 d12 d13 r10 r11 r12 r13 r14 r15 r16 r17 r18 r19
                simp only [ssC]
                go_wp2_with (first
                  | ((with_reducible refine wpList_store_put rfl 32 (.tmp 9) (.tmp 132) rfl w2.heap.size (ssC ⟨c, l, last, false, qs, at_⟩ (.slice sa sn sc)) _ 32 ?hxF ?hyF (blka B6.out _) ?hnF ?hiF ?h1F ?_); (case hxF => rfl); (case hyF => rfl); (case hnF => rfl); (case hiF => kernel_rfl); (case h1F => first | rfl | simp [ssC, Value.oneCell'])))
                intro w7 hP
                have HR8 := Lib.hid (HRR.out.move (below_new HB6.out _) hP)
                clear hP B6 HB6
                obtain ⟨x3, -⟩ := blk_cell (i := 3) HR8.out.box
                have lb := (Array.getElem?_eq_some_iff.1 HR8.out.box).1
                simp [ssC] at x3
                have hsb : ∀ nq, Calls Tryd.prog 18 #[.pointer (some ⟨w1.heap.size, 0, none⟩)] (w7.drewN nq) fun e w' => e = .returned (.bool false) ∧ w' = w7.drewN nq := fun nq => (busy_any (fun x => x ≠ w1.heap.size ∧ x ≠ w2.heap.size) _ _ _ _ _ _ none (HR8.out.is.ext (below_drewN (Below.refl _ _) nq))).mono fun e w' ⟨h1, h2⟩ => ⟨h1, h2.symm⟩
                have HSB := Lib.hid hsb
                clear hsb
                go_wp2_with fail
                go_quiet ((go_at_call 18; exact Calls.quiet_of_same (HSB.out _)))
                go_wp2
                go_roundw
                case rel => exact ⟨k + 1, nw, last, at_, none, qs, sa, sn, sc, by omega, by omega, rfl, by go_num, hw0, hw1, ha0, ha1, by omega, HR8.out.drewN _⟩
                case measure => simp [intOf]; omega
            · simp only [Option.isSome_some] at B4
              by_cases hpp : pc = c ∧ pl = l ∧ ps = (last : Int)
              · obtain ⟨rfl, rfl, rfl⟩ := hpp
                as_aux_lemma =>
                  obtain ⟨r10, -⟩ := blk_cell (i := 10) A4.out
                  obtain ⟨r11, -⟩ := blk_cell (i := 11) A4.out
                  obtain ⟨r12, -⟩ := blk_cell (i := 12) A4.out
                  obtain ⟨r13, -⟩ := blk_cell (i := 13) A4.out
                  obtain ⟨r14, -⟩ := blk_cell (i := 14) A4.out
                  obtain ⟨r15, -⟩ := blk_cell (i := 15) A4.out
                  obtain ⟨r16, -⟩ := blk_cell (i := 16) A4.out
                  obtain ⟨r17, -⟩ := blk_cell (i := 17) A4.out
                  obtain ⟨r18, -⟩ := blk_cell (i := 18) A4.out
                  obtain ⟨r19, -⟩ := blk_cell (i := 19) A4.out
                  simp at r10 r11 r12 r13 r14 r15 r16 r17 r18 r19
                  go_wp2_with fail
                  refine (hear_yes (fun x => x ≠ w1.heap.size ∧ x ≠ w2.heap.size) _ w1.heap.size pc pl last at_ q0 ⟨pc, pl, (last : Int), pe, pn, px, pt, ⟨pd, pk, po⟩⟩ _ _ (HRR.out.is.ext HB4.out) ⟨rfl, rfl, rfl⟩).mono ?_
                  rintro e w5 ⟨rfl, is5, fr5⟩
                  have hs5 := fr5.size
                  have B5 := Lib.hid ((fr5.block w2.heap.size (by omega) (by show ¬ (w2.heap.size = w1.heap.size); omega)).trans B4.out)
                  have A5 := Lib.hid ((fr5.block wr.heap.size (by omega) (by show ¬ (wr.heap.size = w1.heap.size); omega)).trans A4.out)
                  have HW5 : Hid (Below w.heap.size w w5) := (below_call HWR.out HB4.out).trans (fr5.below (by have := HWR.out.size; omega) fun j hj e => by have e : j = w1.heap.size := e; omega)
                  have IS5 := Lib.hid is5
                  clear is5 fr5 r10 r11 r12 r13 r14 r15 r16 r17 r18 r19
                  obtain ⟨d0, -⟩ := blk_cell (i := 0) B5.out
                  obtain ⟨d1, -⟩ := blk_cell (i := 1) B5.out
                  obtain ⟨d2, -⟩ := blk_cell (i := 2) B5.out
                  obtain ⟨d3, -⟩ := blk_cell (i := 3) B5.out
                  obtain ⟨d4, -⟩ := blk_cell (i := 4) B5.out
                  obtain ⟨d5, -⟩ := blk_cell (i := 5) B5.out
                  obtain ⟨d6, -⟩ := blk_cell (i := 6) B5.out
                  obtain ⟨d7, -⟩ := blk_cell (i := 7) B5.out
                  obtain ⟨d8, -⟩ := blk_cell (i := 8) B5.out
                  obtain ⟨d9, -⟩ := blk_cell (i := 9) B5.out
                  obtain ⟨d10, -⟩ := blk_cell (i := 10) B5.out
                  obtain ⟨d11, -⟩ := blk_cell (i := 11) B5.out
                  obtain ⟨d12, -⟩ := blk_cell (i := 12) B5.out
                  obtain ⟨d13, -⟩ := blk_cell (i := 13) B5.out
                  simp [ssC] at d0 d1 d2 d3 d4 d5 d6 d7 d8 d9 d10 d11 d12 d13
                  have lbx := (Array.getElem?_eq_some_iff.1 B5.out).1
                  obtain ⟨r10, -⟩ := blk_cell (i := 10) A5.out
                  obtain ⟨r11, -⟩ := blk_cell (i := 11) A5.out
                  obtain ⟨r12, -⟩ := blk_cell (i := 12) A5.out
                  obtain ⟨r13, -⟩ := blk_cell (i := 13) A5.out
                  obtain ⟨r14, -⟩ := blk_cell (i := 14) A5.out
                  obtain ⟨r15, -⟩ := blk_cell (i := 15) A5.out
                  obtain ⟨r16, -⟩ := blk_cell (i := 16) A5.out
                  obtain ⟨r17, -⟩ := blk_cell (i := 17) A5.out
                  obtain ⟨r18, -⟩ := blk_cell (i := 18) A5.out
                  obtain ⟨r19, -⟩ := blk_cell (i := 19) A5.out
                  simp at r10 r11 r12 r13 r14 r15 r16 r17 r18 r19
                  have la5 := (Array.getElem?_eq_some_iff.1 A5.out).1
                  go_wp2_with fail
                  refine (rhear_yes ⟨pc, pl, last, true, qs, at_⟩ sa sn sc ⟨pc, pl, (last : Int), pe, pn, px, pt, ⟨pd, pk, po⟩⟩ da pd.length dc ka pk.length kc _ rfl rfl rfl rfl).mono ?_
                  rintro e w6 ⟨rfl, hb6⟩
                  have B6 := Lib.hid (blkk hb6 B5.out)
                  have HW6 : Hid (Below w.heap.size w w6) := below_call HW5.out hb6
                  have IS6 := Lib.hid (IS5.out.ext hb6)
                  have lb6 := (Array.getElem?_eq_some_iff.1 B6.out).1
                  clear hb6 B5 A5 HW5 IS5 d0 d1 d2 d3 d4 d5 d6 d7 d8 d9 d10 d11 d12 d13 r10 r11 r12 r13 r14 r15 r16 r17 r18 r19
                  simp only [ssC, RqD.none, TxD.none]
                  go_wp2_with (first
                    | ((with_reducible refine wpList_store_put rfl 32 (.tmp 9) (.tmp 132) rfl w2.heap.size (ssC ⟨pc, pl, last, false, RqD.none, at_⟩ (.slice none 0 0)) _ 32 ?hxH ?hyH (blka B6.out _) ?hnH ?hiH ?h1H ?_); (case hxH => rfl); (case hyH => rfl); (case hnH => rfl); (case hiH => kernel_rfl); (case h1H => first | rfl | simp [ssC, Value.oneCell'])))
                  intro w7 hP
                  have hR : SesR w w7 w1.heap.size w2.heap.size pc pl last at_ none RqD.none none 0 0 := ⟨(IS6.out.ext (below_new (Below.refl _ _) _)).same (hP.same fun h => by rcases h with h | h; exact h.2 rfl; omega), hP.blk, fun q hq => (by cases hq), hP.below (below_new HW6.out _) (by omega), HRR.out.old⟩
                  have HR8 := Lib.hid hR
                  clear hR hP B6 HW6 IS6
                  obtain ⟨x3, -⟩ := blk_cell (i := 3) HR8.out.box
                  have lb := (Array.getElem?_eq_some_iff.1 HR8.out.box).1
                  simp [ssC] at x3
                  have hsb : ∀ nq, Calls Tryd.prog 18 #[.pointer (some ⟨w1.heap.size, 0, none⟩)] (w7.drewN nq) fun e w' => e = .returned (.bool false) ∧ w' = w7.drewN nq := fun nq => (busy_any (fun x => x ≠ w1.heap.size ∧ x ≠ w2.heap.size) _ _ _ _ _ _ none (HR8.out.is.ext (below_drewN (Below.refl _ _) nq))).mono fun e w' ⟨h1, h2⟩ => ⟨h1, h2.symm⟩
                  have HSB := Lib.hid hsb
                  clear hsb
                  go_wp2_with fail
                  go_quiet ((go_at_call 18; exact Calls.quiet_of_same (HSB.out _)))
                  go_wp2
                  go_roundw
                  case rel => exact ⟨k + 1, nw, last, at_, none, _, none, 0, 0, by omega, by omega, rfl, by go_num, hw0, hw1, ha0, ha1, by omega, HR8.out.drewN _⟩
                  case measure => simp [intOf]; omega
              · have hpp' : pc ≠ c ∨ pl ≠ l ∨ ps ≠ (last : Int) := by omega
                as_aux_lemma =>
                  obtain ⟨r10, -⟩ := blk_cell (i := 10) A4.out
                  obtain ⟨r11, -⟩ := blk_cell (i := 11) A4.out
                  obtain ⟨r12, -⟩ := blk_cell (i := 12) A4.out
                  obtain ⟨r13, -⟩ := blk_cell (i := 13) A4.out
                  obtain ⟨r14, -⟩ := blk_cell (i := 14) A4.out
                  obtain ⟨r15, -⟩ := blk_cell (i := 15) A4.out
                  obtain ⟨r16, -⟩ := blk_cell (i := 16) A4.out
                  obtain ⟨r17, -⟩ := blk_cell (i := 17) A4.out
                  obtain ⟨r18, -⟩ := blk_cell (i := 18) A4.out
                  obtain ⟨r19, -⟩ := blk_cell (i := 19) A4.out
                  simp at r10 r11 r12 r13 r14 r15 r16 r17 r18 r19
                  go_wp2_with fail
                  refine (hear_no (fun x => x ≠ w1.heap.size ∧ x ≠ w2.heap.size) _ w1.heap.size c l last at_ q0 ⟨pc, pl, ps, pe, pn, px, pt, ⟨pd, pk, po⟩⟩ _ _ (HRR.out.is.ext HB4.out) hpp).mono ?_
                  rintro e w5 ⟨rfl, hb5⟩
                  have B5 := Lib.hid (blkk hb5 B4.out)
                  have A5 := Lib.hid (blkk hb5 A4.out)
                  have HB5 := Lib.hid (below_call HB4.out hb5)
                  clear hb5 r10 r11 r12 r13 r14 r15 r16 r17 r18 r19
                  obtain ⟨d0, -⟩ := blk_cell (i := 0) B5.out
                  obtain ⟨d1, -⟩ := blk_cell (i := 1) B5.out
                  obtain ⟨d2, -⟩ := blk_cell (i := 2) B5.out
                  obtain ⟨d3, -⟩ := blk_cell (i := 3) B5.out
                  obtain ⟨d4, -⟩ := blk_cell (i := 4) B5.out
                  obtain ⟨d5, -⟩ := blk_cell (i := 5) B5.out
                  obtain ⟨d6, -⟩ := blk_cell (i := 6) B5.out
                  obtain ⟨d7, -⟩ := blk_cell (i := 7) B5.out
                  obtain ⟨d8, -⟩ := blk_cell (i := 8) B5.out
                  obtain ⟨d9, -⟩ := blk_cell (i := 9) B5.out
                  obtain ⟨d10, -⟩ := blk_cell (i := 10) B5.out
                  obtain ⟨d11, -⟩ := blk_cell (i := 11) B5.out
                  obtain ⟨d12, -⟩ := blk_cell (i := 12) B5.out
                  obtain ⟨d13, -⟩ := blk_cell (i := 13) B5.out
                  simp [ssC] at d0 d1 d2 d3 d4 d5 d6 d7 d8 d9 d10 d11 d12 d13
                  have lbx := (Array.getElem?_eq_some_iff.1 B5.out).1
                  obtain ⟨r10, -⟩ := blk_cell (i := 10) A5.out
                  obtain ⟨r11, -⟩ := blk_cell (i := 11) A5.out
                  obtain ⟨r12, -⟩ := blk_cell (i := 12) A5.out
                  obtain ⟨r13, -⟩ := blk_cell (i := 13) A5.out
                  obtain ⟨r14, -⟩ := blk_cell (i := 14) A5.out
                  obtain ⟨r15, -⟩ := blk_cell (i := 15) A5.out
                  obtain ⟨r16, -⟩ := blk_cell (i := 16) A5.out
                  obtain ⟨r17, -⟩ := blk_cell (i := 17) A5.out
                  obtain ⟨r18, -⟩ := blk_cell (i := 18) A5.out
                  obtain ⟨r19, -⟩ := blk_cell (i := 19) A5.out
                  simp at r10 r11 r12 r13 r14 r15 r16 r17 r18 r19
                  have la5 := (Array.getElem?_eq_some_iff.1 A5.out).1
                  go_wp2_with fail
                  refine (rhear_no ⟨c, l, last, true, qs, at_⟩ sa sn sc ⟨pc, pl, ps, pe, pn, px, pt, ⟨pd, pk, po⟩⟩ da pd.length dc ka pk.length kc _ (.inr hpp')).mono ?_
                  rintro e w6 ⟨rfl, hb6⟩
                  have B6 := Lib.hid (blkk hb6 B5.out)
                  have HB6 := Lib.hid (below_call HB5.out hb6)
                  have lb6 := (Array.getElem?_eq_some_iff.1 B6.out).1
                  clear hb6 B5 A5 HB5 d0 d1 d2 d3 d4 d5 d6 d7 d8 d9 d10 d11 d12 d13 r10 r11 r12 r13 r14 r15 r16 r17 r18 r19
                  simp only [ssC]
                  go_wp2_with (first
                    | ((with_reducible refine wpList_store_put rfl 32 (.tmp 9) (.tmp 132) rfl w2.heap.size (ssC ⟨c, l, last, true, qs, at_⟩ (.slice sa sn sc)) _ 32 ?hxG ?hyG (blka B6.out _) ?hnG ?hiG ?h1G ?_); (case hxG => rfl); (case hyG => rfl); (case hnG => rfl); (case hiG => kernel_rfl); (case h1G => first | rfl | simp [ssC, Value.oneCell'])))
                  intro w7 hP
                  have HR8 := Lib.hid (HRR.out.move (below_new HB6.out _) hP)
                  clear hP B6 HB6
                  obtain ⟨x3, -⟩ := blk_cell (i := 3) HR8.out.box
                  have lb := (Array.getElem?_eq_some_iff.1 HR8.out.box).1
                  simp [ssC] at x3
                  have hsb : ∀ nq, Calls Tryd.prog 18 #[.pointer (some ⟨w1.heap.size, 0, none⟩)] (w7.drewN nq) fun e w' => e = .returned (.bool true) ∧ w' = w7.drewN nq := fun nq => (busy_any (fun x => x ≠ w1.heap.size ∧ x ≠ w2.heap.size) _ _ _ _ _ _ (some q0) (HR8.out.is.ext (below_drewN (Below.refl _ _) nq))).mono fun e w' ⟨h1, h2⟩ => ⟨h1, h2.symm⟩
                  have HSB := Lib.hid hsb
                  clear hsb
                  go_wp2_with fail
                  go_quiet ((go_at_call 18; exact Calls.quiet_of_same (HSB.out _)))
                  go_wp2
                  go_roundw
                  case rel => exact ⟨k + 1, nw, last, at_, (some q0), qs, sa, sn, sc, by omega, by omega, rfl, by go_num, hw0, hw1, ha0, ha1, by omega, HR8.out.drewN _⟩
                  case measure => simp [intOf]; omega
      · go_wp2
        go_ret
        exact ⟨rfl, HWR.out⟩
    · go_wp2
      go_ret
      exact ⟨rfl, HWR.out⟩
end Go.Proofs.YtidikciankcopaaDoor
