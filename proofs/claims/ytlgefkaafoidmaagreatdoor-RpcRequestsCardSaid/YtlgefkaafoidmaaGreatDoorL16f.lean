/- The walk of terrazzolaw16.RpcRequests. -/
import Derived.Test.YtlgefkaafoidmaaGreatDoorGQ
import Derived.Test.YtlgefkaafoidmaaGreatDoorGI
import Derived.Test.YtlgefkaafoidmaaGreatDoorGR
import Derived.Test.YtlgefkaafoidmaaGreatDoorUnqE
import Derived.Test.YtlgefkaafoidmaaGreatDoorPkqE
import Derived.Test.YtlgefkaafoidmaaGreatDoorRpkq
import Derived.Test.YtlgefkaafoidmaaGreatDoorRunq
import Derived.Deep.RegionHeldLaw
namespace Go.Proofs.YtlgefkaafoidmaaGreatDoor
open Go.RowKit Go.WideShapes

theorem unqB_ops (l : List UInt8) : (unqB l).1.txn.ops.length ≤ 100000 := by
  unfold unqB
  split
  · rename_i h
    have hm : mayQ (unqQ l) = true := by
      unfold unqE at h
      split at h
      · omega
      · split at h
        · omega
        · split at h
          · assumption
          · omega
    have hn := mayQ_yes (mayQ_N hm)
    rw [hm] at hn
    by_cases h1 : (unqQ l).kind = 1
    · have := (txE_ok (mayQ_tx hm h1)).1
      show (unqQ l).txn.ops.length ≤ 100000
      omega
    · rw [if_neg h1] at hn
      have h2 : (unqQ l).txn.ops = [] := by
        split at hn
        · exact of_decide_eq_true ((Bool.and_eq_true _ _ ▸ hn.symm).1)
        · exact of_decide_eq_true ((Bool.and_eq_true _ _ ▸ hn.symm).2)
      show (unqQ l).txn.ops.length ≤ 100000
      rw [h2]
      simp
  · simp [RqD.none, TxD.none]
set_option maxRecDepth 100000 in
set_option maxHeartbeats 16000000 in
theorem requests_law (A B : Nat → Prop) (vq vb : Value) (q : RqD) (l : List UInt8) (w : World) (hT : TabW w) (hg0 : 0 < w.heap.size) (hq : RqV A w vq q) (hb : RB B w vb l) :
    Calls Tryz.prog 3 #[vq, vb] w fun e w' => e = .returned (.bool true) ∧ Below w.heap.size w w' := by
  obtain ⟨ov, rfl, ho⟩ := hq
  obtain ⟨oa, oc, rfl⟩ := ho.shape
  obtain ⟨ba, bc, rfl⟩ := hb.shape
  have HT := Lib.hid hT
  have HG := Lib.hid hg0
  have HO := Lib.hid ho
  have HV := Lib.hid hb
  clear hT hg0 ho hb
  obtain ⟨qc, ql, qs, qk, qi, qw, qn, ⟨qo, qops⟩⟩ := q
  simp only [rqV] at *
  go_enter Tryz.func3, Tryz.ntmps3
  go_wp2_with fail
  obtain ⟨w0, hw0⟩ : ∃ w0, w0 = w.alloc (.cells #[.int .i64 qc, .int .i64 ql, .int .i64 qs, .int .i64 qk, .int .i64 qi, .int .i64 qw, .int .i64 qn, .string qo, .slice oa qops.length oc] 26) := ⟨_, rfl⟩
  rw [← hw0]
  have b0 : w0.heap[w.heap.size]? = some (.cells (rqC ⟨qc, ql, qs, qk, qi, qw, qn, ⟨qo, qops⟩⟩ (.slice oa qops.length oc)) 26 (0, 0)) := by rw [hw0]; exact heap_alloc_new _ _
  have hw : Below w.heap.size w w0 := by rw [hw0]; ((repeat' (first | exact Below.refl _ _ | refine below_drewN ?_ _ | refine Below.drew ?_ | refine Below.alloc ?_ ?_ _ | refine Below.trans ?_ (Below.mono (by assumption) ?_))); all_goals (first | exact Nat.le_refl _ | exact Below.size (by assumption) | omega | (simp; done) | (simp; omega)))
  clear hw0
  refine (awake_any _ (tab_below HT.out hw HG.out) (Nat.lt_of_lt_of_le HG.out hw.size)).mono ?_
  rintro e w1 ⟨rfl, hb1⟩
  have W1 := Lib.hid (below_call hw hb1)
  have Q1 := Lib.hid (blkk hb1 b0)
  clear hb1 b0 hw
  obtain ⟨y0, y1, y2, y3, y4, y5, y6, y7, y8, -⟩ := rq_cells Q1.out
  simp only at y0 y1 y2 y3 y4 y5 y6 y7 y8
  go_wp2_with fail
  refine (few_any A ⟨qo, qops⟩ _ _ (HO.out.ext W1.out)).mono ?_
  rintro e w2 ⟨p1, rfl, hf, hb2⟩
  have HF := Lib.hid hf
  have W2 := Lib.hid (below_call W1.out hb2)
  have Q2 := Lib.hid (blkk hb2 Q1.out)
  clear hb2 hf Q1 W1 y0 y1 y2 y3 y4 y5 y6 y7 y8
  rcases p1 with _ | _
  · go_wp2
    go_ret
    exact ⟨rfl, W2.out⟩
  have HFP := Lib.hid (HF.out rfl)
  by_cases hl2 : (20000 : Int) < l.length
  · go_wp2
    go_ret
    exact ⟨rfl, W2.out⟩
  have hsz := HFP.out.2.1
  simp only at hsz
  have HLX := Lib.hid (unqB_ops l)
  have HUN := fun A' v' W (h : RB A' W v' l) hT hg => unq_any A' v' l W h (by omega) hT hg
  have HRN := fun A' v' W (h : RB A' W v' l) => runq_any A' v' l W h (by omega)
  generalize unqB l = X at *
  obtain ⟨⟨xc, xl, xs, xk, xi, xw, xn, ⟨xo, xp⟩⟩, xe⟩ := X
  have HUN := Lib.hid HUN
  have HRN := Lib.hid HRN
  simp only at HLX
  clear HF
  go_wp2_with fail
  refine (HUN.out _ _ _ (HV.out.ext W2.out) (tab_below HT.out W2.out HG.out) (Nat.lt_of_lt_of_le HG.out W2.out.size)).mono ?_
  rintro e w3 ⟨v3, rfl, h3, hb3⟩
  simp only at h3
  obtain ⟨a1, c1, rfl⟩ := h3.shape
  simp only [rqV]
  have HX3 := Lib.hid h3
  have W3 := Lib.hid (below_call W2.out hb3)
  have Q3 := Lib.hid (blkk hb3 Q2.out)
  clear h3 hb3 Q2 W2
  go_upto_region 8 with fail
  obtain ⟨px, hpx⟩ : ∃ px, px = w3.heap.size := ⟨_, rfl⟩
  obtain ⟨w4, hw4⟩ : ∃ w4, w4 = w3.alloc (.cells #[.int .i64 xc, .int .i64 xl, .int .i64 xs, .int .i64 xk, .int .i64 xi, .int .i64 xw, .int .i64 xn, .string xo, .slice a1 xp.length c1] 26) := ⟨_, rfl⟩
  rw [← hw4, ← hpx]
  have hb4 : Below w3.heap.size w3 w4 := by rw [hw4]; ((repeat' (first | exact Below.refl _ _ | refine below_drewN ?_ _ | refine Below.drew ?_ | refine Below.alloc ?_ ?_ _ | refine Below.trans ?_ (Below.mono (by assumption) ?_))); all_goals (first | exact Nat.le_refl _ | exact Below.size (by assumption) | omega | (simp; done) | (simp; omega)))
  have X4 : Hid (w4.heap[px]? = some (.cells (rqC ⟨xc, xl, xs, xk, xi, xw, xn, ⟨xo, xp⟩⟩ (.slice a1 xp.length c1)) 26 (0, 0))) := Lib.hid (by rw [hw4, hpx]; exact heap_alloc_new _ _)
  have HX4 := Lib.hid (HX3.out.ext hb4)
  have W4 := Lib.hid (below_call W3.out hb4)
  have Q4 := Lib.hid (blkk hb4 Q3.out)
  clear hw4 hb4 hpx HX3 W3 Q3
  go_wp2_with fail
  refine (HRN.out _ _ _ (HV.out.ext W4.out)).mono ?_
  rintro e w5 ⟨v5, rfl, h5, hb5⟩
  simp only at h5
  obtain ⟨a2, c2, rfl⟩ := h5.shape
  simp only [rqV]
  have HY5 := Lib.hid h5
  have HX5 := Lib.hid (HX4.out.ext hb5)
  have X5 := Lib.hid (blkk hb5 X4.out)
  have W5 := Lib.hid (below_call W4.out hb5)
  have Q5 := Lib.hid (blkk hb5 Q4.out)
  clear h5 hb5 X4 HX4 W4 Q4 HUN HRN
  go_upto_region 9 with fail
  obtain ⟨py, hpy⟩ : ∃ py, py = w5.heap.size := ⟨_, rfl⟩
  obtain ⟨wB, hwB⟩ : ∃ wB, wB = w5.alloc (.cells #[.int .i64 xc, .int .i64 xl, .int .i64 xs, .int .i64 xk, .int .i64 xi, .int .i64 xw, .int .i64 xn, .string xo, .slice a2 xp.length c2] 26) := ⟨_, rfl⟩
  rw [← hwB, ← hpy]
  have hbB : Below w5.heap.size w5 wB := by rw [hwB]; ((repeat' (first | exact Below.refl _ _ | refine below_drewN ?_ _ | refine Below.drew ?_ | refine Below.alloc ?_ ?_ _ | refine Below.trans ?_ (Below.mono (by assumption) ?_))); all_goals (first | exact Nat.le_refl _ | exact Below.size (by assumption) | omega | (simp; done) | (simp; omega)))
  have YB : Hid (wB.heap[py]? = some (.cells (rqC ⟨xc, xl, xs, xk, xi, xw, xn, ⟨xo, xp⟩⟩ (.slice a2 xp.length c2)) 26 (0, 0))) := Lib.hid (by rw [hwB, hpy]; exact heap_alloc_new _ _)
  have HYB := Lib.hid (HY5.out.ext hbB)
  have HXB := Lib.hid (HX5.out.ext hbB)
  have XB := Lib.hid (blkk hbB X5.out)
  have WB := Lib.hid (below_call W5.out hbB)
  have QB := Lib.hid (blkk hbB Q5.out)
  clear hwB hbB hpy HY5 HX5 X5 W5 Q5
  obtain ⟨y0, y1, y2, y3, y4, y5, y6, y7, y8, -⟩ := rq_cells QB.out
  obtain ⟨x0, x1, x2, x3, x4, x5, x6, x7, x8, -⟩ := rq_cells XB.out
  obtain ⟨z0, z1, z2, z3, z4, z5, z6, z7, z8, -⟩ := rq_cells YB.out
  simp only at y0 y1 y2 y3 y4 y5 y6 y7 y8 x0 x1 x2 x3 x4 x5 x6 x7 x8 z0 z1 z2 z3 z4 z5 z6 z7 z8
  have hcells : Hid (∀ W, Below wB.heap.size wB W → Below wB.heap.size wB W ∧ W.cell? ⟨w.heap.size, 0, none⟩ = some (.int .i64 qc) ∧ W.cell? ⟨w.heap.size, 1, none⟩ = some (.int .i64 ql) ∧ W.cell? ⟨w.heap.size, 2, none⟩ = some (.int .i64 qs) ∧ W.cell? ⟨w.heap.size, 3, none⟩ = some (.int .i64 qk) ∧ W.cell? ⟨w.heap.size, 4, none⟩ = some (.int .i64 qi) ∧ W.cell? ⟨w.heap.size, 5, none⟩ = some (.int .i64 qw) ∧ W.cell? ⟨w.heap.size, 6, none⟩ = some (.int .i64 qn) ∧ W.cell? ⟨w.heap.size, 7, none⟩ = some (.string qo) ∧ W.cell? ⟨w.heap.size, 8, none⟩ = some (.slice oa qops.length oc) ∧ W.cell? ⟨px, 0, none⟩ = some (.int .i64 xc) ∧ W.cell? ⟨px, 1, none⟩ = some (.int .i64 xl) ∧ W.cell? ⟨px, 2, none⟩ = some (.int .i64 xs) ∧ W.cell? ⟨px, 3, none⟩ = some (.int .i64 xk) ∧ W.cell? ⟨px, 4, none⟩ = some (.int .i64 xi) ∧ W.cell? ⟨px, 5, none⟩ = some (.int .i64 xw) ∧ W.cell? ⟨px, 6, none⟩ = some (.int .i64 xn) ∧ W.cell? ⟨px, 7, none⟩ = some (.string xo) ∧ W.cell? ⟨px, 8, none⟩ = some (.slice a1 xp.length c1) ∧ W.cell? ⟨py, 0, none⟩ = some (.int .i64 xc) ∧ W.cell? ⟨py, 1, none⟩ = some (.int .i64 xl) ∧ W.cell? ⟨py, 2, none⟩ = some (.int .i64 xs) ∧ W.cell? ⟨py, 3, none⟩ = some (.int .i64 xk) ∧ W.cell? ⟨py, 4, none⟩ = some (.int .i64 xi) ∧ W.cell? ⟨py, 5, none⟩ = some (.int .i64 xw) ∧ W.cell? ⟨py, 6, none⟩ = some (.int .i64 xn) ∧ W.cell? ⟨py, 7, none⟩ = some (.string xo) ∧ W.cell? ⟨py, 8, none⟩ = some (.slice a2 xp.length c2)) := Lib.hid fun W h =>
    ⟨h, cellExt h y0, cellExt h y1, cellExt h y2, cellExt h y3, cellExt h y4, cellExt h y5, cellExt h y6, cellExt h y7, cellExt h y8, cellExt h x0, cellExt h x1, cellExt h x2, cellExt h x3, cellExt h x4, cellExt h x5, cellExt h x6, cellExt h x7, cellExt h x8, cellExt h z0, cellExt h z1, cellExt h z2, cellExt h z3, cellExt h z4, cellExt h z5, cellExt h z6, cellExt h z7, cellExt h z8⟩
  have HTP := Lib.hid fun W (h : Below wB.heap.size wB W) => pkq_exact A ⟨qc, ql, qs, qk, qi, qw, qn, ⟨qo, qops⟩⟩ _ W (tab_below HT.out (below_call WB.out h) HG.out) (Nat.lt_of_lt_of_le HG.out (below_call WB.out h).size) (HO.out.ext (below_call WB.out h)) hsz
  have HRP := Lib.hid fun W (h : Below wB.heap.size wB W) => rpkq_any A ⟨qc, ql, qs, qk, qi, qw, qn, ⟨qo, qops⟩⟩ _ W (HO.out.ext (below_call WB.out h)) hsz
  have HSM := Lib.hid fun W (h : Below wB.heap.size wB W) => samerq_yes _ _ ⟨xc, xl, xs, xk, xi, xw, xn, ⟨xo, xp⟩⟩ _ _ W ⟨_, rfl, HXB.out.ext h⟩ ⟨_, rfl, HYB.out.ext h⟩ HLX.out
  generalize pkqL ⟨qc, ql, qs, qk, qi, qw, qn, ⟨qo, qops⟩⟩ = L at *
  simp only [rqV] at HTP HRP HSM
  have g2 : (xe == xe) = true := by simp
  clear y0 y1 y2 y3 y4 y5 y6 y7 y8 x0 x1 x2 x3 x4 x5 x6 x7 x8 z0 z1 z2 z3 z4 z5 z6 z7 z8
  go_region_held_law (fun W => Below wB.heap.size wB W ∧ W.cell? ⟨w.heap.size, 0, none⟩ = some (.int .i64 qc) ∧ W.cell? ⟨w.heap.size, 1, none⟩ = some (.int .i64 ql) ∧ W.cell? ⟨w.heap.size, 2, none⟩ = some (.int .i64 qs) ∧ W.cell? ⟨w.heap.size, 3, none⟩ = some (.int .i64 qk) ∧ W.cell? ⟨w.heap.size, 4, none⟩ = some (.int .i64 qi) ∧ W.cell? ⟨w.heap.size, 5, none⟩ = some (.int .i64 qw) ∧ W.cell? ⟨w.heap.size, 6, none⟩ = some (.int .i64 qn) ∧ W.cell? ⟨w.heap.size, 7, none⟩ = some (.string qo) ∧ W.cell? ⟨w.heap.size, 8, none⟩ = some (.slice oa qops.length oc) ∧ W.cell? ⟨px, 0, none⟩ = some (.int .i64 xc) ∧ W.cell? ⟨px, 1, none⟩ = some (.int .i64 xl) ∧ W.cell? ⟨px, 2, none⟩ = some (.int .i64 xs) ∧ W.cell? ⟨px, 3, none⟩ = some (.int .i64 xk) ∧ W.cell? ⟨px, 4, none⟩ = some (.int .i64 xi) ∧ W.cell? ⟨px, 5, none⟩ = some (.int .i64 xw) ∧ W.cell? ⟨px, 6, none⟩ = some (.int .i64 xn) ∧ W.cell? ⟨px, 7, none⟩ = some (.string xo) ∧ W.cell? ⟨px, 8, none⟩ = some (.slice a1 xp.length c1) ∧ W.cell? ⟨py, 0, none⟩ = some (.int .i64 xc) ∧ W.cell? ⟨py, 1, none⟩ = some (.int .i64 xl) ∧ W.cell? ⟨py, 2, none⟩ = some (.int .i64 xs) ∧ W.cell? ⟨py, 3, none⟩ = some (.int .i64 xk) ∧ W.cell? ⟨py, 4, none⟩ = some (.int .i64 xi) ∧ W.cell? ⟨py, 5, none⟩ = some (.int .i64 xw) ∧ W.cell? ⟨py, 6, none⟩ = some (.int .i64 xn) ∧ W.cell? ⟨py, 7, none⟩ = some (.string xo) ∧ W.cell? ⟨py, 8, none⟩ = some (.slice a2 xp.length c2))
    ((refine hcells.out _ ?_; first
      | (with_reducible exact Below.drew (Below.refl _ _))
      | (with_reducible exact hz6)
      | (with_reducible exact hz7)
      | (with_reducible exact hz8)))
    (first
      | (go_at_call 11; refine (HSM.out _ hz7).mono ?_; rintro e w13 ⟨rfl, hb13⟩; have hz8 : Below wB.heap.size wB w13 := below_call hz7 hb13)
      | (go_at_call 10; refine (HRP.out _ hz6).mono ?_; rintro e w12 ⟨v12, rfl, h12, hb12⟩; obtain ⟨a12, c12, rfl⟩ := h12.rb.shape; have hz7 : Below wB.heap.size wB w12 := below_call hz6 hb12; have s3 := cnv_bytes h12.rb w12 (Below.refl _ _); have s4 := cnv_bytes h11.rb w12 hb12)
      | (go_at_call 9; refine (HTP.out _ (Below.drew (Below.refl _ _))).mono ?_; rintro e w11 ⟨v11, rfl, h11, hb11⟩; obtain ⟨a11, c11, rfl⟩ := h11.rb.shape; have hz6 : Below wB.heap.size wB w11 := below_call (Below.drew (Below.refl _ _)) hb11; have s2 := cnv_bytes h11.rb w11 (Below.refl _ _)))
  all_goals
    go_wp2
    go_ret
    exact ⟨rfl, below_call WB.out hz8⟩
end Go.Proofs.YtlgefkaafoidmaaGreatDoor
