/- The walk of terrazzolaw16.RpcReplies. -/
import Derived.Test.YtlgefkaafoidmaaGreatDoorGQ
import Derived.Test.YtlgefkaafoidmaaGreatDoorGI
import Derived.Test.YtlgefkaafoidmaaGreatDoorGR
import Derived.Test.YtlgefkaafoidmaaGreatDoorUnp
import Derived.Test.YtlgefkaafoidmaaGreatDoorPkp
import Derived.Test.YtlgefkaafoidmaaGreatDoorRpkp
import Derived.Test.YtlgefkaafoidmaaGreatDoorRunp
import Derived.Deep.RegionHeldLaw
namespace Go.Proofs.YtlgefkaafoidmaaGreatDoor
open Go.RowKit Go.WideShapes

theorem unpB_keys (l : List UInt8) : (unpB l).1.obj.keys.length ≤ 100000 := by
  unfold unpB
  split
  · rename_i h
    have hm : mayRP (unpP l) = true := by
      unfold unpPE at h
      split at h
      · omega
      · split at h
        · omega
        · split at h
          · rename_i h3
            rw [Bool.and_eq_true] at h3
            exact h3.1
          · omega
    have := (mayB_parts (mayRP_N hm).2).2.1
    show (unpP l).obj.keys.length ≤ 100000
    omega
  · simp [RpD.none, ObD.none]
set_option maxRecDepth 100000 in
set_option maxHeartbeats 16000000 in
theorem replies_law (A B : Nat → Prop) (vp vb : Value) (p : RpD) (l : List UInt8) (w : World) (hT : TabW w) (hg0 : 0 < w.heap.size) (hq : RpV A w vp p) (hb : RB B w vb l) :
    Calls Tryz.prog 4 #[vp, vb] w fun e w' => e = .returned (.bool true) ∧ Below w.heap.size w w' := by
  obtain ⟨dv, kv, rfl, hd, hk⟩ := hq
  obtain ⟨da, dc, rfl⟩ := hd.shape
  obtain ⟨ka, kc, rfl⟩ := hk.shape
  obtain ⟨ba, bc, rfl⟩ := hb.shape
  have HT := Lib.hid hT
  have HG := Lib.hid hg0
  have HD := Lib.hid hd
  have HK := Lib.hid hk
  have HV := Lib.hid hb
  clear hT hg0 hd hk hb
  obtain ⟨qc, ql, qs, qe, qn, qx, qt, ⟨qd, qk, qo⟩⟩ := p
  simp only [rpV] at *
  go_enter Tryz.func4, Tryz.ntmps4
  go_wp2_with fail
  obtain ⟨w0, hw0⟩ : ∃ w0, w0 = w.alloc (.cells #[.int .i64 qc, .int .i64 ql, .int .i64 qs, .int .i64 qe, .int .i64 qn, .int .i64 qx, .bool qt, .slice da qd.length dc, .slice ka qk.length kc, .int .i64 qo] 40) := ⟨_, rfl⟩
  rw [← hw0]
  have b0 : w0.heap[w.heap.size]? = some (.cells (rpC ⟨qc, ql, qs, qe, qn, qx, qt, ⟨qd, qk, qo⟩⟩ (.slice da qd.length dc) (.slice ka qk.length kc)) 40 (0, 0)) := by rw [hw0]; exact heap_alloc_new _ _
  have hw : Below w.heap.size w w0 := by rw [hw0]; ((repeat' (first | exact Below.refl _ _ | refine below_drewN ?_ _ | refine Below.drew ?_ | refine Below.alloc ?_ ?_ _ | refine Below.trans ?_ (Below.mono (by assumption) ?_))); all_goals (first | exact Nat.le_refl _ | exact Below.size (by assumption) | omega | (simp; done) | (simp; omega)))
  clear hw0
  refine (awake_any _ (tab_below HT.out hw HG.out) (Nat.lt_of_lt_of_le HG.out hw.size)).mono ?_
  rintro e w1 ⟨rfl, hb1⟩
  have W1 := Lib.hid (below_call hw hb1)
  have Q1 := Lib.hid (blkk hb1 b0)
  clear hb1 b0 hw
  obtain ⟨y0, y1, y2, y3, y4, y5, y6, y7, y8, y9, -⟩ := rp_cells Q1.out
  simp only at y0 y1 y2 y3 y4 y5 y6 y7 y8 y9
  go_wp2_with fail
  refine (thin_any A ⟨qd, qk, qo⟩ _ _ _ (HD.out.ext W1.out) (HK.out.ext W1.out)).mono ?_
  rintro e w2 ⟨p1, rfl, hf, hb2⟩
  have HF := Lib.hid hf
  have W2 := Lib.hid (below_call W1.out hb2)
  have Q2 := Lib.hid (blkk hb2 Q1.out)
  clear hb2 hf Q1 W1 y0 y1 y2 y3 y4 y5 y6 y7 y8 y9
  rcases p1 with _ | _
  · go_wp2
    go_ret
    exact ⟨rfl, W2.out⟩
  have HFP := Lib.hid (HF.out rfl)
  by_cases hl2 : (20000 : Int) < l.length
  · go_wp2
    go_ret
    exact ⟨rfl, W2.out⟩
  have hsz : qk.length ≤ 100000 := by have := HFP.out.2.1; simp only at this; omega
  have HLX := Lib.hid (unpB_keys l)
  have HUN := fun A' v' W (h : RB A' W v' l) hT hg => unp_any A' v' l W h (by omega) hT hg
  have HRN := fun A' v' W (h : RB A' W v' l) => runp_any A' v' l W h (by omega)
  generalize unpB l = X at *
  obtain ⟨⟨xc, xl, xs, xe, xn, xx, xt, ⟨xd, xk, xo⟩⟩, er⟩ := X
  have HUN := Lib.hid HUN
  have HRN := Lib.hid HRN
  simp only at HLX
  clear HF
  go_wp2_with fail
  refine (HUN.out _ _ _ (HV.out.ext W2.out) (tab_below HT.out W2.out HG.out) (Nat.lt_of_lt_of_le HG.out W2.out.size)).mono ?_
  rintro e w3 ⟨d3, v3, rfl, h3d, h3, hb3⟩
  simp only at h3 h3d
  obtain ⟨a1, c1, rfl⟩ := h3d.shape
  obtain ⟨b1, k1, rfl⟩ := h3.shape
  simp only [rpV]
  have HX3 := Lib.hid h3
  have HXD3 := Lib.hid h3d
  have W3 := Lib.hid (below_call W2.out hb3)
  have Q3 := Lib.hid (blkk hb3 Q2.out)
  clear h3 h3d hb3 Q2 W2
  go_upto_region 8 with fail
  obtain ⟨px, hpx⟩ : ∃ px, px = w3.heap.size := ⟨_, rfl⟩
  obtain ⟨w4, hw4⟩ : ∃ w4, w4 = w3.alloc (.cells #[.int .i64 xc, .int .i64 xl, .int .i64 xs, .int .i64 xe, .int .i64 xn, .int .i64 xx, .bool xt, .slice a1 xd.length c1, .slice b1 xk.length k1, .int .i64 xo] 40) := ⟨_, rfl⟩
  rw [← hw4, ← hpx]
  have hb4 : Below w3.heap.size w3 w4 := by rw [hw4]; ((repeat' (first | exact Below.refl _ _ | refine below_drewN ?_ _ | refine Below.drew ?_ | refine Below.alloc ?_ ?_ _ | refine Below.trans ?_ (Below.mono (by assumption) ?_))); all_goals (first | exact Nat.le_refl _ | exact Below.size (by assumption) | omega | (simp; done) | (simp; omega)))
  have X4 : Hid (w4.heap[px]? = some (.cells (rpC ⟨xc, xl, xs, xe, xn, xx, xt, ⟨xd, xk, xo⟩⟩ (.slice a1 xd.length c1) (.slice b1 xk.length k1)) 40 (0, 0))) := Lib.hid (by rw [hw4, hpx]; exact heap_alloc_new _ _)
  have HX4 := Lib.hid (HX3.out.ext hb4)
  have HXD4 := Lib.hid (HXD3.out.ext hb4)
  have W4 := Lib.hid (below_call W3.out hb4)
  have Q4 := Lib.hid (blkk hb4 Q3.out)
  clear hw4 hb4 hpx HX3 HXD3 W3 Q3
  go_wp2_with fail
  refine (HRN.out _ _ _ (HV.out.ext W4.out)).mono ?_
  rintro e w5 ⟨d5, v5, rfl, h5d, h5, hb5⟩
  simp only at h5 h5d
  obtain ⟨a2, c2, rfl⟩ := h5d.shape
  obtain ⟨b2, k2, rfl⟩ := h5.shape
  simp only [rpV]
  have HY5 := Lib.hid h5
  have HYD5 := Lib.hid h5d
  have HX5 := Lib.hid (HX4.out.ext hb5)
  have HXD5 := Lib.hid (HXD4.out.ext hb5)
  have X5 := Lib.hid (blkk hb5 X4.out)
  have W5 := Lib.hid (below_call W4.out hb5)
  have Q5 := Lib.hid (blkk hb5 Q4.out)
  clear h5 h5d hb5 X4 HX4 HXD4 W4 Q4 HUN HRN
  go_upto_region 9 with fail
  obtain ⟨py, hpy⟩ : ∃ py, py = w5.heap.size := ⟨_, rfl⟩
  obtain ⟨wB, hwB⟩ : ∃ wB, wB = w5.alloc (.cells #[.int .i64 xc, .int .i64 xl, .int .i64 xs, .int .i64 xe, .int .i64 xn, .int .i64 xx, .bool xt, .slice a2 xd.length c2, .slice b2 xk.length k2, .int .i64 xo] 40) := ⟨_, rfl⟩
  rw [← hwB, ← hpy]
  have hbB : Below w5.heap.size w5 wB := by rw [hwB]; ((repeat' (first | exact Below.refl _ _ | refine below_drewN ?_ _ | refine Below.drew ?_ | refine Below.alloc ?_ ?_ _ | refine Below.trans ?_ (Below.mono (by assumption) ?_))); all_goals (first | exact Nat.le_refl _ | exact Below.size (by assumption) | omega | (simp; done) | (simp; omega)))
  have YB : Hid (wB.heap[py]? = some (.cells (rpC ⟨xc, xl, xs, xe, xn, xx, xt, ⟨xd, xk, xo⟩⟩ (.slice a2 xd.length c2) (.slice b2 xk.length k2)) 40 (0, 0))) := Lib.hid (by rw [hwB, hpy]; exact heap_alloc_new _ _)
  have HYB := Lib.hid (HY5.out.ext hbB)
  have HYDB := Lib.hid (HYD5.out.ext hbB)
  have HXB := Lib.hid (HX5.out.ext hbB)
  have HXDB := Lib.hid (HXD5.out.ext hbB)
  have XB := Lib.hid (blkk hbB X5.out)
  have WB := Lib.hid (below_call W5.out hbB)
  have QB := Lib.hid (blkk hbB Q5.out)
  clear hwB hbB hpy HY5 HYD5 HX5 HXD5 X5 W5 Q5
  obtain ⟨y0, y1, y2, y3, y4, y5, y6, y7, y8, y9, -⟩ := rp_cells QB.out
  obtain ⟨x0, x1, x2, x3, x4, x5, x6, x7, x8, x9, -⟩ := rp_cells XB.out
  obtain ⟨z0, z1, z2, z3, z4, z5, z6, z7, z8, z9, -⟩ := rp_cells YB.out
  simp only at y0 y1 y2 y3 y4 y5 y6 y7 y8 y9 x0 x1 x2 x3 x4 x5 x6 x7 x8 x9 z0 z1 z2 z3 z4 z5 z6 z7 z8 z9
  have hcells : Hid (∀ W, Below wB.heap.size wB W → Below wB.heap.size wB W ∧ W.cell? ⟨w.heap.size, 0, none⟩ = some (.int .i64 qc) ∧ W.cell? ⟨w.heap.size, 1, none⟩ = some (.int .i64 ql) ∧ W.cell? ⟨w.heap.size, 2, none⟩ = some (.int .i64 qs) ∧ W.cell? ⟨w.heap.size, 3, none⟩ = some (.int .i64 qe) ∧ W.cell? ⟨w.heap.size, 4, none⟩ = some (.int .i64 qn) ∧ W.cell? ⟨w.heap.size, 5, none⟩ = some (.int .i64 qx) ∧ W.cell? ⟨w.heap.size, 6, none⟩ = some (.bool qt) ∧ W.cell? ⟨w.heap.size, 7, none⟩ = some (.slice da qd.length dc) ∧ W.cell? ⟨w.heap.size, 8, none⟩ = some (.slice ka qk.length kc) ∧ W.cell? ⟨w.heap.size, 9, none⟩ = some (.int .i64 qo) ∧ W.cell? ⟨px, 0, none⟩ = some (.int .i64 xc) ∧ W.cell? ⟨px, 1, none⟩ = some (.int .i64 xl) ∧ W.cell? ⟨px, 2, none⟩ = some (.int .i64 xs) ∧ W.cell? ⟨px, 3, none⟩ = some (.int .i64 xe) ∧ W.cell? ⟨px, 4, none⟩ = some (.int .i64 xn) ∧ W.cell? ⟨px, 5, none⟩ = some (.int .i64 xx) ∧ W.cell? ⟨px, 6, none⟩ = some (.bool xt) ∧ W.cell? ⟨px, 7, none⟩ = some (.slice a1 xd.length c1) ∧ W.cell? ⟨px, 8, none⟩ = some (.slice b1 xk.length k1) ∧ W.cell? ⟨px, 9, none⟩ = some (.int .i64 xo) ∧ W.cell? ⟨py, 0, none⟩ = some (.int .i64 xc) ∧ W.cell? ⟨py, 1, none⟩ = some (.int .i64 xl) ∧ W.cell? ⟨py, 2, none⟩ = some (.int .i64 xs) ∧ W.cell? ⟨py, 3, none⟩ = some (.int .i64 xe) ∧ W.cell? ⟨py, 4, none⟩ = some (.int .i64 xn) ∧ W.cell? ⟨py, 5, none⟩ = some (.int .i64 xx) ∧ W.cell? ⟨py, 6, none⟩ = some (.bool xt) ∧ W.cell? ⟨py, 7, none⟩ = some (.slice a2 xd.length c2) ∧ W.cell? ⟨py, 8, none⟩ = some (.slice b2 xk.length k2) ∧ W.cell? ⟨py, 9, none⟩ = some (.int .i64 xo)) := Lib.hid fun W h =>
    ⟨h, cellExt h y0, cellExt h y1, cellExt h y2, cellExt h y3, cellExt h y4, cellExt h y5, cellExt h y6, cellExt h y7, cellExt h y8, cellExt h y9, cellExt h x0, cellExt h x1, cellExt h x2, cellExt h x3, cellExt h x4, cellExt h x5, cellExt h x6, cellExt h x7, cellExt h x8, cellExt h x9, cellExt h z0, cellExt h z1, cellExt h z2, cellExt h z3, cellExt h z4, cellExt h z5, cellExt h z6, cellExt h z7, cellExt h z8, cellExt h z9⟩
  have HTP := Lib.hid fun W (h : Below wB.heap.size wB W) => pkp_any A A ⟨qc, ql, qs, qe, qn, qx, qt, ⟨qd, qk, qo⟩⟩ _ _ W (tab_below HT.out (below_call WB.out h) HG.out) (Nat.lt_of_lt_of_le HG.out (below_call WB.out h).size) (HD.out.ext (below_call WB.out h)) (HK.out.ext (below_call WB.out h)) hsz
  have HRP := Lib.hid fun W (h : Below wB.heap.size wB W) => rpkp_any A A ⟨qc, ql, qs, qe, qn, qx, qt, ⟨qd, qk, qo⟩⟩ _ _ W (HD.out.ext (below_call WB.out h)) (HK.out.ext (below_call WB.out h)) hsz
  have HSM := Lib.hid fun W (h : Below wB.heap.size wB W) => samerp_yes (fun _ => True) (fun _ => True) ⟨xc, xl, xs, xe, xn, xx, xt, ⟨xd, xk, xo⟩⟩ _ _ W ⟨_, _, rfl, (HXDB.out.ext h).weak fun _ _ _ => trivial, SlE.weak (HXB.out.ext h) fun _ _ _ => trivial⟩ ⟨_, _, rfl, HYDB.out.ext h, HYB.out.ext h⟩ HLX.out
  generalize pkpL ⟨qc, ql, qs, qe, qn, qx, qt, ⟨qd, qk, qo⟩⟩ = L at *
  simp only [rpV] at HTP HRP HSM
  have g2 : (er == er) = true := by simp
  clear y0 y1 y2 y3 y4 y5 y6 y7 y8 y9 x0 x1 x2 x3 x4 x5 x6 x7 x8 x9 z0 z1 z2 z3 z4 z5 z6 z7 z8 z9
  go_region_held_law (fun W => Below wB.heap.size wB W ∧ W.cell? ⟨w.heap.size, 0, none⟩ = some (.int .i64 qc) ∧ W.cell? ⟨w.heap.size, 1, none⟩ = some (.int .i64 ql) ∧ W.cell? ⟨w.heap.size, 2, none⟩ = some (.int .i64 qs) ∧ W.cell? ⟨w.heap.size, 3, none⟩ = some (.int .i64 qe) ∧ W.cell? ⟨w.heap.size, 4, none⟩ = some (.int .i64 qn) ∧ W.cell? ⟨w.heap.size, 5, none⟩ = some (.int .i64 qx) ∧ W.cell? ⟨w.heap.size, 6, none⟩ = some (.bool qt) ∧ W.cell? ⟨w.heap.size, 7, none⟩ = some (.slice da qd.length dc) ∧ W.cell? ⟨w.heap.size, 8, none⟩ = some (.slice ka qk.length kc) ∧ W.cell? ⟨w.heap.size, 9, none⟩ = some (.int .i64 qo) ∧ W.cell? ⟨px, 0, none⟩ = some (.int .i64 xc) ∧ W.cell? ⟨px, 1, none⟩ = some (.int .i64 xl) ∧ W.cell? ⟨px, 2, none⟩ = some (.int .i64 xs) ∧ W.cell? ⟨px, 3, none⟩ = some (.int .i64 xe) ∧ W.cell? ⟨px, 4, none⟩ = some (.int .i64 xn) ∧ W.cell? ⟨px, 5, none⟩ = some (.int .i64 xx) ∧ W.cell? ⟨px, 6, none⟩ = some (.bool xt) ∧ W.cell? ⟨px, 7, none⟩ = some (.slice a1 xd.length c1) ∧ W.cell? ⟨px, 8, none⟩ = some (.slice b1 xk.length k1) ∧ W.cell? ⟨px, 9, none⟩ = some (.int .i64 xo) ∧ W.cell? ⟨py, 0, none⟩ = some (.int .i64 xc) ∧ W.cell? ⟨py, 1, none⟩ = some (.int .i64 xl) ∧ W.cell? ⟨py, 2, none⟩ = some (.int .i64 xs) ∧ W.cell? ⟨py, 3, none⟩ = some (.int .i64 xe) ∧ W.cell? ⟨py, 4, none⟩ = some (.int .i64 xn) ∧ W.cell? ⟨py, 5, none⟩ = some (.int .i64 xx) ∧ W.cell? ⟨py, 6, none⟩ = some (.bool xt) ∧ W.cell? ⟨py, 7, none⟩ = some (.slice a2 xd.length c2) ∧ W.cell? ⟨py, 8, none⟩ = some (.slice b2 xk.length k2) ∧ W.cell? ⟨py, 9, none⟩ = some (.int .i64 xo))
    ((refine hcells.out _ ?_; first
      | (with_reducible exact Below.drew (Below.refl _ _))
      | (with_reducible exact hz6)
      | (with_reducible exact hz7)
      | (with_reducible exact hz8)))
    (first
      | (go_at_call 17; refine (HSM.out _ hz7).mono ?_; rintro e w13 ⟨rfl, hb13⟩; have hz8 : Below wB.heap.size wB w13 := below_call hz7 hb13)
      | (go_at_call 16; refine (HRP.out _ hz6).mono ?_; rintro e w12 ⟨v12, rfl, h12, hb12⟩; obtain ⟨a12, c12, rfl⟩ := h12.rb.shape; have hz7 : Below wB.heap.size wB w12 := below_call hz6 hb12; have s3 := cnv_bytes h12.rb w12 (Below.refl _ _); have s4 := cnv_bytes h11.rb w12 hb12)
      | (go_at_call 15; refine (HTP.out _ (Below.drew (Below.refl _ _))).mono ?_; rintro e w11 ⟨v11, rfl, h11, hb11⟩; obtain ⟨a11, c11, rfl⟩ := h11.rb.shape; have hz6 : Below wB.heap.size wB w11 := below_call (Below.drew (Below.refl _ _)) hb11; have s2 := cnv_bytes h11.rb w11 (Below.refl _ _)))
  all_goals
    go_wp2
    go_ret
    exact ⟨rfl, below_call WB.out hz8⟩
end Go.Proofs.YtlgefkaafoidmaaGreatDoor
