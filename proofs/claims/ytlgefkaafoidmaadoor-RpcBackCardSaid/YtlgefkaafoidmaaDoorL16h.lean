/- The walk of terrazzolaw16.RpcBack. -/
import Derived.Test.YtlgefkaafoidmaaDoorGQ
import Derived.Test.YtlgefkaafoidmaaDoorGI
import Derived.Test.YtlgefkaafoidmaaDoorGR
import Derived.Test.YtlgefkaafoidmaaDoorUnqE
import Derived.Test.YtlgefkaafoidmaaDoorPkqE
import Derived.Test.YtlgefkaafoidmaaDoorRt16
namespace Go.Proofs.YtlgefkaafoidmaaDoor
open Go.RowKit Go.WideShapes

set_option maxRecDepth 100000 in
set_option maxHeartbeats 16000000 in
theorem back_law (A B : Nat → Prop) (vq vp : Value) (q : RqD) (p : RpD) (w : World) (hT : TabW w) (hg0 : 0 < w.heap.size) (hq : RqV A w vq q) (hp : RpV B w vp p) :
    Calls Tryd.prog 3 #[vq, vp] w fun e w' => e = .returned (.bool true) ∧ Below w.heap.size w w' := by
  obtain ⟨ov, rfl, ho⟩ := hq
  obtain ⟨oa, oc, rfl⟩ := ho.shape
  obtain ⟨dv, kv, rfl, hd, hk⟩ := hp
  obtain ⟨da, dc, rfl⟩ := hd.shape
  obtain ⟨ka, kc, rfl⟩ := hk.shape
  have HT := Lib.hid hT
  have HG := Lib.hid hg0
  have HO := Lib.hid ho
  have HD := Lib.hid hd
  have HK := Lib.hid hk
  clear hT hg0 ho hd hk
  obtain ⟨qc, ql, qs, qk, qi, qw, qn, ⟨qo, qops⟩⟩ := q
  obtain ⟨pc, pl, ps, pe, pn, px, pt, ⟨pd, pk, po⟩⟩ := p
  simp only [rqV, rpV] at *
  go_enter Tryd.func3, Tryd.ntmps3
  go_wp2_with fail
  obtain ⟨w0, hw0⟩ : ∃ w0, w0 = (w.alloc (.cells #[.int .i64 qc, .int .i64 ql, .int .i64 qs, .int .i64 qk, .int .i64 qi, .int .i64 qw, .int .i64 qn, .string qo, .slice oa qops.length oc] 26)).alloc (.cells #[.int .i64 pc, .int .i64 pl, .int .i64 ps, .int .i64 pe, .int .i64 pn, .int .i64 px, .bool pt, .slice da pd.length dc, .slice ka pk.length kc, .int .i64 po] 33) := ⟨_, rfl⟩
  rw [← hw0]
  have q0 : w0.heap[w.heap.size]? = some (.cells (rqC ⟨qc, ql, qs, qk, qi, qw, qn, ⟨qo, qops⟩⟩ (.slice oa qops.length oc)) 26 (0, 0)) := by rw [hw0]; exact (Below.heap_alloc _ _ _ (by simp)).trans (heap_alloc_new _ _)
  have p0 : w0.heap[w.heap.size + 1]? = some (.cells (rpC ⟨pc, pl, ps, pe, pn, px, pt, ⟨pd, pk, po⟩⟩ (.slice da pd.length dc) (.slice ka pk.length kc)) 33 (0, 0)) := by rw [hw0]; exact heap_alloc2_new _ _ _
  have hw : Below w.heap.size w w0 := by rw [hw0]; ((repeat' (first | exact Below.refl _ _ | refine below_drewN ?_ _ | refine Below.drew ?_ | refine Below.alloc ?_ ?_ _ | refine Below.trans ?_ (Below.mono (by assumption) ?_))); all_goals (first | exact Nat.le_refl _ | exact Below.size (by assumption) | omega | (simp; done) | (simp; omega)))
  clear hw0
  refine (awake_any _ (tab_below HT.out hw HG.out) (Nat.lt_of_lt_of_le HG.out hw.size)).mono ?_
  rintro e w1 ⟨rfl, hb1⟩
  have HW1 := Lib.hid (below_call hw hb1)
  have HQ1 := Lib.hid (blkk hb1 q0)
  have HP1 := Lib.hid (blkk hb1 p0)
  clear hb1 q0 p0 hw
  obtain ⟨y0, y1, y2, y3, y4, y5, y6, y7, y8, -⟩ := rq_cells HQ1.out
  simp only at y0 y1 y2 y3 y4 y5 y6 y7 y8
  go_wp2_with fail
  refine (few_any A ⟨qo, qops⟩ _ _ (HO.out.ext HW1.out)).mono ?_
  rintro e w2 ⟨p1, rfl, hf1, hb2⟩
  have HF1 := Lib.hid hf1
  have HQ2 := Lib.hid (blkk hb2 HQ1.out)
  have HP2 := Lib.hid (blkk hb2 HP1.out)
  have HW2 := Lib.hid (below_call HW1.out hb2)
  clear hb2 hf1 HQ1 HP1 HW1 y0 y1 y2 y3 y4 y5 y6 y7 y8
  obtain ⟨z0, z1, z2, z3, z4, z5, z6, z7, z8, z9, -⟩ := rp_cells HP2.out
  simp only at z0 z1 z2 z3 z4 z5 z6 z7 z8 z9
  go_wp2_with fail
  refine (thin_any B ⟨pd, pk, po⟩ _ _ _ (HD.out.ext HW2.out) (HK.out.ext HW2.out)).mono ?_
  rintro e w3 ⟨p2, rfl, hf2, hb3⟩
  have HF2 := Lib.hid hf2
  have HQ3 := Lib.hid (blkk hb3 HQ2.out)
  have HP3 := Lib.hid (blkk hb3 HP2.out)
  have HW3 := Lib.hid (below_call HW2.out hb3)
  clear hb3 hf2 HQ2 HP2 HW2 z0 z1 z2 z3 z4 z5 z6 z7 z8 z9
  rcases p1 with _ | _
  · go_wp2
    go_ret
    exact ⟨rfl, HW3.out⟩
  rcases p2 with _ | _
  · go_wp2
    go_ret
    exact ⟨rfl, HW3.out⟩
  have hsz := (HF1.out rfl).2.1
  have hlk : pk.length ≤ 100000 := by have := (HF2.out rfl).2.1; simp only at this; omega
  have hlo : qops.length ≤ 100000 := by have := (HF1.out rfl).1; simp only at this; omega
  simp only at hsz
  clear HF1 HF2
  obtain ⟨y0, y1, y2, y3, y4, y5, y6, y7, y8, -⟩ := rq_cells HQ3.out
  simp only at y0 y1 y2 y3 y4 y5 y6 y7 y8
  have HRT := Lib.hid (rt_rq (q := ⟨qc, ql, qs, qk, qi, qw, qn, ⟨qo, qops⟩⟩))
  have HTP := Lib.hid (pkq_exact A ⟨qc, ql, qs, qk, qi, qw, qn, ⟨qo, qops⟩⟩ _ w3 (tab_below HT.out HW3.out HG.out) (Nat.lt_of_lt_of_le HG.out HW3.out.size) (HO.out.ext HW3.out) hsz)
  generalize pkqL ⟨qc, ql, qs, qk, qi, qw, qn, ⟨qo, qops⟩⟩ = L at *
  simp only [rqV] at HTP
  go_wp2_with fail
  refine HTP.out.mono ?_
  rintro e w4 ⟨v4, rfl, h4, hb4⟩
  obtain ⟨a4, c4, rfl⟩ := h4.rb.shape
  have HR4 := Lib.hid h4.rb
  have HQ4 := Lib.hid (blkk hb4 HQ3.out)
  have HP4 := Lib.hid (blkk hb4 HP3.out)
  have HW4 := Lib.hid (below_call HW3.out hb4)
  clear h4 hb4 HQ3 HP3 HW3 HTP hsz y0 y1 y2 y3 y4 y5 y6 y7 y8
  go_upto_if 37 with fail
  go_cut [] (fun wx => wx.heap[w.heap.size]? = some (.cells (rqC ⟨qc, ql, qs, qk, qi, qw, qn, ⟨qo, qops⟩⟩ (.slice oa qops.length oc)) 26 (0, 0)) ∧ wx.heap[w.heap.size + 1]? = some (.cells (rpC ⟨pc, pl, ps, pe, pn, px, pt, ⟨pd, pk, po⟩⟩ (.slice da pd.length dc) (.slice ka pk.length kc)) 33 (0, 0)) ∧ Below w.heap.size w wx)
  case first =>
    by_cases hL : L.length = 0
    · have z0 : ¬ (0 : Int) < L.length := by omega
      clear hL
      go_wp2_with fail
      go_meet
      exact ⟨HQ4.out, HP4.out, HW4.out⟩
    · have z0 : (0 : Int) < L.length := by omega
      obtain ⟨r1, r2, r3⟩ := HRT.out (fun h => hL (by rw [h]; rfl))
      have HUQ := Lib.hid fun A' v' W (h : RB A' W v' L) hT hg => unq_any A' v' L W h (by omega) hT hg
      have HUP := Lib.hid fun A' v' W (h : RB A' W v' L) hT hg => unp_any A' v' L W h (by omega) hT hg
      rw [r1] at HUQ
      rw [r2] at HUP
      clear hL r1 r2 r3 HRT
      go_wp2_with fail
      refine (HUQ.out _ _ _ HR4.out (tab_below HT.out HW4.out HG.out) (Nat.lt_of_lt_of_le HG.out HW4.out.size)).mono ?_
      rintro e w5 ⟨v5, rfl, h5, hb5⟩
      simp only at h5
      obtain ⟨a5, c5, rfl⟩ := h5.shape
      simp only [rqV]
      have HX5 := Lib.hid h5
      have HR5 := Lib.hid (HR4.out.ext hb5)
      have HQ5 := Lib.hid (blkk hb5 HQ4.out)
      have HP5 := Lib.hid (blkk hb5 HP4.out)
      have HW5 := Lib.hid (below_call HW4.out hb5)
      clear h5 hb5 HQ4 HP4 HW4 HR4
      go_upto_region 11 with fail
      obtain ⟨bx, hbx⟩ : ∃ bx, bx = w5.heap.size := ⟨_, rfl⟩
      obtain ⟨w6, hw6⟩ : ∃ w6, w6 = w5.alloc (.cells #[.int .i64 qc, .int .i64 ql, .int .i64 qs, .int .i64 qk, .int .i64 qi, .int .i64 qw, .int .i64 qn, .string qo, .slice a5 qops.length c5] 26) := ⟨_, rfl⟩
      rw [← hw6, ← hbx]
      have hb6 : Below w5.heap.size w5 w6 := by rw [hw6]; ((repeat' (first | exact Below.refl _ _ | refine below_drewN ?_ _ | refine Below.drew ?_ | refine Below.alloc ?_ ?_ _ | refine Below.trans ?_ (Below.mono (by assumption) ?_))); all_goals (first | exact Nat.le_refl _ | exact Below.size (by assumption) | omega | (simp; done) | (simp; omega)))
      have X6 : Hid (w6.heap[bx]? = some (.cells (rqC ⟨qc, ql, qs, qk, qi, qw, qn, ⟨qo, qops⟩⟩ (.slice a5 qops.length c5)) 26 (0, 0))) := Lib.hid (by rw [hw6, hbx]; exact heap_alloc_new _ _)
      have HX6 := Lib.hid (HX5.out.ext hb6)
      have HR6 := Lib.hid (HR5.out.ext hb6)
      have HQ6 := Lib.hid (blkk hb6 HQ5.out)
      have HP6 := Lib.hid (blkk hb6 HP5.out)
      have HW6 := Lib.hid (below_call HW5.out hb6)
      clear hw6 hb6 hbx HX5 HR5 HQ5 HP5 HW5
      go_wp2_with fail
      refine (HUP.out _ _ _ HR6.out (tab_below HT.out HW6.out HG.out) (Nat.lt_of_lt_of_le HG.out HW6.out.size)).mono ?_
      rintro e w7 ⟨d7, k7, rfl, h7d, h7, hb7⟩
      obtain ⟨a7, c7, rfl⟩ := h7d.shape
      obtain ⟨b7, e7, rfl⟩ := h7.shape
      simp only [rpV, RpD.none, ObD.none]
      have HX7 := Lib.hid (HX6.out.ext hb7)
      have X7 := Lib.hid (blkk hb7 X6.out)
      have HQ7 := Lib.hid (blkk hb7 HQ6.out)
      have HP7 := Lib.hid (blkk hb7 HP6.out)
      have HW7 := Lib.hid (below_call HW6.out hb7)
      clear h7 h7d hb7 HX6 X6 HR6 HQ6 HP6 HW6
      go_upto_region 12 with fail
      obtain ⟨w8, hw8⟩ : ∃ w8, w8 = w7.alloc (.cells #[.int .i64 0, .int .i64 0, .int .i64 0, .int .i64 0, .int .i64 0, .int .i64 0, .bool false, .slice a7 0 c7, .slice b7 0 e7, .int .i64 0] 33) := ⟨_, rfl⟩
      rw [← hw8]
      have hb8 : Below w7.heap.size w7 w8 := by rw [hw8]; ((repeat' (first | exact Below.refl _ _ | refine below_drewN ?_ _ | refine Below.drew ?_ | refine Below.alloc ?_ ?_ _ | refine Below.trans ?_ (Below.mono (by assumption) ?_))); all_goals (first | exact Nat.le_refl _ | exact Below.size (by assumption) | omega | (simp; done) | (simp; omega)))
      have HX8 := Lib.hid (HX7.out.ext hb8)
      have X8 := Lib.hid (blkk hb8 X7.out)
      have HQ8 := Lib.hid (blkk hb8 HQ7.out)
      have HP8 := Lib.hid (blkk hb8 HP7.out)
      have HW8 := Lib.hid (below_call HW7.out hb8)
      clear hw8 hb8 HX7 X7 HQ7 HP7 HW7
      obtain ⟨y0, y1, y2, y3, y4, y5, y6, y7, y8, -⟩ := rq_cells HQ8.out
      obtain ⟨x0, x1, x2, x3, x4, x5, x6, x7, x8, -⟩ := rq_cells X8.out
      simp only at y0 y1 y2 y3 y4 y5 y6 y7 y8 x0 x1 x2 x3 x4 x5 x6 x7 x8
      have HSM := Lib.hid (samerq_yes (fun _ => True) A ⟨qc, ql, qs, qk, qi, qw, qn, ⟨qo, qops⟩⟩ _ _ w8 ⟨_, rfl, SlE.weak HX8.out fun _ _ _ => trivial⟩ ⟨_, rfl, HO.out.ext HW8.out⟩ hlo)
      simp only [rqV] at HSM
      go_wp2_with fail
      refine HSM.out.mono ?_
      rintro e w9 ⟨rfl, hb9⟩
      have HQ9 := Lib.hid (blkk hb9 HQ8.out)
      have HP9 := Lib.hid (blkk hb9 HP8.out)
      have HW9 := Lib.hid (below_call HW8.out hb9)
      clear hb9 HQ8 HP8 HW8 HX8 X8 HSM y0 y1 y2 y3 y4 y5 y6 y7 y8 x0 x1 x2 x3 x4 x5 x6 x7 x8
      go_wp2_with fail
      go_meet
      exact ⟨HQ9.out, HP9.out, HW9.out⟩
  case rest =>
    obtain ⟨hQ, hP, hW⟩ := hcut
    have HQ5 := Lib.hid hQ
    have HP5 := Lib.hid hP
    have HW5 := Lib.hid hW
    clear hQ hP hW HQ4 HP4 HW4 HR4 HRT
    obtain ⟨z0, z1, z2, z3, z4, z5, z6, z7, z8, z9, -⟩ := rp_cells HP5.out
    simp only at z0 z1 z2 z3 z4 z5 z6 z7 z8 z9
    have HRT := Lib.hid (rt_rp (p := ⟨pc, pl, ps, pe, pn, px, pt, ⟨pd, pk, po⟩⟩))
    have HTP := Lib.hid (pkp_any B B ⟨pc, pl, ps, pe, pn, px, pt, ⟨pd, pk, po⟩⟩ _ _ wc (tab_below HT.out HW5.out HG.out) (Nat.lt_of_lt_of_le HG.out HW5.out.size) (HD.out.ext HW5.out) (HK.out.ext HW5.out) hlk)
    generalize pkpL ⟨pc, pl, ps, pe, pn, px, pt, ⟨pd, pk, po⟩⟩ = M at *
    simp only [rpV] at HTP
    go_wp2_with fail
    refine HTP.out.mono ?_
    rintro e w6 ⟨v6, rfl, h6, hb6⟩
    obtain ⟨a6, c6, rfl⟩ := h6.rb.shape
    have HR6 := Lib.hid h6.rb
    have HQ6 := Lib.hid (blkk hb6 HQ5.out)
    have HP6 := Lib.hid (blkk hb6 HP5.out)
    have HW6 := Lib.hid (below_call HW5.out hb6)
    clear h6 hb6 HQ5 HP5 HW5 HTP z0 z1 z2 z3 z4 z5 z6 z7 z8 z9
    by_cases hL : M.length = 0
    · have z0 : ¬ (0 : Int) < M.length := by omega
      clear hL
      go_wp2
      go_ret
      exact ⟨rfl, HW6.out⟩
    · have z0 : (0 : Int) < M.length := by omega
      obtain ⟨r1, r2, r3⟩ := HRT.out (fun h => hL (by rw [h]; rfl))
      have HUQ := Lib.hid fun A' v' W (h : RB A' W v' M) hT hg => unq_any A' v' M W h (by omega) hT hg
      have HUP := Lib.hid fun A' v' W (h : RB A' W v' M) hT hg => unp_any A' v' M W h (by omega) hT hg
      rw [r1] at HUP
      rw [r2] at HUQ
      clear hL r1 r2 r3 HRT
      go_wp2_with fail
      refine (HUP.out _ _ _ HR6.out (tab_below HT.out HW6.out HG.out) (Nat.lt_of_lt_of_le HG.out HW6.out.size)).mono ?_
      rintro e w7 ⟨d7, k7, rfl, h7d, h7, hb7⟩
      simp only at h7d h7
      obtain ⟨a7, c7, rfl⟩ := h7d.shape
      obtain ⟨b7, e7, rfl⟩ := h7.shape
      simp only [rpV]
      have HD7 := Lib.hid h7d
      have HK7 := Lib.hid h7
      have HR7 := Lib.hid (HR6.out.ext hb7)
      have HQ7 := Lib.hid (blkk hb7 HQ6.out)
      have HP7 := Lib.hid (blkk hb7 HP6.out)
      have HW7 := Lib.hid (below_call HW6.out hb7)
      clear h7 h7d hb7 HR6 HQ6 HP6 HW6
      go_upto_region 17 with fail
      obtain ⟨bx, hbx⟩ : ∃ bx, bx = w7.heap.size := ⟨_, rfl⟩
      obtain ⟨w8, hw8⟩ : ∃ w8, w8 = w7.alloc (.cells #[.int .i64 pc, .int .i64 pl, .int .i64 ps, .int .i64 pe, .int .i64 pn, .int .i64 px, .bool pt, .slice a7 pd.length c7, .slice b7 pk.length e7, .int .i64 po] 33) := ⟨_, rfl⟩
      rw [← hw8, ← hbx]
      have hb8 : Below w7.heap.size w7 w8 := by rw [hw8]; ((repeat' (first | exact Below.refl _ _ | refine below_drewN ?_ _ | refine Below.drew ?_ | refine Below.alloc ?_ ?_ _ | refine Below.trans ?_ (Below.mono (by assumption) ?_))); all_goals (first | exact Nat.le_refl _ | exact Below.size (by assumption) | omega | (simp; done) | (simp; omega)))
      have X8 : Hid (w8.heap[bx]? = some (.cells (rpC ⟨pc, pl, ps, pe, pn, px, pt, ⟨pd, pk, po⟩⟩ (.slice a7 pd.length c7) (.slice b7 pk.length e7)) 33 (0, 0))) := Lib.hid (by rw [hw8, hbx]; exact heap_alloc_new _ _)
      have HD8 := Lib.hid (HD7.out.ext hb8)
      have HK8 := Lib.hid (HK7.out.ext hb8)
      have HR8 := Lib.hid (HR7.out.ext hb8)
      have HQ8 := Lib.hid (blkk hb8 HQ7.out)
      have HP8 := Lib.hid (blkk hb8 HP7.out)
      have HW8 := Lib.hid (below_call HW7.out hb8)
      clear hw8 hb8 hbx HD7 HK7 HR7 HQ7 HP7 HW7
      go_wp2_with fail
      refine (HUQ.out _ _ _ HR8.out (tab_below HT.out HW8.out HG.out) (Nat.lt_of_lt_of_le HG.out HW8.out.size)).mono ?_
      rintro e w9 ⟨v9, rfl, h9, hb9⟩
      obtain ⟨a9, c9, rfl⟩ := h9.shape
      simp only [rqV, RqD.none, TxD.none]
      have HD9 := Lib.hid (HD8.out.ext hb9)
      have HK9 := Lib.hid (HK8.out.ext hb9)
      have X9 := Lib.hid (blkk hb9 X8.out)
      have HQ9 := Lib.hid (blkk hb9 HQ8.out)
      have HP9 := Lib.hid (blkk hb9 HP8.out)
      have HW9 := Lib.hid (below_call HW8.out hb9)
      clear h9 hb9 HD8 HK8 X8 HR8 HQ8 HP8 HW8
      go_upto_region 18 with fail
      obtain ⟨w10, hw10⟩ : ∃ w10, w10 = w9.alloc (.cells #[.int .i64 0, .int .i64 0, .int .i64 0, .int .i64 0, .int .i64 0, .int .i64 0, .int .i64 0, .string ByteArray.empty, .slice a9 0 c9] 26) := ⟨_, rfl⟩
      rw [← hw10]
      have hb10 : Below w9.heap.size w9 w10 := by rw [hw10]; ((repeat' (first | exact Below.refl _ _ | refine below_drewN ?_ _ | refine Below.drew ?_ | refine Below.alloc ?_ ?_ _ | refine Below.trans ?_ (Below.mono (by assumption) ?_))); all_goals (first | exact Nat.le_refl _ | exact Below.size (by assumption) | omega | (simp; done) | (simp; omega)))
      have HD10 := Lib.hid (HD9.out.ext hb10)
      have HK10 := Lib.hid (HK9.out.ext hb10)
      have X10 := Lib.hid (blkk hb10 X9.out)
      have HQ10 := Lib.hid (blkk hb10 HQ9.out)
      have HP10 := Lib.hid (blkk hb10 HP9.out)
      have HW10 := Lib.hid (below_call HW9.out hb10)
      clear hw10 hb10 HD9 HK9 X9 HQ9 HP9 HW9
      obtain ⟨y0, y1, y2, y3, y4, y5, y6, y7, y8, y9, -⟩ := rp_cells HP10.out
      obtain ⟨x0, x1, x2, x3, x4, x5, x6, x7, x8, x9, -⟩ := rp_cells X10.out
      simp only at y0 y1 y2 y3 y4 y5 y6 y7 y8 y9 x0 x1 x2 x3 x4 x5 x6 x7 x8 x9
      have HSM := Lib.hid (samerp_yes (fun _ => True) (fun _ => True) ⟨pc, pl, ps, pe, pn, px, pt, ⟨pd, pk, po⟩⟩ _ _ w10 ⟨_, _, rfl, HD10.out.weak fun _ _ _ => trivial, SlE.weak HK10.out fun _ _ _ => trivial⟩ ⟨_, _, rfl, (HD.out.ext HW10.out).weak fun _ _ _ => trivial, SlE.weak (HK.out.ext HW10.out) fun _ _ _ => trivial⟩ hlk)
      simp only [rpV] at HSM
      go_wp2_with fail
      refine HSM.out.mono ?_
      rintro e w11 ⟨rfl, hb11⟩
      have HW11 := Lib.hid (below_call HW10.out hb11)
      clear hb11
      go_wp2
      go_ret
      exact ⟨rfl, HW11.out⟩
end Go.Proofs.YtlgefkaafoidmaaDoor
