/- The walk of terrazzolaw20.JournalAppends. -/
import Derived.Test.YtfeonfihlleoeaaDoorGBA
import Derived.Test.YtfeonfihlleoeaaDoorEg20
namespace Go.Proofs.YtfeonfihlleoeaaDoor
open Go.RowKit Go.WideShapes
attribute [local go_sem ↓] Go.wp_at_zero Go.wp_at_succ

theorem appL_len (e : EnD) : 3 ≤ (appL e).length ∧ (appL e).length ≤ 4 := by
  unfold appL
  split <;> simp
theorem appT_len (i : Int) (e : EnD) : (appT i e).ops.length ≤ 4 := by
  unfold appT
  split
  · exact (appL_len e).2
  · exact Nat.zero_le _
set_option maxRecDepth 100000 in
set_option maxHeartbeats 16000000 in
theorem appends_law (A : Nat → Prop) (i : Int) (e : EnD) (a : Option Addr) (c : Nat) (w : World) (hL : LayW w) (hv : RB A w (.slice a e.data.length c) e.data) :
    Calls Tryd.prog 3 #[.int .i64 i, enV e (.slice a e.data.length c)] w (Says true w) := by
  obtain ⟨s, o, k, f, n, p, d⟩ := e
  simp only [enV] at *
  have HV := Lib.hid hv
  have HL := Lib.hid hL
  clear hv hL
  obtain ⟨E, hE⟩ : ∃ E, E = (⟨s, o, k, f, n, p, d⟩ : EnD) := ⟨_, rfl⟩
  have hap := fun W (h : Below w.heap.size w W) (h1 : d.length ≤ 1000000) => jappend_any A i E a c W (by rw [hE]; exact HV.out.ext h) (by rw [hE]; exact h1) (HL.out.ext h)
  have hra := fun W (h : Below w.heap.size w W) (h1 : d.length ≤ 1000000) => rappend_any A i E a c W (by rw [hE]; exact HV.out.ext h) (by rw [hE]; exact h1)
  simp only [show enV E (.slice a E.data.length c) = .agg #[.int .i64 s, .int .i64 o, .int .i64 k, .int .i64 f, .int .i64 n, .int .i64 p, .slice a d.length c] from by rw [hE]] at hap hra
  have HAP := Lib.hid hap
  have HRA := Lib.hid hra
  clear hap hra hE
  go_enter Tryd.func3, Tryd.ntmps3
  go_wp2_with fail
  obtain ⟨w0, hw0⟩ : ∃ w0, w0 = w.alloc (.cells #[.int .i64 s, .int .i64 o, .int .i64 k, .int .i64 f, .int .i64 n, .int .i64 p, .slice a d.length c] 24) := ⟨_, rfl⟩
  rw [← hw0]
  have r0 : w0.heap[w.heap.size]? = some (.cells #[.int .i64 s, .int .i64 o, .int .i64 k, .int .i64 f, .int .i64 n, .int .i64 p, .slice a d.length c] 24 (0, 0)) := by rw [hw0]; exact heap_alloc_new _ _
  have hb0 : Below w.heap.size w w0 := by rw [hw0]; ((repeat' (first | exact Below.refl _ _ | refine below_drewN ?_ _ | refine Below.drew ?_ | refine Below.alloc ?_ ?_ _ | refine Below.trans ?_ (Below.mono (by assumption) ?_))); all_goals (first | exact Nat.le_refl _ | exact Below.size (by assumption) | omega | (simp; done) | (simp; omega)))
  clear hw0
  refine (awake20_any w0 (HL.out.ext hb0)).mono ?_
  rintro x w1 ⟨rfl, hb1⟩
  have R1 := Lib.hid (dblk hb1 r0)
  have HW1 := Lib.hid (dcall hb0 hb1)
  clear r0 hb0 hb1
  obtain ⟨x0, g0⟩ := blk_cell (i := 0) (R1.out)
  obtain ⟨x1, g1⟩ := blk_cell (i := 1) (R1.out)
  obtain ⟨x2, g2⟩ := blk_cell (i := 2) (R1.out)
  obtain ⟨x3, g3⟩ := blk_cell (i := 3) (R1.out)
  obtain ⟨x4, g4⟩ := blk_cell (i := 4) (R1.out)
  obtain ⟨x5, g5⟩ := blk_cell (i := 5) (R1.out)
  obtain ⟨x6, g6⟩ := blk_cell (i := 6) (R1.out)
  simp at x0 x1 x2 x3 x4 x5 x6
  by_cases hd : (1000 : Int) < d.length
  · go_wp2
    go_ret
    exact ⟨rfl, HW1.out⟩
  · go_wp2_with fail
    refine (HAP.out _ HW1.out (by omega)).mono ?_
    rintro x w2 ⟨va, vc, rfl, ho2, hb2⟩
    have HO2 := Lib.hid ho2
    have R2 := Lib.hid (dblk hb2 R1.out)
    have HW2 := Lib.hid (dcall HW1.out hb2)
    clear ho2 hb2 R1 HW1 x0 x1 x2 x3 x4 x5 x6 g0 g1 g2 g3 g4 g5 g6 HAP
    have HTL := Lib.hid (appT_len i E)
    obtain ⟨T, hT⟩ : ∃ T, T = appT i E := ⟨_, rfl⟩
    obtain ⟨N, hN⟩ : ∃ N, N = chkN E := ⟨_, rfl⟩
    have hra := HRA.out
    unfold AppO at hra
    rw [← hT] at HO2 HTL hra ⊢
    rw [← hN] at hra ⊢
    have HRA2 := Lib.hid hra
    clear hT hN HRA hra
    obtain ⟨tn, tl⟩ := T
    (try simp only at HO2 HTL)
    go_upto_region 7 with fail
    obtain ⟨w3, hw3⟩ : ∃ w3, w3 = w2.alloc (.cells #[.string tn, .slice va tl.length vc] 28) := ⟨_, rfl⟩
    rw [← hw3]
    have r3 : w3.heap[w2.heap.size]? = some (.cells #[.string tn, .slice va tl.length vc] 28 (0, 0)) := by rw [hw3]; exact heap_alloc_new _ _
    have hb3 : Below w2.heap.size w2 w3 := by rw [hw3]; ((repeat' (first | exact Below.refl _ _ | refine below_drewN ?_ _ | refine Below.drew ?_ | refine Below.alloc ?_ ?_ _ | refine Below.trans ?_ (Below.mono (by assumption) ?_))); all_goals (first | exact Nat.le_refl _ | exact Below.size (by assumption) | omega | (simp; done) | (simp; omega)))
    have HO3 := Lib.hid (HO2.out.ext hb3)
    have HT3 := Lib.hid r3
    have R3 := Lib.hid (dblk hb3 R2.out)
    have HW3 := Lib.hid (dcall HW2.out hb3)
    clear hw3 r3 hb3 HO2 R2 HW2
    obtain ⟨x0, g0⟩ := blk_cell (i := 0) (R3.out)
    obtain ⟨x1, g1⟩ := blk_cell (i := 1) (R3.out)
    obtain ⟨x2, g2⟩ := blk_cell (i := 2) (R3.out)
    obtain ⟨x3, g3⟩ := blk_cell (i := 3) (R3.out)
    obtain ⟨x4, g4⟩ := blk_cell (i := 4) (R3.out)
    obtain ⟨x5, g5⟩ := blk_cell (i := 5) (R3.out)
    obtain ⟨x6, g6⟩ := blk_cell (i := 6) (R3.out)
    simp at x0 x1 x2 x3 x4 x5 x6
    go_wp2_with fail
    refine (HRA2.out _ HW3.out (by omega)).mono ?_
    rintro x w4 ⟨vb, vd, rfl, ho4, hb4⟩
    have HO4 := Lib.hid ho4
    have HP4 := Lib.hid (HO3.out.ext hb4)
    have HT4 := Lib.hid (dblk hb4 HT3.out)
    have HW4 := Lib.hid (dcall HW3.out hb4)
    clear ho4 hb4 HO3 HT3 R3 HW3 x0 x1 x2 x3 x4 x5 x6 g0 g1 g2 g3 g4 g5 g6 HRA2
    go_upto_region 8 with fail
    obtain ⟨w5, hw5⟩ : ∃ w5, w5 = w4.alloc (.cells #[.string tn, .slice vb tl.length vd] 28) := ⟨_, rfl⟩
    rw [← hw5]
    have r5 : w5.heap[w4.heap.size]? = some (.cells #[.string tn, .slice vb tl.length vd] 28 (0, 0)) := by rw [hw5]; exact heap_alloc_new _ _
    have hb5 : Below w4.heap.size w4 w5 := by rw [hw5]; ((repeat' (first | exact Below.refl _ _ | refine below_drewN ?_ _ | refine Below.drew ?_ | refine Below.alloc ?_ ?_ _ | refine Below.trans ?_ (Below.mono (by assumption) ?_))); all_goals (first | exact Nat.le_refl _ | exact Below.size (by assumption) | omega | (simp; done) | (simp; omega)))
    obtain ⟨y0, -⟩ := blk_cell (i := 0) (dblk hb5 HT4.out)
    obtain ⟨y1, -⟩ := blk_cell (i := 1) (dblk hb5 HT4.out)
    obtain ⟨z0, -⟩ := blk_cell (i := 0) r5
    obtain ⟨z1, -⟩ := blk_cell (i := 1) r5
    simp at y0 y1 z0 z1
    have hsm := same9_yes _ _ ⟨tn, tl⟩ _ _ w5 (HP4.out.ext hb5) (HO4.out.ext hb5) (by have := HTL.out; show tl.length ≤ _; have h2 : tl.length ≤ 4 := this; omega)
    have HSM := Lib.hid hsm
    have HW5 := Lib.hid (dcall HW4.out hb5)
    clear hw5 r5 hb5 HP4 HO4 HT4 HW4 hsm
    go_wp2_with (first
      | (go_at_call 9; refine HSM.out.mono ?_; rintro x w6 ⟨rfl, hb6⟩; have HW6 := Lib.hid (dcall HW5.out hb6); clear hb6)
      | (go_at_call 10; refine (jname_any _ _).mono ?_; rintro x w7 ⟨rfl, rfl⟩)
      | (go_at_call 11; refine (rjname_any _ _).mono ?_; rintro x w8 ⟨rfl, hb8⟩; have HW8 := Lib.hid (dcall HW6.out hb8); clear hb8))
    go_ret
    exact ⟨by simp, HW8.out⟩
end Go.Proofs.YtfeonfihlleoeaaDoor
