/- The walk of terrazzolaw20.JournalNames. -/
import Derived.Test.YtfeonfihlleoeaaDoorL20a
import Derived.Test.YtfeonfihlleoeaaDoorMask16
import Derived.BigQuiet
namespace Go.Proofs.YtfeonfihlleoeaaDoor
open Go.RowKit Go.WideShapes
attribute [local go_sem ↓] Go.wp_at_zero Go.wp_at_succ

theorem and3j (x : Int) : ∃ i : Nat, i < 4 ∧ bits .and .i64 x 3 = (i : Int) := by
  have h : bits .and .i64 x 3 = x % 4 := i64_maskB x 2 (by omega)
  exact ⟨(x % 4).toNat, by omega, by rw [h]; omega⟩
/-- a journal's name, of two bytes -/
theorem jrn4 (i j : Nat) (hi : i < 4) (hj : j < 4) : ∃ x y : UInt8, jrnS i = ⟨#[106, x]⟩ ∧ jrnS j = ⟨#[106, y]⟩ ∧ (x = y ↔ i = j) := by
  have h : ∀ k : Nat, k < 4 → jrnS k = ⟨#[106, UInt8.ofNat (48 + k)]⟩ := by
    intro k hk
    have : k = 0 ∨ k = 1 ∨ k = 2 ∨ k = 3 := by omega
    rcases this with rfl | rfl | rfl | rfl <;> exact of_decide_eq_true (by kernel_rfl)
  refine ⟨_, _, h i hi, h j hj, ?_⟩
  have h1 : i = 0 ∨ i = 1 ∨ i = 2 ∨ i = 3 := by omega
  have h2 : j = 0 ∨ j = 1 ∨ j = 2 ∨ j = 3 := by omega
  rcases h1 with rfl | rfl | rfl | rfl <;> rcases h2 with rfl | rfl | rfl | rfl <;> decide
set_option maxRecDepth 100000 in
set_option maxHeartbeats 16000000 in
theorem jnames_law (A : Nat → Prop) (za zb : Int) (e : EnD) (a : Option Addr) (c : Nat) (w : World) (hL : LayW w) (hv : RB A w (.slice a e.data.length c) e.data) :
    Calls Tryd.prog 5 #[.int .i64 za, .int .i64 zb, enV e (.slice a e.data.length c)] w (Says true w) := by
  obtain ⟨i, hi, ha⟩ := and3j za
  obtain ⟨j, hj, hb⟩ := and3j zb
  obtain ⟨x, y, hx, hy, hxy⟩ := jrn4 i j hi hj
  obtain ⟨s, o, k, f, n, p, d⟩ := e
  simp only [enV] at *
  have HV := Lib.hid hv
  have HL := Lib.hid hL
  clear hv hL
  obtain ⟨E, hE⟩ : ∃ E, E = (⟨s, o, k, f, n, p, d⟩ : EnD) := ⟨_, rfl⟩
  have hap := fun W (h : Below w.heap.size w W) (h1 : d.length ≤ 1000000) => jappend_any A i E a c W (by rw [hE]; exact HV.out.ext h) (by rw [hE]; exact h1) (HL.out.ext h)
  have hma := fun W => rmayE_any E a c W
  simp only [show enV E (.slice a E.data.length c) = .agg #[.int .i64 s, .int .i64 o, .int .i64 k, .int .i64 f, .int .i64 n, .int .i64 p, .slice a d.length c] from by rw [hE]] at hap
  have hma : ∀ W, Calls Tryd.prog 12 #[.agg #[.int .i64 s, .int .i64 o, .int .i64 k, .int .i64 f, .int .i64 n, .int .i64 p, .slice a d.length c]] W (Says (mayE E) W) := fun W => by
    have := rmayE_any E a c W
    rw [hE] at this ⊢
    exact this
  have HSQ : Hid (E.seq = s) := Lib.hid (by rw [hE])
  have HAP := Lib.hid hap
  have HMA := Lib.hid hma
  have HIX := Lib.hid hx
  have HJY := Lib.hid hy
  have HXY := Lib.hid hxy
  clear hap hma hE hx hy hxy
  go_enter Tryd.func5, Tryd.ntmps5
  go_wp2_with fail
  obtain ⟨w0, hw0⟩ : ∃ w0, w0 = w.alloc (.cells #[.int .i64 s, .int .i64 o, .int .i64 k, .int .i64 f, .int .i64 n, .int .i64 p, .slice a d.length c] 24) := ⟨_, rfl⟩
  rw [← hw0]
  have r0 : w0.heap[w.heap.size]? = some (.cells #[.int .i64 s, .int .i64 o, .int .i64 k, .int .i64 f, .int .i64 n, .int .i64 p, .slice a d.length c] 24 (0, 0)) := by rw [hw0]; exact heap_alloc_new _ _
  have hb0 : Below w.heap.size w w0 := by rw [hw0]; ((repeat' (first | exact Below.refl _ _ | refine below_drewN ?_ _ | refine Below.drew ?_ | refine Below.alloc ?_ ?_ _ | refine Below.trans ?_ (Below.mono (by assumption) ?_))); all_goals (first | exact Nat.le_refl _ | exact Below.size (by assumption) | omega | (simp; done) | (simp; omega)))
  clear hw0
  refine (awake20_any w0 (HL.out.ext hb0)).mono ?_
  rintro q w1 ⟨rfl, hb1⟩
  have R1 := Lib.hid (dblk hb1 r0)
  have HW1 := Lib.hid (dcall hb0 hb1)
  clear r0 hb0 hb1
  obtain ⟨x0, g0⟩ := blk_cell (i := 0) (R1.out)
  obtain ⟨x1, g1⟩ := blk_cell (i := 1) (R1.out)
  obtain ⟨x2, g2⟩ := blk_cell (i := 2) (R1.out)
  obtain ⟨x3, g3⟩ := blk_cell (i := 3) (R1.out)
  obtain ⟨x4, g4⟩ := blk_cell (i := 4) (R1.out)
  obtain ⟨x5, g5⟩ := blk_cell (i := 5) (R1.out)
  obtain ⟨x6, g6⟩ := blk_cell (i := 6) (R1.out)
  simp at x0 x1 x2 x3 x4 x5 x6
  by_cases hd : (1000 : Int) < d.length
  · go_wp2
    go_ret
    exact ⟨rfl, HW1.out⟩
  · go_wp2_with (first
      | (go_at_call 10; refine (jname_any _ _).mono ?_; rintro q w2 ⟨rfl, hq2⟩; subst hq2)
      | fail)
    rw [HIX.out, HJY.out]
    refine (HAP.out _ HW1.out (by omega)).mono ?_
    rintro q w2 ⟨va, vc, rfl, ho2, hb2⟩
    have HO2 := Lib.hid ho2
    have R2 := Lib.hid (dblk hb2 R1.out)
    have HW2 := Lib.hid (dcall HW1.out hb2)
    clear ho2 hb2 R1 HW1 x0 x1 x2 x3 x4 x5 x6 g0 g1 g2 g3 g4 g5 g6 HAP
    cases hm : mayE E with
    | false =>
      have HMF := Lib.hid hm
      have e1 : appT i E = ⟨⟨#[]⟩, []⟩ := by unfold appT; rw [if_neg (by rw [hm]; decide)]
      have e2 : chkN E = 70 := by unfold chkN; rw [if_neg (by rw [hm]; decide)]
      rw [e1, e2]
      clear e1 e2 hm HO2
      go_upto_region 11 with fail
      obtain ⟨w3, hw3⟩ : ∃ w3, w3 = w2.alloc (.cells #[.string ⟨#[]⟩, .slice va 0 vc] 28) := ⟨_, rfl⟩
      (try simp only [List.length_nil])
      rw [← hw3]
      have r3 : w3.heap[w2.heap.size]? = some (.cells #[.string ⟨#[]⟩, .slice va 0 vc] 28 (0, 0)) := by rw [hw3]; exact heap_alloc_new _ _
      have hb3 : Below w2.heap.size w2 w3 := by rw [hw3]; ((repeat' (first | exact Below.refl _ _ | refine below_drewN ?_ _ | refine Below.drew ?_ | refine Below.alloc ?_ ?_ _ | refine Below.trans ?_ (Below.mono (by assumption) ?_))); all_goals (first | exact Nat.le_refl _ | exact Below.size (by assumption) | omega | (simp; done) | (simp; omega)))
      have R3 := Lib.hid (dblk hb3 R2.out)
      have T3 := Lib.hid r3
      have HW3 := Lib.hid (dcall HW2.out hb3)
      clear hw3 r3 hb3 R2 HW2
      obtain ⟨x0, g0⟩ := blk_cell (i := 0) (R3.out)
      obtain ⟨x1, g1⟩ := blk_cell (i := 1) (R3.out)
      obtain ⟨x2, g2⟩ := blk_cell (i := 2) (R3.out)
      obtain ⟨x3, g3⟩ := blk_cell (i := 3) (R3.out)
      obtain ⟨x4, g4⟩ := blk_cell (i := 4) (R3.out)
      obtain ⟨x5, g5⟩ := blk_cell (i := 5) (R3.out)
      obtain ⟨x6, g6⟩ := blk_cell (i := 6) (R3.out)
      simp at x0 x1 x2 x3 x4 x5 x6
      go_wp2_with (go_at_call 12; refine (HMA.out _).mono ?_; rw [HMF.out]; rintro q w4 ⟨rfl, hb4⟩; have T4 := Lib.hid (dblk hb4 T3.out); have HW4 := Lib.hid (dcall HW3.out hb4); obtain ⟨t0, -⟩ := blk_cell (i := 0) T4.out; obtain ⟨t1, -⟩ := blk_cell (i := 1) T4.out; simp at t0 t1; clear hb4)
      go_ret
      exact ⟨by simp, HW4.out⟩
    | true =>
      have HMF := Lib.hid hm
      have e1 : appT i E = ⟨⟨#[106, x]⟩, appL E⟩ := by unfold appT; rw [if_pos hm, HIX.out]
      have e2 : chkN E = 0 := by unfold chkN; rw [if_pos hm]
      rw [e1] at HO2
      rw [e1, e2]
      have hlen := (appL_len E).1
      have hO := HO2.out
      simp only at hO
      obtain ⟨b, off, ov, rfl, hbl, -, c0, -, c2, -⟩ := Ops.at (i := 0) hO (by omega)
      have k0 : (appL E)[0].kind = 4 := by unfold appL; rfl
      have k2 : (appL E)[0].n = s := by rw [← HSQ.out]; unfold appL; rfl
      rw [k0] at c0
      rw [k2] at c2
      simp only [Nat.zero_mul, Nat.add_zero] at c0 c2
      clear e1 e2 hm HO2 hO k0 k2
      dsimp only
      generalize (appL E).length = N at *
      go_upto_region 11 with fail
      obtain ⟨w3, hw3⟩ : ∃ w3, w3 = w2.alloc (.cells #[.string ⟨#[106, x]⟩, .slice (some ⟨b, off, none⟩) N vc] 28) := ⟨_, rfl⟩
      rw [← hw3]
      have r3 : w3.heap[w2.heap.size]? = some (.cells #[.string ⟨#[106, x]⟩, .slice (some ⟨b, off, none⟩) N vc] 28 (0, 0)) := by rw [hw3]; exact heap_alloc_new _ _
      have hb3 : Below w2.heap.size w2 w3 := by rw [hw3]; ((repeat' (first | exact Below.refl _ _ | refine below_drewN ?_ _ | refine Below.drew ?_ | refine Below.alloc ?_ ?_ _ | refine Below.trans ?_ (Below.mono (by assumption) ?_))); all_goals (first | exact Nat.le_refl _ | exact Below.size (by assumption) | omega | (simp; done) | (simp; omega)))
      have R3 := Lib.hid (dblk hb3 R2.out)
      have T3 := Lib.hid r3
      have d0 := cellExt hb3 c0
      have d2 := cellExt hb3 c2
      have HW3 := Lib.hid (dcall HW2.out hb3)
      clear hw3 r3 hb3 R2 HW2 c0 c2
      obtain ⟨x0, g0⟩ := blk_cell (i := 0) (R3.out)
      obtain ⟨x1, g1⟩ := blk_cell (i := 1) (R3.out)
      obtain ⟨x2, g2⟩ := blk_cell (i := 2) (R3.out)
      obtain ⟨x3, g3⟩ := blk_cell (i := 3) (R3.out)
      obtain ⟨x4, g4⟩ := blk_cell (i := 4) (R3.out)
      obtain ⟨x5, g5⟩ := blk_cell (i := 5) (R3.out)
      obtain ⟨x6, g6⟩ := blk_cell (i := 6) (R3.out)
      simp at x0 x1 x2 x3 x4 x5 x6
      go_upto_if 12 with (go_at_call 12; refine (HMA.out _).mono ?_; rw [HMF.out]; rintro q w4 ⟨rfl, hb4⟩; have T4 := Lib.hid (dblk hb4 T3.out); have R4 := Lib.hid (dblk hb4 R3.out); have HW4 := Lib.hid (dcall HW3.out hb4); obtain ⟨t0, -⟩ := blk_cell (i := 0) T4.out; obtain ⟨t1, -⟩ := blk_cell (i := 1) T4.out; obtain ⟨y0, -⟩ := blk_cell (i := 0) R4.out; have f0 := cellExt hb4 d0; have f2 := cellExt hb4 d2; simp at t0 t1 y0; clear hb4)
      obtain ⟨X, hX⟩ : ∃ X, X = (⟨#[106, x]⟩ : ByteArray) := ⟨_, rfl⟩
      obtain ⟨Y, hY⟩ : ∃ Y, Y = (⟨#[106, y]⟩ : ByteArray) := ⟨_, rfl⟩
      rw [← hX] at t0 T4 ⊢
      rw [← hY]
      have sX : X.size = 2 := by rw [hX]; rfl
      have gX : X[0]'(by omega) = 106 := by subst hX; rfl
      have hN3 : decide ((3 : Int) ≤ N) = true := decide_eq_true (by omega)
      have hN4 : decide ((N : Int) < 3) = false := decide_eq_false (by omega)
      have hN0 : (0 : Int) < N := by omega
      have hq : (X.toList == Y.toList) = decide (i = j) := by
        rw [eqL, hX, hY]
        have h1 : ((⟨#[106, x]⟩ : ByteArray) = ⟨#[106, y]⟩) ↔ i = j := by rw [← HXY.out]; simp
        simp [h1]
      have hq2 : (((i : Nat) : Int) == ((j : Nat) : Int)) = decide (i = j) := by
        rw [Bool.eq_iff_iff]
        simp
        omega
      have hq3 : (decide (i = j) == decide (i = j)) = true := by simp
      clear HXY HIX HJY
      generalize decide (i = j) = B at *
      clear hX hY
      go_quiet (fail)
      go_wp2
      go_ret
      exact ⟨rfl, by first | exact HW4.out | exact below_drewN HW4.out _⟩
end Go.Proofs.YtfeonfihlleoeaaDoor
