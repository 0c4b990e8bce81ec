/- Proved: for every layout and numbers, terrazzolaw03.StripeBack answers true, and its arguments read afterwards as before. No condition. -/
import Derived.Test.YthbpafbgnenljaaLaw03a
namespace Go.Proofs.Ythbpafbgnenljaa
open Go.ChangeShapes Go.WideShapes Go.ChangeAt Go.RowKit Go.Joins

theorem and_65535 (n : Int) : bits .and .i64 n 65535 = n % 65536 := by
  have h : (BitVec.ofInt 64 65535).toNat = 2 ^ 16 - 1 := by decide
  have key : (BitVec.ofInt 64 n &&& BitVec.ofInt 64 65535).toNat = (n % ((2 ^ 64 : Nat) : Int)).toNat % 2 ^ 16 := by
    rw [BitVec.toNat_and, BitVec.toNat_ofInt, h, Nat.and_two_pow_sub_one_eq_mod]
  show IntKind.i64.wrap ((BitVec.ofInt 64 n &&& BitVec.ofInt 64 65535).toNat : Nat) = n % 65536
  rw [key, IntKind.wrap_i64]
  omega

theorem bk_le_there {u c o ob k : Int} (H : Lay u c o) (h0 : 0 ≤ ob) (h1 : ob ≤ 65535) (k0 : 0 ≤ k) (k1 : k < o) : bk u c o ob k ≤ 1099511627776 := by
  have := H.uo
  have := H.o64
  have a := div_b h0 h1 H.c1
  have b := div_b k0 (show k ≤ 64 by omega) H.u1
  have d := mod_b (a := ob) H.c1
  have m := mod_b (a := k) H.u1
  have := H.c8
  have := H.c1
  have := H.u1
  have := H.e1
  have r := mul_b a.1 a.2 (b := o / u) (by omega) H.e64
  have s := mul_b (a := ob / c * (o / u) + k / u) (M := 65535 * 64 + 64) (by omega) (by omega) (b := c) (by omega) H.c8
  have t := mul_b (a := (ob / c * (o / u) + k / u) * c + ob % c) (M := (65535 * 64 + 64) * 8 + 8) (by omega) (by omega) (b := u) (N := 64) (by omega) (by omega)
  unfold bk
  omega

set_option maxHeartbeats 1600000 in
theorem law_back_no (u c o off a : Int) (w : World) (h : okB u c o = false ∨ off < 0 ∨ 1000000000 < off ∨ a < 0 ∨ o ≤ a) :
    Calls Try.prog 6 #[lay u c o, .int .i64 off, .int .i64 a] w fun e w' => e = .returned (.bool true) ∧ Below w.heap.size w w' := by
  cases hok : okB u c o
  · have HK := Lib.hid hok
    clear hok h
    go_enter Try.func6, Try.ntmps6
    go_wp2_with fail
    refine (awake_any _).mono ?_
    rintro e w1 ⟨rfl, hb⟩
    have x0 : w1.cell? ⟨w.heap.size, 0, none⟩ = some (.int .i64 u) := cellExt hb (by simp)
    have x1 : w1.cell? ⟨w.heap.size, 1, none⟩ = some (.int .i64 c) := cellExt hb (by simp)
    have x2 : w1.cell? ⟨w.heap.size, 2, none⟩ = some (.int .i64 o) := cellExt hb (by simp)
    have hB : Below w.heap.size w w1 := by ((repeat' (first | exact Below.refl _ _ | refine below_drewN ?_ _ | refine Below.drew ?_ | refine Below.alloc ?_ ?_ _ | refine Below.trans ?_ (Below.mono (by assumption) ?_))); all_goals (first | exact Nat.le_refl _ | exact Below.size (by assumption) | omega | (simp; done) | (simp; omega)))
    clear hb
    go_wp2_with fail
    refine (check_no _ _ _ _ HK.out).mono ?_
    rintro e w2 ⟨rfl, hb⟩
    replace hB := hB.trans (hb.mono hB.size)
    clear hb
    go_wp2_with fail
    go_ret
    exact ⟨rfl, hB⟩
  · have HK := Lib.hid hok
    rw [hok] at h
    simp only [Bool.true_eq_false, false_or] at h
    have fin : ∀ (P : Prop), (off < 0 → P) → (0 ≤ off → 1000000000 < off → P) → (0 ≤ off → off ≤ 1000000000 → a < 0 → P) → (0 ≤ off → off ≤ 1000000000 → 0 ≤ a → o ≤ a → P) → P := by
      intro P h1 h2 h3 h4
      rcases Int.lt_or_le off 0 with g | g
      · exact h1 g
      rcases Int.lt_or_le 1000000000 off with g2 | g2
      · exact h2 g g2
      rcases Int.lt_or_le a 0 with g3 | g3
      · exact h3 g g2 g3
      exact h4 g g2 g3 (by omega)
    clear hok h
    refine fin _ ?_ ?_ ?_ ?_
    all_goals
      intros
      go_enter Try.func6, Try.ntmps6
      go_wp2_with fail
      refine (awake_any _).mono ?_
      rintro e w1 ⟨rfl, hb⟩
      have x0 : w1.cell? ⟨w.heap.size, 0, none⟩ = some (.int .i64 u) := cellExt hb (by simp)
      have x1 : w1.cell? ⟨w.heap.size, 1, none⟩ = some (.int .i64 c) := cellExt hb (by simp)
      have x2 : w1.cell? ⟨w.heap.size, 2, none⟩ = some (.int .i64 o) := cellExt hb (by simp)
      have hB : Below w.heap.size w w1 := by ((repeat' (first | exact Below.refl _ _ | refine below_drewN ?_ _ | refine Below.drew ?_ | refine Below.alloc ?_ ?_ _ | refine Below.trans ?_ (Below.mono (by assumption) ?_))); all_goals (first | exact Nat.le_refl _ | exact Below.size (by assumption) | omega | (simp; done) | (simp; omega)))
      clear hb
      go_wp2_with fail
      refine (check_ok _ _ _ _ HK.out).mono ?_
      rintro e w2 ⟨rfl, hb⟩
      replace x2 := cellExt hb x2
      replace hB := hB.trans (hb.mono hB.size)
      clear hb
      go_wp2_with fail
      go_ret
      exact ⟨rfl, hB⟩

set_option maxHeartbeats 1600000 in
theorem law_back_yes (u c o off a : Int) (w : World) (hok : okB u c o = true) (h0 : 0 ≤ off) (h1 : off ≤ 1000000000) (h2 : 0 ≤ a) (h3 : a < o) :
    Calls Try.prog 6 #[lay u c o, .int .i64 off, .int .i64 a] w fun e w' => e = .returned (.bool true) ∧ Below w.heap.size w w' := by
  have HK := Lib.hid hok
  have H := lay_of hok
  have o64 := H.o64
  have inoff : inF off = true := inF_iff.2 ⟨h0, by omega⟩
  obtain ⟨P1, P2⟩ := PO_yes (u := u) (c := c) (o := o) (off := off) (by rw [hok, inoff]; rfl)
  have X0 := plO_nonneg H h0
  have X1 := plO_le_off H h0
  have Y := plK_range H (off := off)
  obtain ⟨Y0, Y1⟩ := Y
  have B1 : BK u c o (plO u c o off) (plK u c o off) = off := by
    rw [BK_yes (by rw [hok, inF_iff.2 ⟨X0, by omega⟩, inF_iff.2 ⟨Y0, by omega⟩]; rfl) Y1, bk_pl H]
  obtain ⟨z, hz⟩ : ∃ z, z = bits .and .i64 off 65535 := ⟨_, rfl⟩
  have z01 : 0 ≤ z ∧ z ≤ 65535 := by rw [hz, and_65535]; omega
  obtain ⟨z0, z1⟩ := z01
  have B2 : BK u c o z a = bk u c o z a := BK_yes (by rw [hok, inF_iff.2 ⟨z0, by omega⟩, inF_iff.2 ⟨h2, by omega⟩]; rfl) h3
  have T0 := bk_nonneg H z0 h2
  have T1 := bk_le_there H z0 z1 h2 h3
  obtain ⟨Q1, Q2⟩ := PO_yes (u := u) (c := c) (o := o) (off := bk u c o z a) (by rw [hok, inF_iff.2 ⟨T0, T1⟩]; rfl)
  rw [(pl_bk H z0 h2 h3).1] at Q1
  rw [(pl_bk H z0 h2 h3).2] at Q2
  have HP1 := Lib.hid P1
  have HP2 := Lib.hid P2
  have HB1 := Lib.hid B1
  have HB2 := Lib.hid B2
  have HQ1 := Lib.hid Q1
  have HQ2 := Lib.hid Q2
  have HZ := Lib.hid hz.symm
  clear hok inoff P1 P2 B1 B2 Q1 Q2 hz H
  generalize bk u c o z a = there at *
  generalize plO u c o off = X at *
  generalize plK u c o off = Y at *
  go_enter Try.func6, Try.ntmps6
  go_wp2_with fail
  refine (awake_any _).mono ?_
  rintro e w1 ⟨rfl, hb⟩
  have x0 : w1.cell? ⟨w.heap.size, 0, none⟩ = some (.int .i64 u) := cellExt hb (by simp)
  have x1 : w1.cell? ⟨w.heap.size, 1, none⟩ = some (.int .i64 c) := cellExt hb (by simp)
  have x2 : w1.cell? ⟨w.heap.size, 2, none⟩ = some (.int .i64 o) := cellExt hb (by simp)
  have hB : Below w.heap.size w w1 := by ((repeat' (first | exact Below.refl _ _ | refine below_drewN ?_ _ | refine Below.drew ?_ | refine Below.alloc ?_ ?_ _ | refine Below.trans ?_ (Below.mono (by assumption) ?_))); all_goals (first | exact Nat.le_refl _ | exact Below.size (by assumption) | omega | (simp; done) | (simp; omega)))
  clear hb
  go_wp2_with fail
  refine (check_ok _ _ _ _ HK.out).mono ?_
  rintro e w2 ⟨rfl, hb⟩
  replace x0 := cellExt hb x0
  replace x1 := cellExt hb x1
  replace x2 := cellExt hb x2
  replace hB := hB.trans (hb.mono hB.size)
  clear hb
  go_wp2_with fail
  refine (place_any _ _ _ _ _).mono ?_
  rintro e w3 ⟨rfl, hb⟩
  rw [HP1.out, HP2.out]
  replace x0 := cellExt hb x0
  replace x1 := cellExt hb x1
  replace x2 := cellExt hb x2
  replace hB := hB.trans (hb.mono hB.size)
  clear hb
  go_wp2_with fail
  refine (back_any _ _ _ _ _ _).mono ?_
  rintro e w4 ⟨rfl, hb⟩
  rw [HB1.out]
  replace x0 := cellExt hb x0
  replace x1 := cellExt hb x1
  replace x2 := cellExt hb x2
  replace hB := hB.trans (hb.mono hB.size)
  clear hb
  go_wp2_with fail
  rw [HZ.out]
  refine (back_any _ _ _ _ _ _).mono ?_
  rintro e w5 ⟨rfl, hb⟩
  rw [HB2.out]
  replace x0 := cellExt hb x0
  replace x1 := cellExt hb x1
  replace x2 := cellExt hb x2
  replace hB := hB.trans (hb.mono hB.size)
  clear hb
  go_wp2_with fail
  refine (place_any _ _ _ _ _).mono ?_
  rintro e w6 ⟨rfl, hb⟩
  rw [HQ1.out, HQ2.out]
  replace x2 := cellExt hb x2
  replace hB := hB.trans (hb.mono hB.size)
  clear hb
  have T := Lib.hid (show (z == bits .and .i64 off 65535) = true by rw [HZ.out]; simp)
  have T' := T.out
  go_wp2_with fail
  go_ret
  exact ⟨rfl, hB⟩

theorem law_back (u c o off a : Int) (w : World) :
    Calls Try.prog 6 #[lay u c o, .int .i64 off, .int .i64 a] w fun e w' => e = .returned (.bool true) ∧ Below w.heap.size w w' := by
  by_cases h : okB u c o = false ∨ off < 0 ∨ 1000000000 < off ∨ a < 0 ∨ o ≤ a
  · exact law_back_no u c o off a w h
  · simp only [not_or, Bool.not_eq_false] at h
    exact law_back_yes u c o off a w h.1 (by omega) (by omega) (by omega) (by omega)

theorem stripeBack_lifted (os : Os) (started : os.Started) (H : Type) (enc : TypeId × Value → H) :
    ReturnsInHanded {} Try.checked os 6 .any (Rows.stripeBackSpec.pre6 enc Try.prog Try.f6 [] false) (Rows.stripeBackSpec.post enc Try.prog Try.f6 false true false false) := by
  refine lift_law os started rfl rfl ?_ ?_ (by kernel_rfl) Try.func6
    (ChangeSpec.witness6 (enc := enc) (C := Try.checked) false ⟨#[], #[.agg #[.int .i64 0, .int .i64 0, .int .i64 0], .int .i64 0, .int .i64 0], []⟩ 8 (by kernel_rfl) (by kernel_rfl) (by kernel_rfl) (by kernel_rfl)) ?_
  · intro ds hn
    rw [Try.params6] at hn
    obtain ⟨d1, d2, d3, rfl⟩ : ∃ d1 d2 d3, ds = [d1, d2, d3] := by match ds, hn with | [a, b, c], _ => exact ⟨a, b, c, rfl⟩
    exact ⟨rfl, rfl, rfl⟩
  · rw [Try.params6]
    intro t ht
    simp at ht
    rcases ht with rfl | rfl <;> exact ⟨by kernel_rfl, of_decide_eq_true (by kernel_rfl)⟩
  · intro W base args ds p hval hlt hfz hA
    rw [Try.params6] at hA hval
    obtain ⟨u, c, o, a, b, rfl⟩ := open_args3 hval hA
    exact law_back u c o a b W
theorem stripeBack_holds : Rows.StripeBackSaid :=
  OpenClaim.holds_of_wide 6 Try.f6 rfl rfl rfl rfl rfl rfl rfl ⟨rfl, rfl, rfl, rfl, rfl⟩ rfl rfl rfl rfl rfl (by kernel_rfl) Try.func6 (by kernel_rfl)
    (of_decide_eq_true (by kernel_rfl)) (by unfold Func.isWrapper; rw [if_neg (of_decide_eq_false (by kernel_rfl))]; exact ⟨rfl, rfl⟩)
    (fun os started H enc _ => stripeBack_lifted os started H enc)
end Go.Proofs.Ythbpafbgnenljaa
