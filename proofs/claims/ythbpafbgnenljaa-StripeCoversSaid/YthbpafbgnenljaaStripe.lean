/- Walks of the package stripe and of the reference's small functions: check, may, Place, Back. -/
import Derived.Test.YthbpafbgnenljaaMath03
import Derived.Test.YthbpafbgnenljaaChecked
namespace Go.Proofs.Ythbpafbgnenljaa
open Go.RowKit

abbrev lay (u c o : Int) : Value := .agg #[.int .i64 u, .int .i64 c, .int .i64 o]

set_option maxHeartbeats 400000 in
theorem check_ok (u c o : Int) (w : World) (h : okB u c o = true) :
    Calls Try.prog 13 #[lay u c o] w fun e w' => e = .returned (.int .i64 0) ∧ Below w.heap.size w w' := by
  simp [okB] at h
  obtain ⟨⟨⟨⟨⟨h1, h2⟩, h3⟩, h4⟩, h5⟩, h6⟩ := h
  have hr : (o % u != 0) = false := by simp [h6]
  clear h6
  go_enter Try.func13, Try.ntmps13
  go_wp2
  go_ret
  exact ⟨rfl, by (repeat' (first | exact Below.refl _ _ | refine below_drewN ?_ _ | refine Below.drew ?_ | refine Below.alloc ?_ (by first | exact Nat.le_refl _ | (simp; done) | (simp; omega)) _ | (refine Below.trans ?_ (Below.mono (by assumption) (by first | exact Nat.le_refl _ | (simp; done) | (simp; omega))))))⟩

set_option maxHeartbeats 800000 in
theorem check_no (u c o : Int) (w : World) (h : okB u c o = false) :
    Calls Try.prog 13 #[lay u c o] w fun e w' => e = .returned (.int .i64 1) ∧ Below w.heap.size w w' := by
  by_cases h1 : u < 1
  · go_enter Try.func13, Try.ntmps13
    go_wp2
    go_ret
    exact ⟨rfl, by (repeat' (first | exact Below.refl _ _ | refine below_drewN ?_ _ | refine Below.drew ?_ | refine Below.alloc ?_ (by first | exact Nat.le_refl _ | (simp; done) | (simp; omega)) _ | (refine Below.trans ?_ (Below.mono (by assumption) (by first | exact Nat.le_refl _ | (simp; done) | (simp; omega))))))⟩
  by_cases h2 : c < 1
  · go_enter Try.func13, Try.ntmps13
    go_wp2
    go_ret
    exact ⟨rfl, by (repeat' (first | exact Below.refl _ _ | refine below_drewN ?_ _ | refine Below.drew ?_ | refine Below.alloc ?_ (by first | exact Nat.le_refl _ | (simp; done) | (simp; omega)) _ | (refine Below.trans ?_ (Below.mono (by assumption) (by first | exact Nat.le_refl _ | (simp; done) | (simp; omega))))))⟩
  by_cases h3 : 8 < c
  · go_enter Try.func13, Try.ntmps13
    go_wp2
    go_ret
    exact ⟨rfl, by (repeat' (first | exact Below.refl _ _ | refine below_drewN ?_ _ | refine Below.drew ?_ | refine Below.alloc ?_ (by first | exact Nat.le_refl _ | (simp; done) | (simp; omega)) _ | (refine Below.trans ?_ (Below.mono (by assumption) (by first | exact Nat.le_refl _ | (simp; done) | (simp; omega))))))⟩
  by_cases h4 : o < u
  · go_enter Try.func13, Try.ntmps13
    go_wp2
    go_ret
    exact ⟨rfl, by (repeat' (first | exact Below.refl _ _ | refine below_drewN ?_ _ | refine Below.drew ?_ | refine Below.alloc ?_ (by first | exact Nat.le_refl _ | (simp; done) | (simp; omega)) _ | (refine Below.trans ?_ (Below.mono (by assumption) (by first | exact Nat.le_refl _ | (simp; done) | (simp; omega))))))⟩
  by_cases h5 : 64 < o
  · go_enter Try.func13, Try.ntmps13
    go_wp2
    go_ret
    exact ⟨rfl, by (repeat' (first | exact Below.refl _ _ | refine below_drewN ?_ _ | refine Below.drew ?_ | refine Below.alloc ?_ (by first | exact Nat.le_refl _ | (simp; done) | (simp; omega)) _ | (refine Below.trans ?_ (Below.mono (by assumption) (by first | exact Nat.le_refl _ | (simp; done) | (simp; omega))))))⟩
  have h6 : (o % u != 0) = true := by
    simp [okB] at h
    simp; exact h (by omega) (by omega) (by omega) (by omega) (by omega)
  clear h
  go_enter Try.func13, Try.ntmps13
  go_wp2
  go_ret
  exact ⟨rfl, by (repeat' (first | exact Below.refl _ _ | refine below_drewN ?_ _ | refine Below.drew ?_ | refine Below.alloc ?_ (by first | exact Nat.le_refl _ | (simp; done) | (simp; omega)) _ | (refine Below.trans ?_ (Below.mono (by assumption) (by first | exact Nat.le_refl _ | (simp; done) | (simp; omega))))))⟩

def ckE (u c o : Int) : Int := if okB u c o then 0 else 1
theorem check_any (u c o : Int) (w : World)  :
    Calls Try.prog 13 #[lay u c o] w fun e w' => e = .returned (.int .i64 (ckE u c o)) ∧ Below w.heap.size w w' := by
  unfold ckE
  by_cases h : okB u c o = true
  · rw [if_pos h]; exact check_ok u c o w h
  · rw [if_neg h]; exact check_no u c o w (by simpa using h)

set_option maxHeartbeats 800000 in
theorem refMay_any (u c o : Int) (w : World)  :
    Calls Try.prog 10 #[lay u c o] w fun e w' => e = .returned (.bool (okB u c o)) ∧ Below w.heap.size w w' := by
  by_cases h1 : 1 ≤ u
  · by_cases h2 : 1 ≤ c
    · by_cases h3 : c ≤ 8
      · by_cases h4 : u ≤ o
        · by_cases h5 : o ≤ 64
          · cases h6 : (o % u == 0)
            all_goals
              go_enter Try.func10, Try.ntmps10
              go_wp2
              go_ret
              exact ⟨ret_bool (by simp at h6; simp [okB, *]), by (repeat' (first | exact Below.refl _ _ | refine below_drewN ?_ _ | refine Below.drew ?_ | refine Below.alloc ?_ (by first | exact Nat.le_refl _ | (simp; done) | (simp; omega)) _ | (refine Below.trans ?_ (Below.mono (by assumption) (by first | exact Nat.le_refl _ | (simp; done) | (simp; omega))))))⟩
          · go_enter Try.func10, Try.ntmps10
            go_wp2
            go_ret
            exact ⟨ret_bool (by simp [okB]; omega), by (repeat' (first | exact Below.refl _ _ | refine below_drewN ?_ _ | refine Below.drew ?_ | refine Below.alloc ?_ (by first | exact Nat.le_refl _ | (simp; done) | (simp; omega)) _ | (refine Below.trans ?_ (Below.mono (by assumption) (by first | exact Nat.le_refl _ | (simp; done) | (simp; omega))))))⟩
        · go_enter Try.func10, Try.ntmps10
          go_wp2
          go_ret
          exact ⟨ret_bool (by simp [okB]; omega), by (repeat' (first | exact Below.refl _ _ | refine below_drewN ?_ _ | refine Below.drew ?_ | refine Below.alloc ?_ (by first | exact Nat.le_refl _ | (simp; done) | (simp; omega)) _ | (refine Below.trans ?_ (Below.mono (by assumption) (by first | exact Nat.le_refl _ | (simp; done) | (simp; omega))))))⟩
      · go_enter Try.func10, Try.ntmps10
        go_wp2
        go_ret
        exact ⟨ret_bool (by simp [okB]; omega), by (repeat' (first | exact Below.refl _ _ | refine below_drewN ?_ _ | refine Below.drew ?_ | refine Below.alloc ?_ (by first | exact Nat.le_refl _ | (simp; done) | (simp; omega)) _ | (refine Below.trans ?_ (Below.mono (by assumption) (by first | exact Nat.le_refl _ | (simp; done) | (simp; omega))))))⟩
    · go_enter Try.func10, Try.ntmps10
      go_wp2
      go_ret
      exact ⟨ret_bool (by simp [okB]; omega), by (repeat' (first | exact Below.refl _ _ | refine below_drewN ?_ _ | refine Below.drew ?_ | refine Below.alloc ?_ (by first | exact Nat.le_refl _ | (simp; done) | (simp; omega)) _ | (refine Below.trans ?_ (Below.mono (by assumption) (by first | exact Nat.le_refl _ | (simp; done) | (simp; omega))))))⟩
  · go_enter Try.func10, Try.ntmps10
    go_wp2
    go_ret
    exact ⟨ret_bool (by simp [okB]; omega), by (repeat' (first | exact Below.refl _ _ | refine below_drewN ?_ _ | refine Below.drew ?_ | refine Below.alloc ?_ (by first | exact Nat.le_refl _ | (simp; done) | (simp; omega)) _ | (refine Below.trans ?_ (Below.mono (by assumption) (by first | exact Nat.le_refl _ | (simp; done) | (simp; omega))))))⟩

set_option maxHeartbeats 400000 in
theorem may_any (u c o : Int) (b cap : Nat) (zs : List Int) (hz : zs.length ≤ 100) (w : World) (hb : b < w.heap.size) (hc : ∀ i, i < zs.length → w.cell? ⟨b, i, none⟩ = some (.int .i64 (zs[i]?.getD 0))) :
    Calls Try.prog 23 #[lay u c o, .slice (some ⟨b, 0, none⟩) zs.length cap] w fun e w' => e = .returned (.bool (zs.all inF && okB u c o)) ∧ Below w.heap.size w w' := by
  go_enter Try.func23, Try.ntmps23
  go_wp2
  go_loop [6, 9, 10, 11,12,13,14,15,16,17,18,19] (fun _ i _ _ _ _ _ _ _ _ _ _ => ∃ k : Nat, k ≤ zs.length ∧ i = .int .i64 k ∧ (zs.take k).all inF = true) (fun _ i _ _ _ _ _ _ _ _ _ _ => zs.length - (intOf i).toNat)
  case atStart => exact ⟨0, Nat.zero_le _, rfl, rfl⟩
  case round =>
    obtain ⟨k, hk, rfl, hall⟩ := hrel
    have HA := Lib.hid hall
    clear hall
    by_cases hlt : k < zs.length
    · have hcell := hc k hlt
      clear hc
      have hzk : zs[k]? = some zs[k] := by simp [hlt]
      rw [hzk, Option.getD_some] at hcell
      have hmem : zs[k] ∈ zs := List.getElem_mem hlt
      have HT : Hid (zs.take (k + 1) = zs.take k ++ [zs[k]]) := by
        show _ = _
        rw [List.take_succ_eq_append_getElem hlt]
      clear hzk
      go_wp2
      · go_ret
        refine ⟨ret_bool ?_, by (repeat' (first | exact Below.refl _ _ | refine below_drewN ?_ _ | refine Below.drew ?_ | refine Below.alloc ?_ (by first | exact Nat.le_refl _ | (simp; done) | (simp; omega)) _ | (refine Below.trans ?_ (Below.mono (by assumption) (by first | exact Nat.le_refl _ | (simp; done) | (simp; omega))))))⟩
        symm
        rw [Bool.and_eq_false_iff]
        left
        rw [List.all_eq_false]
        exact ⟨_, hmem, by simp [inF]; omega⟩
      · go_ret
        refine ⟨ret_bool ?_, by (repeat' (first | exact Below.refl _ _ | refine below_drewN ?_ _ | refine Below.drew ?_ | refine Below.alloc ?_ (by first | exact Nat.le_refl _ | (simp; done) | (simp; omega)) _ | (refine Below.trans ?_ (Below.mono (by assumption) (by first | exact Nat.le_refl _ | (simp; done) | (simp; omega))))))⟩
        symm
        rw [Bool.and_eq_false_iff]
        left
        rw [List.all_eq_false]
        exact ⟨_, hmem, by simp [inF]; omega⟩
      · refine ⟨⟨k + 1, by omega, by go_num, ?_⟩, by simp [intOf]; omega⟩
        rw [HT.out, List.all_append, HA.out]
        simp [inF]; omega
    · have hkk : k = zs.length := by omega
      have hall : zs.all inF = true := by have := HA.out; rwa [hkk, List.take_length] at this
      have HA2 := Lib.hid hall
      clear hall HA hkk hc
      go_wp2_with (go_at_call 13; refine (check_any _ _ _ _).mono ?_; rintro e w' ⟨rfl, hb1⟩; unfold ckE)
      all_goals
        go_ret
        exact ⟨ret_bool (by first | rfl | rw [HA2.out] | (rw [HA2.out]; simp [*])), by (repeat' (first | exact Below.refl _ _ | refine below_drewN ?_ _ | refine Below.drew ?_ | refine Below.alloc ?_ (by first | exact Nat.le_refl _ | (simp; done) | (simp; omega)) _ | (refine Below.trans ?_ (Below.mono (by assumption) (by first | exact Nat.le_refl _ | (simp; done) | (simp; omega))))))⟩

theorem may1 (u c o z : Int) (w : World) (b cap : Nat) (hc : w.cell? ⟨b, 0, none⟩ = some (.int .i64 z)) (hb : b < w.heap.size)  :
    Calls Try.prog 23 #[lay u c o, .slice (some ⟨b, 0, none⟩) 1 cap] w fun e w' => e = .returned (.bool (okB u c o && inF z)) ∧ Below w.heap.size w w' := by
  have := may_any u c o b cap [z] (by simp) w hb (by intro i hi; simp at hi; subst hi; simpa using hc)
  simpa [Bool.and_comm] using this
theorem may2 (u c o z y : Int) (w : World) (b cap : Nat) (hc : w.cell? ⟨b, 0, none⟩ = some (.int .i64 z)) (hc' : w.cell? ⟨b, 1, none⟩ = some (.int .i64 y)) (hb : b < w.heap.size)  :
    Calls Try.prog 23 #[lay u c o, .slice (some ⟨b, 0, none⟩) 2 cap] w fun e w' => e = .returned (.bool (okB u c o && (inF z && inF y))) ∧ Below w.heap.size w w' := by
  have := may_any u c o b cap [z, y] (by simp) w hb (by intro i hi; simp at hi; rcases (show i = 0 ∨ i = 1 by omega) with rfl | rfl <;> simpa using by assumption)
  simpa [Bool.and_comm] using this

def PO (u c o off : Int) : Int := if okB u c o && inF off then plO u c o off else -1
def PK (u c o off : Int) : Int := if okB u c o && inF off then plK u c o off else -1
def BK (u c o ob k : Int) : Int := if okB u c o && (inF ob && (inF k && decide (k < o))) then bk u c o ob k else -1

structure PlF (u c o off : Int) : Prop where
  a : 0 ≤ off / u ∧ off / u ≤ 1099511627776
  b : 0 ≤ off / u / c ∧ off / u / c ≤ 1099511627776
  d : 0 ≤ off / u % c ∧ off / u % c < c
  m : 0 ≤ off % u ∧ off % u < u
  r : 0 ≤ off / u / c / (o / u) ∧ off / u / c / (o / u) ≤ 1099511627776
  s : 0 ≤ off / u / c % (o / u) ∧ off / u / c % (o / u) < o / u
  t : 0 ≤ off / u / c / (o / u) * c ∧ off / u / c / (o / u) * c ≤ 1099511627776 * 8
  v : 0 ≤ off / u / c % (o / u) * u ∧ off / u / c % (o / u) * u ≤ 64 * 64
theorem plF {u c o off : Int} (H : Lay u c o) (h0 : 0 ≤ off) (h1 : off ≤ 1099511627776) : PlF u c o off := by
  have a := div_b h0 h1 H.u1
  have b := div_b a.1 a.2 H.c1
  have r := div_b b.1 b.2 H.e1
  have s := mod_b (a := off / u / c) H.e1
  have he := H.e64
  have := H.uo
  have := H.o64
  exact ⟨a, b, mod_b H.c1, mod_b H.u1, r, s, mul_b r.1 r.2 (by have := H.c1; omega) H.c8, mul_b s.1 (by omega) (by have := H.u1; omega) (by omega)⟩

set_option maxHeartbeats 800000 in
theorem place_any (u c o off : Int) (w : World) :
    Calls Try.prog 11 #[lay u c o, .int .i64 off] w fun e w' => e = .returned (.tuple #[.int .i64 (PO u c o off), .int .i64 (PK u c o off)]) ∧ Below w.heap.size w w' := by
  have HP := Lib.hid (show PO u c o off = if okB u c o && inF off then plO u c o off else -1 from rfl)
  have HQ := Lib.hid (show PK u c o off = if okB u c o && inF off then plK u c o off else -1 from rfl)
  cases hh : (okB u c o && inF off)
  · have HH := Lib.hid hh
    clear hh
    go_enter Try.func11, Try.ntmps11
    go_wp2_with (go_at_call 23; refine (may1 _ _ _ off _ _ _ (by simp) (by simp)).mono ?_; rintro e w' ⟨rfl, hb1⟩; rw [HH.out])
    go_ret2
    exact ⟨ret_int2 (by rw [HP.out, HH.out]; rfl) (by rw [HQ.out, HH.out]; rfl), by (repeat' (first | exact Below.refl _ _ | refine below_drewN ?_ _ | refine Below.drew ?_ | refine Below.alloc ?_ (by first | exact Nat.le_refl _ | (simp; done) | (simp; omega)) _ | (refine Below.trans ?_ (Below.mono (by assumption) (by first | exact Nat.le_refl _ | (simp; done) | (simp; omega))))))⟩
  · have HH := Lib.hid hh
    rw [Bool.and_eq_true, inF_iff] at hh
    obtain ⟨hok, hi0, hi1⟩ := hh
    have H := lay_of hok
    obtain ⟨⟨a0, a1⟩, ⟨b0, b1⟩, ⟨d0, d1⟩, ⟨m0, m1⟩, ⟨r0, r1⟩, ⟨s0, s1⟩, ⟨t0, t1⟩, ⟨v0, v1⟩⟩ := plF H hi0 hi1
    obtain ⟨u1, c1, c8, uo, o64, e1, e64, -⟩ := H
    clear hok
    go_enter Try.func11, Try.ntmps11
    go_wp2_with (go_at_call 23; refine (may1 _ _ _ off _ _ _ (by simp) (by simp)).mono ?_; rintro e w' ⟨rfl, hb1⟩; rw [HH.out])
    obtain ⟨hc1, hf1⟩ := bcell hb1
    go_quiet (fail)
    go_wp2
    go_quiet (fail)
    go_wp2
    go_quiet (fail)
    go_wp2
    go_ret2
    exact ⟨ret_int2 (by rw [HP.out, HH.out]; rfl) (by rw [HQ.out, HH.out]; rfl), by (repeat' (first | exact Below.refl _ _ | refine below_drewN ?_ _ | refine Below.drew ?_ | refine Below.alloc ?_ (by first | exact Nat.le_refl _ | (simp; done) | (simp; omega)) _ | (refine Below.trans ?_ (Below.mono (by assumption) (by first | exact Nat.le_refl _ | (simp; done) | (simp; omega))))))⟩

structure BkF (u c o ob k : Int) : Prop where
  a : 0 ≤ ob / c ∧ ob / c ≤ 1099511627776
  b : 0 ≤ k / u ∧ k / u ≤ 64
  d : 0 ≤ ob % c ∧ ob % c < c
  m : 0 ≤ k % u ∧ k % u < u
  r : 0 ≤ ob / c * (o / u) ∧ ob / c * (o / u) ≤ 1099511627776 * 64
  s : 0 ≤ (ob / c * (o / u) + k / u) * c ∧ (ob / c * (o / u) + k / u) * c ≤ (1099511627776 * 64 + 64) * 8
  t : 0 ≤ ((ob / c * (o / u) + k / u) * c + ob % c) * u ∧ ((ob / c * (o / u) + k / u) * c + ob % c) * u ≤ ((1099511627776 * 64 + 64) * 8 + 8) * 64
  p : 0 ≤ ob / c * (o / u) * c ∧ ob / c * (o / u) * c ≤ 1099511627776 * 64 * 8
  q : 0 ≤ k / u * c ∧ k / u * c ≤ 64 * 8
  v : 0 ≤ (ob / c * (o / u) * c + k / u * c + ob % c) * u ∧ (ob / c * (o / u) * c + k / u * c + ob % c) * u ≤ (1099511627776 * 64 * 8 + 64 * 8 + 8) * 64
theorem bkF {u c o ob k : Int} (H : Lay u c o) (h0 : 0 ≤ ob) (h1 : ob ≤ 1099511627776) (k0 : 0 ≤ k) (k1 : k < o) : BkF u c o ob k := by
  have := H.uo
  have := H.o64
  have a := div_b h0 h1 H.c1
  have b := div_b k0 (show k ≤ 64 by omega) H.u1
  have d := mod_b (a := ob) H.c1
  have m := mod_b (a := k) H.u1
  have := H.c8
  have := H.c1
  have := H.u1
  have := H.e1
  have r := mul_b a.1 a.2 (b := o / u) (by omega) H.e64
  have s := mul_b (a := ob / c * (o / u) + k / u) (M := 1099511627776 * 64 + 64) (by omega) (by omega) (b := c) (by omega) H.c8
  have t := mul_b (a := (ob / c * (o / u) + k / u) * c + ob % c) (M := (1099511627776 * 64 + 64) * 8 + 8) (by omega) (by omega) (b := u) (N := 64) (by omega) (by omega)
  have p := mul_b r.1 r.2 (b := c) (by omega) H.c8
  have q := mul_b b.1 b.2 (b := c) (by omega) H.c8
  have v := mul_b (a := ob / c * (o / u) * c + k / u * c + ob % c) (M := 1099511627776 * 64 * 8 + 64 * 8 + 8) (by omega) (by omega) (b := u) (N := 64) (by omega) (by omega)
  exact ⟨a, b, d, m, r, s, t, p, q, v⟩

theorem BK_no1 {u c o ob k : Int} (h : (okB u c o && (inF ob && inF k)) = false) : BK u c o ob k = -1 := by
  unfold BK
  rw [if_neg]
  simp only [Bool.and_eq_true, Bool.and_eq_false_iff] at *
  rintro ⟨a, b, d, -⟩
  simp_all
theorem BK_no2 {u c o ob k : Int} (h : o ≤ k) : BK u c o ob k = -1 := by
  unfold BK
  rw [if_neg]
  simp only [Bool.and_eq_true, decide_eq_true_eq]
  omega
theorem BK_yes {u c o ob k : Int} (h : (okB u c o && (inF ob && inF k)) = true) (hk : k < o) : BK u c o ob k = bk u c o ob k := by
  unfold BK
  rw [if_pos]
  simp only [Bool.and_eq_true, decide_eq_true_eq] at *
  exact ⟨h.1, h.2.1, h.2.2, hk⟩

set_option maxHeartbeats 800000 in
theorem back_any (u c o ob k : Int) (w : World) :
    Calls Try.prog 14 #[lay u c o, .int .i64 ob, .int .i64 k] w fun e w' => e = .returned (.int .i64 (BK u c o ob k)) ∧ Below w.heap.size w w' := by
  cases hh : (okB u c o && (inF ob && inF k))
  · have HH := Lib.hid hh
    have HP := Lib.hid (BK_no1 hh)
    clear hh
    go_enter Try.func14, Try.ntmps14
    go_wp2_with (go_at_call 23; refine (may2 _ _ _ ob k _ _ _ (by simp) (by simp) (by simp)).mono ?_; rintro e w' ⟨rfl, hb1⟩; rw [HH.out])
    go_ret
    exact ⟨ret_int (by rw [HP.out]), by (repeat' (first | exact Below.refl _ _ | refine below_drewN ?_ _ | refine Below.drew ?_ | refine Below.alloc ?_ (by first | exact Nat.le_refl _ | (simp; done) | (simp; omega)) _ | (refine Below.trans ?_ (Below.mono (by assumption) (by first | exact Nat.le_refl _ | (simp; done) | (simp; omega))))))⟩
  · by_cases hk : o ≤ k
    · have HH := Lib.hid hh
      have HP := Lib.hid (BK_no2 (u := u) (c := c) (ob := ob) hk)
      clear hh
      go_enter Try.func14, Try.ntmps14
      go_wp2_with (go_at_call 23; refine (may2 _ _ _ ob k _ _ _ (by simp) (by simp) (by simp)).mono ?_; rintro e w' ⟨rfl, hb1⟩; rw [HH.out]; obtain ⟨hc1, hf1⟩ := bcell hb1)
      go_ret
      exact ⟨ret_int (by rw [HP.out]), by (repeat' (first | exact Below.refl _ _ | refine below_drewN ?_ _ | refine Below.drew ?_ | refine Below.alloc ?_ (by first | exact Nat.le_refl _ | (simp; done) | (simp; omega)) _ | (refine Below.trans ?_ (Below.mono (by assumption) (by first | exact Nat.le_refl _ | (simp; done) | (simp; omega))))))⟩
    · have hk1 : k < o := by omega
      have HH := Lib.hid hh
      have HP := Lib.hid (BK_yes hh hk1)
      rw [Bool.and_eq_true, Bool.and_eq_true, inF_iff, inF_iff] at hh
      obtain ⟨hok, ⟨hi0, hi1⟩, hk0, -⟩ := hh
      have H := lay_of hok
      obtain ⟨⟨a0, a1⟩, ⟨b0, b1⟩, ⟨d0, d1⟩, ⟨m0, m1⟩, ⟨r0, r1⟩, ⟨s0, s1⟩, ⟨t0, t1⟩, -, -, -⟩ := bkF H hi0 hi1 hk0 hk1
      obtain ⟨u1, c1, c8, uo, o64, e1, e64, -⟩ := H
      clear hok
      go_enter Try.func14, Try.ntmps14
      go_wp2_with (go_at_call 23; refine (may2 _ _ _ ob k _ _ _ (by simp) (by simp) (by simp)).mono ?_; rintro e w' ⟨rfl, hb1⟩; rw [HH.out]; obtain ⟨hc1, hf1⟩ := bcell hb1)
      go_quiet (fail)
      go_wp2
      go_quiet (fail)
      go_wp2
      go_ret
      exact ⟨ret_int (by rw [HP.out]; rfl), by (repeat' (first | exact Below.refl _ _ | refine below_drewN ?_ _ | refine Below.drew ?_ | refine Below.alloc ?_ (by first | exact Nat.le_refl _ | (simp; done) | (simp; omega)) _ | (refine Below.trans ?_ (Below.mono (by assumption) (by first | exact Nat.le_refl _ | (simp; done) | (simp; omega))))))⟩
end Go.Proofs.Ythbpafbgnenljaa
