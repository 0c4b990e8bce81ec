/- Walks of the reference's functions on stripes. -/
import Derived.Test.YthbpafbgnenljaaStripe
namespace Go.Proofs.Ythbpafbgnenljaa
open Go.RowKit

structure RpF (u c o off : Int) : Prop where
  a : 0 ≤ off / u ∧ off / u ≤ 1099511628288
  w : 1 ≤ o / u * c ∧ o / u * c ≤ 64 * 8
  b : 0 ≤ off / u / (o / u * c) ∧ off / u / (o / u * c) ≤ 1099511628288
  d : 0 ≤ off / u % (o / u * c) ∧ off / u % (o / u * c) < o / u * c
  e : 0 ≤ off / u % c ∧ off / u % c < c
  f : 0 ≤ off / u % (o / u * c) / c ∧ off / u % (o / u * c) / c ≤ 64 * 8
  m : 0 ≤ off % u ∧ off % u < u
  t : 0 ≤ off / u / (o / u * c) * c ∧ off / u / (o / u * c) * c ≤ 1099511628288 * 8
  v : 0 ≤ off / u % (o / u * c) / c * u ∧ off / u % (o / u * c) / c * u ≤ 64 * 8 * 64
theorem rpF {u c o off : Int} (H : Lay u c o) (h0 : 0 ≤ off) (h1 : off ≤ 1099511628288) : RpF u c o off := by
  have := H.uo
  have := H.o64
  have := H.c8
  have := H.c1
  have := H.u1
  have := H.e1
  have a := div_b h0 h1 H.u1
  have w := mul_b (a := o / u) (by omega) H.e64 (b := c) (by omega) H.c8
  have w1 : 1 * 1 ≤ o / u * c := Int.mul_le_mul (by omega) (by omega) (by omega) (by omega)
  have b := div_b a.1 a.2 (b := o / u * c) (by omega)
  have d := mod_b (a := off / u) (b := o / u * c) (by omega)
  have e := mod_b (a := off / u) H.c1
  have f := div_b (a := off / u % (o / u * c)) (M := 64 * 8) d.1 (by omega) H.c1
  have t := mul_b b.1 b.2 (b := c) (by omega) H.c8
  have v := mul_b f.1 f.2 (b := u) (N := 64) (by omega) (by omega)
  exact ⟨a, ⟨by omega, w.2⟩, b, d, e, f, mod_b H.u1, t, v⟩

set_option maxHeartbeats 800000 in
theorem refplace_any (u c o off : Int) (w : World) (H : Lay u c o) (hi0 : 0 ≤ off) (hi1 : off ≤ 1099511628288) :
    Calls Try.prog 25 #[lay u c o, .int .i64 off] w fun e w' => e = .returned (.tuple #[.int .i64 (plO u c o off), .int .i64 (plK u c o off)]) ∧ Below w.heap.size w w' := by
  have HP := Lib.hid (pl_ref H off)
  obtain ⟨⟨a0, a1⟩, ⟨w0, w1⟩, ⟨b0, b1⟩, ⟨d0, d1⟩, ⟨e0, e1⟩, ⟨f0, f1⟩, ⟨m0, m1⟩, ⟨t0, t1⟩, ⟨v0, v1⟩⟩ := rpF H hi0 hi1
  obtain ⟨u1, c1, c8, uo, o64, g1, g64, -⟩ := H
  go_enter Try.func25, Try.ntmps25
  go_wp2
  go_quiet (fail)
  go_wp2
  go_ret2
  exact ⟨ret_int2 HP.out.1 HP.out.2, by (repeat' (first | exact Below.refl _ _ | refine below_drewN ?_ _ | refine Below.drew ?_ | refine Below.alloc ?_ (by first | exact Nat.le_refl _ | (simp; done) | (simp; omega)) _ | (refine Below.trans ?_ (Below.mono (by assumption) (by first | exact Nat.le_refl _ | (simp; done) | (simp; omega))))))⟩

theorem PO_no {u c o off : Int} (h : (okB u c o && inF off) = false) : PO u c o off = -1 ∧ PK u c o off = -1 := by
  unfold PO PK; rw [h]; exact ⟨rfl, rfl⟩
theorem PO_yes {u c o off : Int} (h : (okB u c o && inF off) = true) : PO u c o off = plO u c o off ∧ PK u c o off = plK u c o off := by
  unfold PO PK; rw [h]; exact ⟨rfl, rfl⟩

set_option maxHeartbeats 800000 in
theorem refPlace_any (u c o off : Int) (w : World) :
    Calls Try.prog 12 #[lay u c o, .int .i64 off] w fun e w' => e = .returned (.tuple #[.int .i64 (PO u c o off), .int .i64 (PK u c o off)]) ∧ Below w.heap.size w w' := by
  cases hok : okB u c o
  · have HP := Lib.hid (PO_no (u := u) (c := c) (o := o) (off := off) (by rw [hok]; rfl))
    have HH := Lib.hid hok
    clear hok
    go_enter Try.func12, Try.ntmps12
    go_wp2_with (go_at_call 10; refine (refMay_any _ _ _ _).mono ?_; rintro e w' ⟨rfl, hb1⟩; rw [HH.out])
    go_ret2
    exact ⟨ret_int2 (by rw [HP.out.1]) (by rw [HP.out.2]), by (repeat' (first | exact Below.refl _ _ | refine below_drewN ?_ _ | refine Below.drew ?_ | refine Below.alloc ?_ (by first | exact Nat.le_refl _ | (simp; done) | (simp; omega)) _ | (refine Below.trans ?_ (Below.mono (by assumption) (by first | exact Nat.le_refl _ | (simp; done) | (simp; omega))))))⟩
  · have HH := Lib.hid hok
    by_cases h0 : off < 0
    · have HP := Lib.hid (PO_no (u := u) (c := c) (o := o) (off := off) (by simp [inF]; omega))
      clear hok
      go_enter Try.func12, Try.ntmps12
      go_wp2_with (go_at_call 10; refine (refMay_any _ _ _ _).mono ?_; rintro e w' ⟨rfl, hb1⟩; rw [HH.out])
      go_ret2
      exact ⟨ret_int2 (by rw [HP.out.1]) (by rw [HP.out.2]), by (repeat' (first | exact Below.refl _ _ | refine below_drewN ?_ _ | refine Below.drew ?_ | refine Below.alloc ?_ (by first | exact Nat.le_refl _ | (simp; done) | (simp; omega)) _ | (refine Below.trans ?_ (Below.mono (by assumption) (by first | exact Nat.le_refl _ | (simp; done) | (simp; omega))))))⟩
    by_cases h1 : 1099511627776 < off
    · have HP := Lib.hid (PO_no (u := u) (c := c) (o := o) (off := off) (by simp [inF]; omega))
      clear hok
      go_enter Try.func12, Try.ntmps12
      go_wp2_with (go_at_call 10; refine (refMay_any _ _ _ _).mono ?_; rintro e w' ⟨rfl, hb1⟩; rw [HH.out])
      go_ret2
      exact ⟨ret_int2 (by rw [HP.out.1]) (by rw [HP.out.2]), by (repeat' (first | exact Below.refl _ _ | refine below_drewN ?_ _ | refine Below.drew ?_ | refine Below.alloc ?_ (by first | exact Nat.le_refl _ | (simp; done) | (simp; omega)) _ | (refine Below.trans ?_ (Below.mono (by assumption) (by first | exact Nat.le_refl _ | (simp; done) | (simp; omega))))))⟩
    have hi0 : 0 ≤ off := by omega
    have hi1 : off ≤ 1099511628288 := by omega
    have HP := Lib.hid (PO_yes (u := u) (c := c) (o := o) (off := off) (by simp [inF, hok]; omega))
    have H := lay_of hok
    have HQ := Lib.hid (pl_ref H off)
    obtain ⟨⟨a0, a1⟩, ⟨w0, w1⟩, ⟨b0, b1⟩, ⟨d0, d1⟩, ⟨e0, e1⟩, ⟨f0, f1⟩, ⟨m0, m1⟩, ⟨t0, t1⟩, ⟨v0, v1⟩⟩ := rpF H hi0 hi1
    obtain ⟨u1, c1, c8, uo, o64, g1, g64, -⟩ := H
    clear hok
    go_enter Try.func12, Try.ntmps12
    go_wp2_with (go_at_call 10; refine (refMay_any _ _ _ _).mono ?_; rintro e w' ⟨rfl, hb1⟩; rw [HH.out]; obtain ⟨hc1, hf1⟩ := bcell hb1)
    go_quiet (fail)
    go_wp2
    go_ret2
    exact ⟨ret_int2 (by rw [HP.out.1, ← HQ.out.1]) (by rw [HP.out.2, ← HQ.out.2]), by (repeat' (first | exact Below.refl _ _ | refine below_drewN ?_ _ | refine Below.drew ?_ | refine Below.alloc ?_ (by first | exact Nat.le_refl _ | (simp; done) | (simp; omega)) _ | (refine Below.trans ?_ (Below.mono (by assumption) (by first | exact Nat.le_refl _ | (simp; done) | (simp; omega))))))⟩

theorem BK_no {u c o ob k : Int} (h : okB u c o = false ∨ ob < 0 ∨ 1099511627776 < ob ∨ k < 0 ∨ o ≤ k) : BK u c o ob k = -1 := by
  unfold BK
  rw [if_neg]
  simp only [Bool.and_eq_true, decide_eq_true_eq, inF_iff]
  rintro ⟨a, b, d, e⟩
  rw [a] at h
  simp at h
  omega

set_option maxHeartbeats 1000000 in
theorem refBack_any (u c o ob k : Int) (w : World) :
    Calls Try.prog 15 #[lay u c o, .int .i64 ob, .int .i64 k] w fun e w' => e = .returned (.int .i64 (BK u c o ob k)) ∧ Below w.heap.size w w' := by
  cases hok : okB u c o
  · have HP := Lib.hid (BK_no (u := u) (c := c) (o := o) (ob := ob) (k := k) (.inl hok))
    have HH := Lib.hid hok
    clear hok
    go_enter Try.func15, Try.ntmps15
    go_wp2_with (go_at_call 10; refine (refMay_any _ _ _ _).mono ?_; rintro e w' ⟨rfl, hb1⟩; rw [HH.out])
    go_ret
    exact ⟨ret_int (by rw [HP.out]), by (repeat' (first | exact Below.refl _ _ | refine below_drewN ?_ _ | refine Below.drew ?_ | refine Below.alloc ?_ (by first | exact Nat.le_refl _ | (simp; done) | (simp; omega)) _ | (refine Below.trans ?_ (Below.mono (by assumption) (by first | exact Nat.le_refl _ | (simp; done) | (simp; omega))))))⟩
  · have HH := Lib.hid hok
    by_cases h0 : ob < 0
    · have HP := Lib.hid (BK_no (u := u) (c := c) (o := o) (ob := ob) (k := k) (by omega))
      clear hok
      go_enter Try.func15, Try.ntmps15
      go_wp2_with (go_at_call 10; refine (refMay_any _ _ _ _).mono ?_; rintro e w' ⟨rfl, hb1⟩; rw [HH.out])
      go_ret
      exact ⟨ret_int (by rw [HP.out]), by (repeat' (first | exact Below.refl _ _ | refine below_drewN ?_ _ | refine Below.drew ?_ | refine Below.alloc ?_ (by first | exact Nat.le_refl _ | (simp; done) | (simp; omega)) _ | (refine Below.trans ?_ (Below.mono (by assumption) (by first | exact Nat.le_refl _ | (simp; done) | (simp; omega))))))⟩
    by_cases h1 : 1099511627776 < ob
    · have HP := Lib.hid (BK_no (u := u) (c := c) (o := o) (ob := ob) (k := k) (by omega))
      clear hok
      go_enter Try.func15, Try.ntmps15
      go_wp2_with (go_at_call 10; refine (refMay_any _ _ _ _).mono ?_; rintro e w' ⟨rfl, hb1⟩; rw [HH.out])
      go_ret
      exact ⟨ret_int (by rw [HP.out]), by (repeat' (first | exact Below.refl _ _ | refine below_drewN ?_ _ | refine Below.drew ?_ | refine Below.alloc ?_ (by first | exact Nat.le_refl _ | (simp; done) | (simp; omega)) _ | (refine Below.trans ?_ (Below.mono (by assumption) (by first | exact Nat.le_refl _ | (simp; done) | (simp; omega))))))⟩
    by_cases h2 : k < 0
    · have HP := Lib.hid (BK_no (u := u) (c := c) (o := o) (ob := ob) (k := k) (by omega))
      clear hok
      go_enter Try.func15, Try.ntmps15
      go_wp2_with (go_at_call 10; refine (refMay_any _ _ _ _).mono ?_; rintro e w' ⟨rfl, hb1⟩; rw [HH.out])
      go_ret
      exact ⟨ret_int (by rw [HP.out]), by (repeat' (first | exact Below.refl _ _ | refine below_drewN ?_ _ | refine Below.drew ?_ | refine Below.alloc ?_ (by first | exact Nat.le_refl _ | (simp; done) | (simp; omega)) _ | (refine Below.trans ?_ (Below.mono (by assumption) (by first | exact Nat.le_refl _ | (simp; done) | (simp; omega))))))⟩
    by_cases h3 : o ≤ k
    · have HP := Lib.hid (BK_no (u := u) (c := c) (o := o) (ob := ob) (k := k) (by omega))
      clear hok
      go_enter Try.func15, Try.ntmps15
      go_wp2_with (go_at_call 10; refine (refMay_any _ _ _ _).mono ?_; rintro e w' ⟨rfl, hb1⟩; rw [HH.out]; obtain ⟨hc1, hf1⟩ := bcell hb1)
      go_ret
      exact ⟨ret_int (by rw [HP.out]), by (repeat' (first | exact Below.refl _ _ | refine below_drewN ?_ _ | refine Below.drew ?_ | refine Below.alloc ?_ (by first | exact Nat.le_refl _ | (simp; done) | (simp; omega)) _ | (refine Below.trans ?_ (Below.mono (by assumption) (by first | exact Nat.le_refl _ | (simp; done) | (simp; omega))))))⟩
    have hi0 : 0 ≤ ob := by omega
    have hi1 : ob ≤ 1099511627776 := by omega
    have hk0 : 0 ≤ k := by omega
    have hk1 : k < o := by omega
    have H := lay_of hok
    have ho := H.o64
    have HP := Lib.hid (BK_yes (u := u) (c := c) (o := o) (ob := ob) (k := k) (by simp [inF, hok]; omega) hk1)
    have HQ := Lib.hid (bk_ref (u := u) (c := c) (o := o) ob k)
    obtain ⟨⟨a0, a1⟩, ⟨b0, b1⟩, ⟨d0, d1⟩, ⟨m0, m1⟩, ⟨r0, r1⟩, -, -, ⟨p0, p1⟩, ⟨q0, q1⟩, ⟨v0, v1⟩⟩ := bkF H hi0 hi1 hk0 hk1
    obtain ⟨u1, c1, c8, uo, o64, e1, e64, -⟩ := H
    clear hok ho
    go_enter Try.func15, Try.ntmps15
    go_wp2_with (go_at_call 10; refine (refMay_any _ _ _ _).mono ?_; rintro e w' ⟨rfl, hb1⟩; rw [HH.out]; obtain ⟨hc1, hf1⟩ := bcell hb1)
    go_quiet (fail)
    go_wp2
    go_quiet (fail)
    go_wp2
    go_ret
    exact ⟨ret_int (by rw [HP.out, ← HQ.out]), by (repeat' (first | exact Below.refl _ _ | refine below_drewN ?_ _ | refine Below.drew ?_ | refine Below.alloc ?_ (by first | exact Nat.le_refl _ | (simp; done) | (simp; omega)) _ | (refine Below.trans ?_ (Below.mono (by assumption) (by first | exact Nat.le_refl _ | (simp; done) | (simp; omega))))))⟩
end Go.Proofs.Ythbpafbgnenljaa
