/- How many bytes of an object an image has: both functions find the one number that parts the object's bytes. -/
import Derived.Test.YthbpafbgnenljaaObj
namespace Go.Proofs.Ythbpafbgnenljaa
open Go.RowKit

/-- n parts the bytes below m of an object into those that lie below s and those that don't -/
def Parts (u c o ob s m n : Int) : Prop := 0 ≤ n ∧ n ≤ m ∧ ∀ k, 0 ≤ k → k < m → (k < n ↔ bk u c o ob k < s)
theorem Parts.one {u c o ob s m n n' : Int} (h : Parts u c o ob s m n) (h' : Parts u c o ob s m n') : n = n' := by
  obtain ⟨a0, a1, a2⟩ := h
  obtain ⟨b0, b1, b2⟩ := h'
  rcases Int.lt_trichotomy n n' with g | g | g
  · have h1 := (b2 n (by omega) (by omega)).1 g
    have h2 := (a2 n (by omega) (by omega)).2 h1
    omega
  · exact g
  · have h1 := (a2 n' (by omega) (by omega)).1 g
    have h2 := (b2 n' (by omega) (by omega)).2 h1
    omega
theorem plO_le_off {u c o off : Int} (H : Lay u c o) (h : 0 ≤ off) : plO u c o off ≤ off := by
  have a := Int.ediv_nonneg h (show 0 ≤ u by have := H.u1; omega)
  have b := Int.ediv_nonneg a (show 0 ≤ c by have := H.c1; omega)
  have d := Int.ediv_le_self (o / u) b
  have e := qr_sum (off / u) c
  have f := Int.ediv_le_self u h
  have g : off / u / c / (o / u) * c ≤ off / u / c * c := Int.mul_le_mul_of_nonneg_right d (by have := H.c1; omega)
  unfold plO; omega
section
variable {u c o : Int} (H : Lay u c o)
include H
omit H in
theorem parts_zero (ob s : Int) : Parts u c o ob s 0 0 := ⟨Int.le_refl _, Int.le_refl _, fun k a b => by omega⟩
theorem parts_low {ob s j n : Int} (h0 : 0 ≤ ob) (hj : 0 ≤ j) (h : Parts u c o ob s (j * u) n) (hf : bk u c o ob (j * u) < s) :
    Parts u c o ob s ((j + 1) * u) (j * u + min u (s - bk u c o ob (j * u))) := by
  have hu := H.u1
  have hju := Int.mul_nonneg hj (show 0 ≤ u by omega)
  rw [Int.add_mul, Int.one_mul]
  refine ⟨by omega, by omega, fun k k0 k1 => ?_⟩
  rcases Int.lt_or_le k (j * u) with g | g
  · have := bk_lt H (ob := ob) k0 g
    omega
  · have := bk_in H (ob := ob) (j := j) (d := k - j * u) (by omega) (by omega)
    rw [show j * u + (k - j * u) = k by omega] at this
    omega
theorem parts_high {ob s j n : Int} (h0 : 0 ≤ ob) (hj : 0 ≤ j) (h : Parts u c o ob s (j * u) n) (hf : s ≤ bk u c o ob (j * u)) :
    Parts u c o ob s ((j + 1) * u) n := by
  have hu := H.u1
  have hju := Int.mul_nonneg hj (show 0 ≤ u by omega)
  obtain ⟨a, b, d⟩ := h
  rw [Int.add_mul, Int.one_mul]
  refine ⟨a, by omega, fun k k0 k1 => ?_⟩
  rcases Int.lt_or_le k (j * u) with g | g
  · exact d k k0 g
  · have := bk_le H (ob := ob) hju g
    omega
theorem parts_hit {ob i n : Int} (hi : 0 ≤ i) (h0 : 0 ≤ ob) (h : Parts u c o ob i o n) (hp : plO u c o i = ob) :
    Parts u c o ob (i + 1) o (max n (plK u c o i + 1)) := by
  have r := plK_range H (off := i)
  have e := bk_pl H (off := i)
  rw [hp] at e
  obtain ⟨a, b, d⟩ := h
  have hn : ¬ plK u c o i < n := fun g => by have := (d _ r.1 r.2).1 g; omega
  refine ⟨by omega, by omega, fun k k0 k1 => ?_⟩
  rcases Int.lt_trichotomy k (plK u c o i) with g | g | g
  · have := bk_lt H (ob := ob) k0 g
    omega
  · subst g; omega
  · have h1 := bk_lt H (ob := ob) r.1 g
    have h2 := d k k0 k1
    have h3 : ¬ bk u c o ob k < i := by omega
    have h4 : ¬ k < n := fun g => h3 (h2.1 g)
    omega
theorem parts_miss {ob i n : Int} (h0 : 0 ≤ ob) (h : Parts u c o ob i o n) (hp : plO u c o i ≠ ob) :
    Parts u c o ob (i + 1) o n := by
  obtain ⟨a, b, d⟩ := h
  refine ⟨a, b, fun k k0 k1 => ?_⟩
  have h1 := d k k0 k1
  have h2 : bk u c o ob k ≠ i := fun e => hp (by have := (pl_bk H h0 k0 k1).1; rw [e] at this; exact this)
  omega
theorem parts_none {ob : Int} (h0 : 0 ≤ ob) : Parts u c o ob 0 o 0 :=
  ⟨Int.le_refl _, by have := H.uo; have := H.u1; omega, fun k k0 k1 => by have := bk_nonneg H (k := k) h0 k0; omega⟩
end

def Rm (u c o ob s r : Int) : Prop := if okB u c o && inF ob && decide (0 ≤ s) && decide (s ≤ 512) then Parts u c o ob s o r else r = 0
theorem Rm.one {u c o ob s r r' : Int} (h : Rm u c o ob s r) (h' : Rm u c o ob s r') : r = r' := by
  unfold Rm at h h'
  split at h
  · rw [if_pos (by assumption)] at h'
    exact h.one h'
  · rw [if_neg (by assumption)] at h'
    omega
theorem Rm.no {u c o ob s : Int} (h : okB u c o = false ∨ ob < 0 ∨ 1099511627776 < ob ∨ s < 0 ∨ 512 < s) : Rm u c o ob s 0 := by
  unfold Rm
  rw [if_neg]
  simp only [Bool.and_eq_true, decide_eq_true_eq, inF_iff]
  rintro ⟨⟨⟨a, b⟩, d⟩, e⟩
  rw [a] at h
  simp at h
  omega
theorem Rm.yes {u c o ob s r : Int} (h : okB u c o = true) (h0 : 0 ≤ ob) (h1 : ob ≤ 1099511627776) (h2 : 0 ≤ s) (h3 : s ≤ 512) (p : Parts u c o ob s o r) : Rm u c o ob s r := by
  unfold Rm
  rw [if_pos]
  · exact p
  · simp only [Bool.and_eq_true, decide_eq_true_eq, inF_iff]
    exact ⟨⟨⟨h, h0, h1⟩, h2⟩, h3⟩

theorem bk_le_big {u c o ob k : Int} (H : Lay u c o) (h0 : 0 ≤ ob) (h1 : ob ≤ 1099511627776) (k0 : 0 ≤ k) (k1 : k < o) : bk u c o ob k ≤ 4611686018427387904 := by
  have f := bkF H h0 h1 k0 k1
  have a := f.t
  have b := f.m
  have := H.uo
  have := H.o64
  unfold bk; omega

set_option maxHeartbeats 1000000 in
theorem room_any (u c o ob s : Int) (w : World) :
    Calls Try.prog 21 #[lay u c o, .int .i64 ob, .int .i64 s] w fun e w' => ∃ r, e = .returned (.int .i64 r) ∧ Rm u c o ob s r ∧ Below w.heap.size w w' := by
  cases hh : (okB u c o && (inF ob && inF s))
  · have HP : Hid (Rm u c o ob s 0) := by
      show Rm u c o ob s 0
      by_cases h : okB u c o = false ∨ ob < 0 ∨ 1099511627776 < ob ∨ s < 0 ∨ 512 < s
      · exact Rm.no h
      · exfalso
        simp only [not_or] at h
        simp [inF, h.1] at hh
        omega
    have HH := Lib.hid hh
    clear hh
    go_enter Try.func21, Try.ntmps21
    go_wp2_with (go_at_call 23; refine (may2 _ _ _ ob s _ _ _ (by simp) (by simp) (by simp)).mono ?_; rintro e w' ⟨rfl, hb1⟩; rw [HH.out])
    go_ret
    exact ⟨0, rfl, HP.out, by (repeat' (first | exact Below.refl _ _ | refine below_drewN ?_ _ | refine Below.drew ?_ | refine Below.alloc ?_ (by first | exact Nat.le_refl _ | (simp; done) | (simp; omega)) _ | (refine Below.trans ?_ (Below.mono (by assumption) (by first | exact Nat.le_refl _ | (simp; done) | (simp; omega))))))⟩
  · have HH := Lib.hid hh
    rw [Bool.and_eq_true, Bool.and_eq_true, inF_iff, inF_iff] at hh
    obtain ⟨hok, ⟨hi0, hi1⟩, hs0, hs1⟩ := hh
    have H := lay_of hok
    by_cases hg : 512 < s
    · have HP : Hid (Rm u c o ob s 0) := Rm.no (by omega)
      clear hok
      go_enter Try.func21, Try.ntmps21
      go_wp2_with (go_at_call 23; refine (may2 _ _ _ ob s _ _ _ (by simp) (by simp) (by simp)).mono ?_; rintro e w' ⟨rfl, hb1⟩; rw [HH.out])
      go_ret
      exact ⟨0, rfl, HP.out, by (repeat' (first | exact Below.refl _ _ | refine below_drewN ?_ _ | refine Below.drew ?_ | refine Below.alloc ?_ (by first | exact Nat.le_refl _ | (simp; done) | (simp; omega)) _ | (refine Below.trans ?_ (Below.mono (by assumption) (by first | exact Nat.le_refl _ | (simp; done) | (simp; omega))))))⟩
    · have HO := Lib.hid hok
      have HL := Lib.hid H
      clear hok
      have u1 := H.u1
      have uo := H.uo
      have o64 := H.o64
      have HE := Lib.hid H.oe
      go_enter Try.func21, Try.ntmps21
      go_wp2_with (go_at_call 23; refine (may2 _ _ _ ob s _ _ _ (by simp) (by simp) (by simp)).mono ?_; rintro e w1 ⟨rfl, hb1⟩; rw [HH.out])
      obtain ⟨w2, hw2⟩ : ∃ w2 : World, w2 = w1 := ⟨_, rfl⟩
      have hbw : Below (w.heap.size + 1) (w.alloc (.cells #[.int .i64 u, .int .i64 c, .int .i64 o] 23)) w1 := by
        refine Below.trans ?_ (hb1.mono (by simp))
        exact (Below.refl _ _).alloc (by simp) _
      clear hb1 hw2
      go_loopw [7, 8] (fun n i wr => ∃ (j : Nat) (m : Int), (j : Int) ≤ o / u ∧ i = .int .i64 (j * u) ∧ n = .int .i64 m ∧ Parts u c o ob s (j * u) m ∧ Below (w.heap.size + 1) (w.alloc (.cells #[.int .i64 u, .int .i64 c, .int .i64 o] 23)) wr) (fun _ i _ => (o - intOf i).toNat)
      case atStart => exact ⟨0, 0, by have := HL.out.e1; simp; omega, by simp, rfl, by simpa using parts_zero _ _, hbw⟩
      case round =>
        obtain ⟨j, m, hj, rfl, rfl, hp, hbr⟩ := hrel
        clear hbw
        have x0 : wr.cell? ⟨w.heap.size, 0, none⟩ = some (.int .i64 u) := (hbr.cell (p := ⟨w.heap.size, 0, none⟩) (by simp)).trans (by simp)
        have x1 : wr.cell? ⟨w.heap.size, 1, none⟩ = some (.int .i64 c) := (hbr.cell (p := ⟨w.heap.size, 1, none⟩) (by simp)).trans (by simp)
        have x2 : wr.cell? ⟨w.heap.size, 2, none⟩ = some (.int .i64 o) := (hbr.cell (p := ⟨w.heap.size, 2, none⟩) (by simp)).trans (by simp)
        have hbw : Below w.heap.size w wr := (by (repeat' (first | exact Below.refl _ _ | refine below_drewN ?_ _ | refine Below.drew ?_ | refine Below.alloc ?_ (by first | exact Nat.le_refl _ | (simp; done) | (simp; omega)) _ | (refine Below.trans ?_ (Below.mono (by assumption) (by first | exact Nat.le_refl _ | (simp; done) | (simp; omega)))))))
        have hsz : w.heap.size < wr.heap.size := by have := hbr.size; simp at this; omega
        have y0 : 0 ≤ (j : Int) * u := Int.mul_nonneg (by omega) (by omega)
        have y1 : (j : Int) * u ≤ o := by
          have : (j : Int) * u ≤ o / u * u := Int.mul_le_mul_of_nonneg_right hj (by omega)
          have := HE.out
          omega
        have z0 := hp.1
        have z1 := hp.2.1
        have HPt := Lib.hid hp
        clear hp
        by_cases hlt : (j : Int) * u < o
        · have hje : (j : Int) + 1 ≤ o / u := by
            rcases Int.lt_or_le (j : Int) (o / u) with g | g
            · omega
            · exfalso
              have : o / u * u ≤ (j : Int) * u := Int.mul_le_mul_of_nonneg_right g (by omega)
              have := HE.out
              omega
          have y2 : ((j : Int) + 1) * u ≤ o := by
            have : ((j : Int) + 1) * u ≤ o / u * u := Int.mul_le_mul_of_nonneg_right hje (by omega)
            have := HE.out
            omega
          rw [Int.add_mul, Int.one_mul] at y2
          have HK : Hid (BK u c o ob (j * u) = bk u c o ob (j * u)) := BK_yes (by rw [HO.out]; simp [inF]; omega) hlt
          have k0 := bk_nonneg H (ob := ob) (k := (j : Int) * u) hi0 y0
          have k1 := bk_le_big H hi0 hi1 y0 hlt
          have HM1 : Hid (((j : Int) + 1) * u = j * u + u) := by show _ = _; rw [Int.add_mul, Int.one_mul]
          go_wp2_with (go_at_call 14; refine (back_any _ _ _ _ _ _).mono ?_; rintro e w'' ⟨rfl, hb2⟩; rw [HK.out]; obtain ⟨hc2, hf2⟩ := bcell hb2)
          all_goals
            go_roundw
            case rel =>
              refine ⟨j + 1, _, by rw [show ((j + 1 : Nat) : Int) = (j : Int) + 1 by omega]; exact hje, by rw [show ((j + 1 : Nat) : Int) = (j : Int) + 1 by omega, HM1.out], rfl, ?_, hbr.trans (hb2.mono hsz)⟩
              rw [show ((j + 1 : Nat) : Int) = (j : Int) + 1 by omega]
              first
                | exact parts_high H hi0 (by omega) HPt.out (by omega)
                | (have := parts_low H hi0 (by omega) HPt.out (by omega); rw [show min u (s - bk u c o ob (↑j * u)) = if s - bk u c o ob (↑j * u) < u then s - bk u c o ob (↑j * u) else u by split <;> omega] at this; exact this)
            case measure => simp [intOf]; omega
        · have hje : (j : Int) * u = o := by omega
          rw [hje] at HPt
          have HR : Hid (Rm u c o ob s m) := Rm.yes HO.out hi0 hi1 hs0 (by omega) HPt.out
          clear hje HPt
          go_wp2
          go_ret
          exact ⟨m, rfl, HR.out, by (repeat' (first | exact Below.refl _ _ | refine below_drewN ?_ _ | refine Below.drew ?_ | refine Below.alloc ?_ (by first | exact Nat.le_refl _ | (simp; done) | (simp; omega)) _ | (refine Below.trans ?_ (Below.mono (by assumption) (by first | exact Nat.le_refl _ | (simp; done) | (simp; omega))))))⟩

set_option maxHeartbeats 1000000 in
theorem refRoom_any (u c o ob s : Int) (w : World) :
    Calls Try.prog 22 #[lay u c o, .int .i64 ob, .int .i64 s] w fun e w' => ∃ r, e = .returned (.int .i64 r) ∧ Rm u c o ob s r ∧ Below w.heap.size w w' := by
  cases hok : okB u c o
  · have HP : Hid (Rm u c o ob s 0) := Rm.no (.inl hok)
    have HH := Lib.hid hok
    clear hok
    go_enter Try.func22, Try.ntmps22
    go_wp2_with (go_at_call 10; refine (refMay_any _ _ _ _).mono ?_; rintro e w' ⟨rfl, hb1⟩; rw [HH.out])
    refine wp_loop_once ?_
    go_wp2
    go_ret
    exact ⟨0, rfl, HP.out, by (repeat' (first | exact Below.refl _ _ | refine below_drewN ?_ _ | refine Below.drew ?_ | refine Below.alloc ?_ (by first | exact Nat.le_refl _ | (simp; done) | (simp; omega)) _ | (refine Below.trans ?_ (Below.mono (by assumption) (by first | exact Nat.le_refl _ | (simp; done) | (simp; omega))))))⟩
  · have HH := Lib.hid hok
    have H := lay_of hok
    clear hok
    by_cases h0 : s < 0
    · have HP : Hid (Rm u c o ob s 0) := Rm.no (by omega)
      go_enter Try.func22, Try.ntmps22
      go_wp2_with (go_at_call 10; refine (refMay_any _ _ _ _).mono ?_; rintro e w' ⟨rfl, hb1⟩; rw [HH.out])
      refine wp_loop_once ?_
      go_wp2
      go_ret
      exact ⟨0, rfl, HP.out, by (repeat' (first | exact Below.refl _ _ | refine below_drewN ?_ _ | refine Below.drew ?_ | refine Below.alloc ?_ (by first | exact Nat.le_refl _ | (simp; done) | (simp; omega)) _ | (refine Below.trans ?_ (Below.mono (by assumption) (by first | exact Nat.le_refl _ | (simp; done) | (simp; omega))))))⟩
    by_cases h2 : 512 < s
    · have HP : Hid (Rm u c o ob s 0) := Rm.no (by omega)
      go_enter Try.func22, Try.ntmps22
      go_wp2_with (go_at_call 10; refine (refMay_any _ _ _ _).mono ?_; rintro e w' ⟨rfl, hb1⟩; rw [HH.out])
      refine wp_loop_once ?_
      go_wp2
      go_ret
      exact ⟨0, rfl, HP.out, by (repeat' (first | exact Below.refl _ _ | refine below_drewN ?_ _ | refine Below.drew ?_ | refine Below.alloc ?_ (by first | exact Nat.le_refl _ | (simp; done) | (simp; omega)) _ | (refine Below.trans ?_ (Below.mono (by assumption) (by first | exact Nat.le_refl _ | (simp; done) | (simp; omega))))))⟩
    have hs : 0 ≤ s := by omega
    obtain ⟨n, rfl⟩ := Int.eq_ofNat_of_zero_le hs
    have o64 := H.o64
    have uo := H.uo
    have u1 := H.u1
    have HL := Lib.hid H
    -- what the loop has found: behind i bytes
    let R : Nat → Int → Prop := fun k m => 0 ≤ m ∧ m ≤ o ∧ (if 0 ≤ ob ∧ ob ≤ 1099511627776 then Parts u c o ob k o m else m = 0)
    have R0 : Hid (R 0 0) := ⟨by omega, by omega, by
      split
      · exact parts_none H (by omega)
      · rfl⟩
    have RS : Hid (∀ (k : Nat) (m : Int), k < n → R k m → (plO u c o k = ob → R (k + 1) (max m (plK u c o k + 1))) ∧ (plO u c o k ≠ ob → R (k + 1) m)) := by
      intro k m hk ⟨a, b, d⟩
      have r := plK_range H (off := (k : Int))
      have q0 := plO_nonneg H (off := (k : Int)) (by omega)
      have q1 := plO_le_off H (off := (k : Int)) (by omega)
      refine ⟨fun e => ⟨by omega, by omega, ?_⟩, fun e => ⟨a, b, ?_⟩⟩
      · rw [if_pos (by omega)] at d ⊢
        rw [show ((k + 1 : Nat) : Int) = (k : Int) + 1 by omega]
        exact parts_hit H (by omega) (by omega) d e
      · split
        · rename_i g
          rw [if_pos g] at d
          rw [show ((k + 1 : Nat) : Int) = (k : Int) + 1 by omega]
          exact parts_miss H g.1 d e
        · rename_i g
          rwa [if_neg g] at d
    have RE : Hid (∀ m, R n m → Rm u c o ob n m) := by
      intro m ⟨a, b, d⟩
      split at d
      · rename_i g
        exact Rm.yes HH.out g.1 g.2 (by omega) (by omega) d
      · subst d
        exact Rm.no (by omega)
    have hR : ∀ k m, R k m → 0 ≤ m ∧ m ≤ o := fun k m h => ⟨h.1, h.2.1⟩
    have HR := Lib.hid hR
    clear hR
    clear_value R
    go_enter Try.func22, Try.ntmps22
    go_wp2_with (go_at_call 10; refine (refMay_any _ _ _ _).mono ?_; rintro e w1 ⟨rfl, hb1⟩; rw [HH.out])
    have hbw : Below (w.heap.size + 1) (w.alloc (.cells #[.int .i64 u, .int .i64 c, .int .i64 o] 23)) w1 := hb1.mono (by simp)
    clear hb1
    go_loopw [8, 9] (fun m i wr => ∃ (k : Nat) (q : Int), k ≤ n ∧ i = .int .i64 k ∧ m = .int .i64 q ∧ R k q ∧ Below (w.heap.size + 1) (w.alloc (.cells #[.int .i64 u, .int .i64 c, .int .i64 o] 23)) wr) (fun _ i _ => n - (intOf i).toNat)
    case atStart => exact ⟨0, 0, Nat.zero_le _, rfl, rfl, R0.out, hbw⟩
    case round =>
      obtain ⟨k, q, hk, rfl, rfl, hr, hbr⟩ := hrel
      clear hbw
      have x0 : wr.cell? ⟨w.heap.size, 0, none⟩ = some (.int .i64 u) := (hbr.cell (p := ⟨w.heap.size, 0, none⟩) (by simp)).trans (by simp)
      have x1 : wr.cell? ⟨w.heap.size, 1, none⟩ = some (.int .i64 c) := (hbr.cell (p := ⟨w.heap.size, 1, none⟩) (by simp)).trans (by simp)
      have x2 : wr.cell? ⟨w.heap.size, 2, none⟩ = some (.int .i64 o) := (hbr.cell (p := ⟨w.heap.size, 2, none⟩) (by simp)).trans (by simp)
      have hbw : Below w.heap.size w wr := (by (repeat' (first | exact Below.refl _ _ | refine below_drewN ?_ _ | refine Below.drew ?_ | refine Below.alloc ?_ (by first | exact Nat.le_refl _ | (simp; done) | (simp; omega)) _ | (refine Below.trans ?_ (Below.mono (by assumption) (by first | exact Nat.le_refl _ | (simp; done) | (simp; omega)))))))
      have hsz : w.heap.size + 1 ≤ wr.heap.size := by have := hbr.size; simpa using this
      obtain ⟨q0, q1⟩ := HR.out k q hr
      have HQ := Lib.hid hr
      clear hr
      by_cases hlt : k < n
      · obtain ⟨p2, p3⟩ := plK_range H (off := (k : Int))
        have HS := Lib.hid (RS.out k q hlt HQ.out)
        cases heq : (plO u c o k == ob)
        all_goals
          have HEQ := Lib.hid heq
          go_wp2_with (go_at_call 25; refine (refplace_any _ _ _ _ _ HL.out (by omega) (by omega)).mono ?_; rintro e w'' ⟨rfl, hb2⟩; obtain ⟨hc2, hf2⟩ := bcell hb2)
          all_goals
            go_roundw
            case rel =>
              refine ⟨k + 1, _, by omega, by go_num, rfl, ?_, hbr.trans (hb2.mono hsz)⟩
              first
                | exact HS.out.2 (by have := HEQ.out; simpa using this)
                | (have := HS.out.1 (by have := HEQ.out; simpa using this); rw [show max q (plK u c o k + 1) = if q < plK u c o k + 1 then plK u c o k + 1 else q by split <;> omega] at this; exact this)
            case measure => simp [intOf]; omega
      · have hkn : k = n := by omega
        subst hkn
        have HF := Lib.hid (RE.out q HQ.out)
        go_wp2
        go_ret
        exact ⟨q, rfl, HF.out, by (repeat' (first | exact Below.refl _ _ | refine below_drewN ?_ _ | refine Below.drew ?_ | refine Below.alloc ?_ (by first | exact Nat.le_refl _ | (simp; done) | (simp; omega)) _ | (refine Below.trans ?_ (Below.mono (by assumption) (by first | exact Nat.le_refl _ | (simp; done) | (simp; omega))))))⟩
end Go.Proofs.Ythbpafbgnenljaa
