/- How many objects an image has: the formula and the reference's count. -/
import Derived.Test.YthbpafbgnenljaaRef03
namespace Go.Proofs.Ythbpafbgnenljaa
open Go.RowKit

def obF (u c o s : Int) : Int := (s + u - 1) / u / (o / u * c) * c + min ((s + u - 1) / u % (o / u * c)) c

theorem obF_zero {u c o : Int} (H : Lay u c o) : obF u c o 0 = 0 := by
  have := H.u1; have := H.c1
  have h : (0 + u - 1) / u = 0 := Int.ediv_eq_zero_of_lt (by omega) (by omega)
  unfold obF
  rw [h]
  simp
  omega
/-- the units of s bytes -/
theorem units_succ {u s : Int} (hu : 1 ≤ u) : (s + 1 + u - 1) / u = s / u + 1 := by
  rw [show s + 1 + u - 1 = s + 1 * u by omega, Int.add_mul_ediv_right _ _ (by omega)]
theorem units_same {u s : Int} (hu : 1 ≤ u) (h : s % u ≠ 0) : (s + u - 1) / u = s / u + 1 := by
  have m := mod_b (a := s) hu
  have e := qr_sum s u
  have := (qr_of (a := s / u + 1) (r := s % u - 1) (b := u) (by omega) (by omega)).1
  rw [← this]
  congr 1
  rw [Int.add_mul]
  omega
theorem units_new {u s : Int} (hu : 1 ≤ u) (h : s % u = 0) : (s + u - 1) / u = s / u := by
  have e := qr_sum s u
  have := (qr_of (a := s / u) (r := u - 1) (b := u) (by omega) (by omega)).1
  rw [← this]
  congr 1
  omega
/-- one unit more -/
theorem grow {c row V : Int} (hc : 1 ≤ c) (hcr : c ≤ row) (hd : (V % row) % c = V % c) :
    (V + 1) / row * c + min ((V + 1) % row) c = max (V / row * c + min (V % row) c) (V / row * c + V % c + 1) := by
  have m := mod_b (a := V) (b := row) (by omega)
  have mc := mod_b (a := V) hc
  have e := qr_sum V row
  have hs : V % row < c → V % c = V % row := fun h => by rw [← hd, Int.emod_eq_of_lt m.1 h]
  by_cases h : V % row + 1 < row
  · obtain ⟨a1, a2⟩ := qr_of (a := V / row) (r := V % row + 1) (b := row) (by omega) h
    rw [show V / row * row + (V % row + 1) = V + 1 by omega] at a1 a2
    rw [a1, a2]
    by_cases h' : V % row < c
    · have := hs h'; omega
    · omega
  · obtain ⟨a1, a2⟩ := qr_of (a := V / row + 1) (r := 0) (b := row) (by omega) (by omega)
    rw [show (V / row + 1) * row + 0 = V + 1 by rw [Int.add_mul]; omega] at a1 a2
    rw [a1, a2, Int.add_mul]
    by_cases h' : V % row < c
    · have := hs h'; omega
    · omega
theorem obF_succ {u c o s : Int} (H : Lay u c o) (hs : 0 ≤ s) : obF u c o (s + 1) = max (obF u c o s) (plO u c o s + 1) := by
  have := H.u1; have := H.c1; have := H.e1
  have hcr : c ≤ o / u * c := by have : 1 * c ≤ o / u * c := Int.mul_le_mul_of_nonneg_right H.e1 (by omega); omega
  have hd : ∀ V : Int, (V % (o / u * c)) % c = V % c := fun V => Int.emod_emod_of_dvd _ ⟨o / u, Int.mul_comm _ _⟩
  have g := grow (V := s / u) H.c1 hcr (hd _)
  have hp : plO u c o s = s / u / (o / u * c) * c + s / u % c := by
    have := (pl_ref H s).1
    exact this.symm
  unfold obF
  rw [units_succ H.u1, g, hp]
  by_cases h : s % u = 0
  · rw [units_new H.u1 h]
  · rw [units_same H.u1 h, g]
    omega
theorem obF_nonneg {u c o : Int} (H : Lay u c o) (n : Nat) : 0 ≤ obF u c o n := by
  induction n with
  | zero => have := obF_zero H; simp at this ⊢; omega
  | succ n ih => have := obF_succ H (s := (n : Int)) (by omega); rw [show ((n + 1 : Nat) : Int) = (n : Int) + 1 by omega]; omega
theorem plO_le {u c o off : Int} (H : Lay u c o) (h : 0 ≤ off) (h1 : off ≤ 1099511627776) : plO u c o off ≤ 1099511627776 * 8 + 8 := by
  have x := plF H h h1
  have := x.t
  have := x.d
  have := H.c8
  unfold plO; omega
theorem obF_le {u c o : Int} (H : Lay u c o) (n : Nat) (hn : n ≤ 512) : obF u c o n ≤ 1099511627776 * 8 + 9 := by
  induction n with
  | zero => have := obF_zero H; simp at this ⊢; omega
  | succ n ih =>
    have := obF_succ H (s := (n : Int)) (by omega); rw [show ((n + 1 : Nat) : Int) = (n : Int) + 1 by omega]
    have := plO_le H (off := (n : Int)) (by omega) (by omega)
    have := ih (by omega)
    omega

def OB (u c o s : Int) : Int := if okB u c o && decide (0 ≤ s) && decide (s ≤ 512) then obF u c o s else 0

set_option maxHeartbeats 800000 in
theorem objects_any (u c o s : Int) (w : World) :
    Calls Try.prog 19 #[lay u c o, .int .i64 s] w fun e w' => e = .returned (.int .i64 (OB u c o s)) ∧ Below w.heap.size w w' := by
  cases hh : (okB u c o && inF s)
  · have HP : Hid (OB u c o s = 0) := by
      show _ = _
      unfold OB
      rw [if_neg]
      intro h
      simp only [Bool.and_eq_true, Bool.and_eq_false_iff, decide_eq_true_eq] at h hh
      rcases hh with hh | hh
      · rw [hh] at h; simp at h
      · have h9 : inF s = true := inF_iff.2 ⟨h.1.2, by omega⟩
        rw [hh] at h9; simp at h9
    have HH := Lib.hid hh
    clear hh
    go_enter Try.func19, Try.ntmps19
    go_wp2_with (go_at_call 23; refine (may1 _ _ _ s _ _ _ (by simp) (by simp)).mono ?_; rintro e w' ⟨rfl, hb1⟩; rw [HH.out])
    go_ret
    exact ⟨ret_int (by rw [HP.out]), by (repeat' (first | exact Below.refl _ _ | refine below_drewN ?_ _ | refine Below.drew ?_ | refine Below.alloc ?_ (by first | exact Nat.le_refl _ | (simp; done) | (simp; omega)) _ | (refine Below.trans ?_ (Below.mono (by assumption) (by first | exact Nat.le_refl _ | (simp; done) | (simp; omega))))))⟩
  · have HH := Lib.hid hh
    rw [Bool.and_eq_true, inF_iff] at hh
    obtain ⟨hok, hi0, hi1⟩ := hh
    have H := lay_of hok
    by_cases hz : s = 0
    · have HP : Hid (OB u c o s = 0) := by
        show _ = _
        unfold OB
        rw [hz, obF_zero H]
        simp
      have hz1 : (s == 0) = true := by rw [hz]; rfl
      clear hz hok
      go_enter Try.func19, Try.ntmps19
      go_wp2_with (go_at_call 23; refine (may1 _ _ _ s _ _ _ (by simp) (by simp)).mono ?_; rintro e w' ⟨rfl, hb1⟩; rw [HH.out])
      go_ret
      exact ⟨ret_int (by rw [HP.out]), by (repeat' (first | exact Below.refl _ _ | refine below_drewN ?_ _ | refine Below.drew ?_ | refine Below.alloc ?_ (by first | exact Nat.le_refl _ | (simp; done) | (simp; omega)) _ | (refine Below.trans ?_ (Below.mono (by assumption) (by first | exact Nat.le_refl _ | (simp; done) | (simp; omega))))))⟩
    · by_cases hg : 512 < s
      · have HP : Hid (OB u c o s = 0) := by
          show _ = _
          unfold OB
          rw [if_neg]
          simp
          omega
        have hz1 : (s == 0) = false := by simp [hz]
        clear hok
        go_enter Try.func19, Try.ntmps19
        go_wp2_with (go_at_call 23; refine (may1 _ _ _ s _ _ _ (by simp) (by simp)).mono ?_; rintro e w' ⟨rfl, hb1⟩; rw [HH.out])
        go_ret
        exact ⟨ret_int (by rw [HP.out]), by (repeat' (first | exact Below.refl _ _ | refine below_drewN ?_ _ | refine Below.drew ?_ | refine Below.alloc ?_ (by first | exact Nat.le_refl _ | (simp; done) | (simp; omega)) _ | (refine Below.trans ?_ (Below.mono (by assumption) (by first | exact Nat.le_refl _ | (simp; done) | (simp; omega))))))⟩
      · have HP : Hid (OB u c o s = obF u c o s) := by
          show _ = _
          unfold OB
          rw [if_pos]
          rw [hok]
          simp
          omega
        have := H.o64
        have := H.uo
        have a := div_b (a := s + u - 1) (M := 1024) (by have := H.u1; omega) (by omega) H.u1
        have w0 := mul_b (a := o / u) (M := 64) (by have := H.e1; omega) H.e64 (b := c) (by have := H.c1; omega) H.c8
        have w1 : 1 * 1 ≤ o / u * c := Int.mul_le_mul H.e1 H.c1 (by omega) (by have := H.e1; omega)
        have w2 : 1 ≤ o / u * c := by omega
        have b := div_b a.1 a.2 w2
        have d := mod_b (a := (s + u - 1) / u) w2
        have t := mul_b b.1 b.2 (b := c) (by have := H.c1; omega) H.c8
        obtain ⟨u1, c1, c8, uo, o64, g1, g64, -⟩ := H
        obtain ⟨a0, a1⟩ := a
        obtain ⟨w0a, w0b⟩ := w0
        obtain ⟨b0, b1⟩ := b
        obtain ⟨d0, d1⟩ := d
        obtain ⟨t0, t1⟩ := t
        have hz1 : (s == 0) = false := by simp [hz]
        clear hok w1
        go_enter Try.func19, Try.ntmps19
        go_wp2_with (go_at_call 23; refine (may1 _ _ _ s _ _ _ (by simp) (by simp)).mono ?_; rintro e w' ⟨rfl, hb1⟩; rw [HH.out]; obtain ⟨hc1, hf1⟩ := bcell hb1)
        go_quiet (fail)
        go_wp2
        go_quiet (fail)
        go_wp2
        all_goals
          go_ret
          exact ⟨ret_int (by rw [HP.out]; unfold obF; omega), by (repeat' (first | exact Below.refl _ _ | refine below_drewN ?_ _ | refine Below.drew ?_ | refine Below.alloc ?_ (by first | exact Nat.le_refl _ | (simp; done) | (simp; omega)) _ | (refine Below.trans ?_ (Below.mono (by assumption) (by first | exact Nat.le_refl _ | (simp; done) | (simp; omega))))))⟩

set_option maxHeartbeats 800000 in
theorem refObjects_any (u c o s : Int) (w : World) :
    Calls Try.prog 20 #[lay u c o, .int .i64 s] w fun e w' => e = .returned (.int .i64 (OB u c o s)) ∧ Below w.heap.size w w' := by
  have H0 : Hid (okB u c o = true → Lay u c o) := lay_of
  cases hok : okB u c o
  · have HP : Hid (OB u c o s = 0) := by
      show _ = _
      unfold OB
      rw [hok]
      rfl
    have HH := Lib.hid hok
    clear hok
    go_enter Try.func20, Try.ntmps20
    go_wp2_with (go_at_call 10; refine (refMay_any _ _ _ _).mono ?_; rintro e w' ⟨rfl, hb1⟩; rw [HH.out])
    refine wp_loop_once ?_
    go_wp2
    go_ret
    exact ⟨ret_int (by rw [HP.out]), by (repeat' (first | exact Below.refl _ _ | refine below_drewN ?_ _ | refine Below.drew ?_ | refine Below.alloc ?_ (by first | exact Nat.le_refl _ | (simp; done) | (simp; omega)) _ | (refine Below.trans ?_ (Below.mono (by assumption) (by first | exact Nat.le_refl _ | (simp; done) | (simp; omega))))))⟩
  · have HH := Lib.hid hok
    have H := lay_of hok
    by_cases hr : 0 ≤ s ∧ s ≤ 512
    · have HP : Hid (OB u c o s = obF u c o s) := by
        show _ = _
        unfold OB
        rw [if_pos]
        rw [hok]
        simp
        omega
      obtain ⟨hr0, hr1⟩ := hr
      obtain ⟨n, rfl⟩ := Int.eq_ofNat_of_zero_le hr0
      clear hok
      have HZ := Lib.hid (obF_zero H)
      have HL := Lib.hid H
      go_enter Try.func20, Try.ntmps20
      go_wp2_with (go_at_call 10; refine (refMay_any _ _ _ _).mono ?_; rintro e w' ⟨rfl, hb1⟩; rw [HH.out]; obtain ⟨hc1, hf1⟩ := bcell hb1)
      go_loopw [6, 7] (fun m i wr => ∃ k : Nat, k ≤ n ∧ i = .int .i64 k ∧ m = .int .i64 (obF u c o k) ∧ Below (w.heap.size + 1) (w.alloc (.cells #[.int .i64 u, .int .i64 c, .int .i64 o] 23)) wr) (fun _ i _ => n - (intOf i).toNat)
      case atStart => exact ⟨0, Nat.zero_le _, rfl, by rw [show ((0 : Nat) : Int) = 0 from rfl, HZ.out], by (repeat' (first | exact Below.refl _ _ | refine below_drewN ?_ _ | refine Below.drew ?_ | refine Below.alloc ?_ (by first | exact Nat.le_refl _ | (simp; done) | (simp; omega)) _ | (refine Below.trans ?_ (Below.mono (by assumption) (by first | exact Nat.le_refl _ | (simp; done) | (simp; omega))))))⟩
      case round =>
        obtain ⟨k, hk, rfl, rfl, hbr⟩ := hrel
        have x0 : wr.cell? ⟨w.heap.size, 0, none⟩ = some (.int .i64 u) := (hbr.cell (p := ⟨w.heap.size, 0, none⟩) (by simp)).trans (by simp)
        have x1 : wr.cell? ⟨w.heap.size, 1, none⟩ = some (.int .i64 c) := (hbr.cell (p := ⟨w.heap.size, 1, none⟩) (by simp)).trans (by simp)
        have x2 : wr.cell? ⟨w.heap.size, 2, none⟩ = some (.int .i64 o) := (hbr.cell (p := ⟨w.heap.size, 2, none⟩) (by simp)).trans (by simp)
        have hbw : Below w.heap.size w wr := (by (repeat' (first | exact Below.refl _ _ | refine below_drewN ?_ _ | refine Below.drew ?_ | refine Below.alloc ?_ (by first | exact Nat.le_refl _ | (simp; done) | (simp; omega)) _ | (refine Below.trans ?_ (Below.mono (by assumption) (by first | exact Nat.le_refl _ | (simp; done) | (simp; omega)))))))
        have hsz : w.heap.size + 1 ≤ wr.heap.size := by have := hbr.size; simpa using this
        by_cases hlt : k < n
        · have HS := Lib.hid (obF_succ H (s := (k : Int)) (by omega))
          have p0 := plO_nonneg H (off := (k : Int)) (by omega)
          have p1 := plO_le H (off := (k : Int)) (by omega) (by omega)
          have p2 := obF_nonneg H k
          have p3 := obF_le H k (by omega)
          go_wp2_with (go_at_call 25; refine (refplace_any _ _ _ _ _ HL.out (by omega) (by omega)).mono ?_; rintro e w'' ⟨rfl, hb2⟩; obtain ⟨hc2, hf2⟩ := bcell hb2)
          all_goals
            go_roundw
            case rel => exact ⟨k + 1, by omega, by go_num, by rw [show ((k + 1 : Nat) : Int) = (k : Int) + 1 by omega, HS.out]; congr 1; omega, hbr.trans (hb2.mono hsz)⟩
            case measure => simp [intOf]; omega
        · have hkn : k = n := by omega
          subst hkn
          go_wp2
          go_ret
          exact ⟨ret_int (by rw [HP.out]), by (repeat' (first | exact Below.refl _ _ | refine below_drewN ?_ _ | refine Below.drew ?_ | refine Below.alloc ?_ (by first | exact Nat.le_refl _ | (simp; done) | (simp; omega)) _ | (refine Below.trans ?_ (Below.mono (by assumption) (by first | exact Nat.le_refl _ | (simp; done) | (simp; omega))))))⟩
    · have HP : Hid (OB u c o s = 0) := by
        show _ = _
        unfold OB
        rw [if_neg]
        rw [hok]
        simp
        omega
      clear hok H
      by_cases h0 : s ≤ 0
      · go_enter Try.func20, Try.ntmps20
        go_wp2_with (go_at_call 10; refine (refMay_any _ _ _ _).mono ?_; rintro e w' ⟨rfl, hb1⟩; rw [HH.out])
        refine wp_loop_once ?_
        go_wp2
        go_ret
        exact ⟨ret_int (by rw [HP.out]), by (repeat' (first | exact Below.refl _ _ | refine below_drewN ?_ _ | refine Below.drew ?_ | refine Below.alloc ?_ (by first | exact Nat.le_refl _ | (simp; done) | (simp; omega)) _ | (refine Below.trans ?_ (Below.mono (by assumption) (by first | exact Nat.le_refl _ | (simp; done) | (simp; omega))))))⟩
      · have h2 : 512 < s := by omega
        go_enter Try.func20, Try.ntmps20
        go_wp2_with (go_at_call 10; refine (refMay_any _ _ _ _).mono ?_; rintro e w' ⟨rfl, hb1⟩; rw [HH.out])
        refine wp_loop_once ?_
        go_wp2
        go_ret
        exact ⟨ret_int (by rw [HP.out]), by (repeat' (first | exact Below.refl _ _ | refine below_drewN ?_ _ | refine Below.drew ?_ | refine Below.alloc ?_ (by first | exact Nat.le_refl _ | (simp; done) | (simp; omega)) _ | (refine Below.trans ?_ (Below.mono (by assumption) (by first | exact Nat.le_refl _ | (simp; done) | (simp; omega))))))⟩
end Go.Proofs.Ythbpafbgnenljaa
