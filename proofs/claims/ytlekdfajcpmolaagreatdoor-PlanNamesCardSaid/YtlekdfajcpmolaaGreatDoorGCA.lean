/- Where bytes of an image lie: the plain arithmetic of stripes. No program is named. Walks of the package stripe and of the reference's small functions: check, may, Place, Back. Walks of the reference's functions on stripes. How many objects an image has: the formula and the reference's count. -/
import Derived.Test.YtlekdfajcpmolaaGreatDoorGAA
import Derived.Test.YtlekdfajcpmolaaGreatDoorChecked
namespace Go.Proofs.YtlekdfajcpmolaaGreatDoor
open Go.RowKit

def okB (u c o : Int) : Bool := decide (1 ≤ u) && decide (1 ≤ c) && decide (c ≤ 8) && decide (u ≤ o) && decide (o ≤ 64) && decide (o % u = 0)
def inF (z : Int) : Bool := decide (0 ≤ z) && decide (z ≤ 1099511627776)

structure Lay (u c o : Int) : Prop where
  u1 : 1 ≤ u
  c1 : 1 ≤ c
  c8 : c ≤ 8
  uo : u ≤ o
  o64 : o ≤ 64
  e1 : 1 ≤ o / u
  e64 : o / u ≤ 64
  oe : o = o / u * u
theorem lay_of {u c o : Int} (h : okB u c o = true) : Lay u c o := by
  simp [okB] at h
  obtain ⟨⟨⟨⟨⟨h1, h2⟩, h3⟩, h4⟩, h5⟩, h6⟩ := h
  have h7 := Int.ediv_mul_add_emod o u
  rw [h6] at h7
  refine ⟨h1, h2, h3, h4, h5, ?_, ?_, by omega⟩
  · have : 1 * u ≤ o := by omega
    exact Int.le_ediv_of_mul_le (by omega) this
  · exact Int.le_trans (Int.ediv_le_self u (by omega)) h5
theorem inF_iff {z : Int} : inF z = true ↔ 0 ≤ z ∧ z ≤ 1099511627776 := by simp [inF]

def plO (u c o off : Int) : Int := off / u / c / (o / u) * c + off / u % c
def plK (u c o off : Int) : Int := off / u / c % (o / u) * u + off % u
def bk (u c o ob k : Int) : Int := ((ob / c * (o / u) + k / u) * c + ob % c) * u + k % u

section
variable {u c o : Int} (H : Lay u c o)
include H
theorem plO_nonneg {off : Int} (h : 0 ≤ off) : 0 ≤ plO u c o off := by
  have := H.u1; have := H.c1; have := H.e1
  have h1 := Int.ediv_nonneg h (show 0 ≤ u by omega)
  have h2 := Int.ediv_nonneg h1 (show 0 ≤ c by omega)
  have h3 := Int.ediv_nonneg h2 (show 0 ≤ o / u by omega)
  have h4 := Int.mul_nonneg h3 (show 0 ≤ c by omega)
  have h5 := (mod_b (a := off / u) H.c1).1
  unfold plO; omega
theorem plK_range {off : Int} : 0 ≤ plK u c o off ∧ plK u c o off < o := by
  have hu := H.u1; have := H.e1
  have h1 := mod_b (a := off / u / c) H.e1
  have h2 := mod_b (a := off) H.u1
  have h3 := Int.mul_nonneg h1.1 (show 0 ≤ u by omega)
  have h4 : (off / u / c % (o / u) + 1) * u ≤ o / u * u := Int.mul_le_mul_of_nonneg_right (by omega) (by omega)
  rw [← H.oe, Int.add_mul] at h4
  unfold plK; omega
theorem pl_bk {ob k : Int} (_h0 : 0 ≤ ob) (k0 : 0 ≤ k) (k1 : k < o) : plO u c o (bk u c o ob k) = ob ∧ plK u c o (bk u c o ob k) = k := by
  have hk := mod_b (a := k) H.u1
  have hc := mod_b (a := ob) H.c1
  have hku : k / u < o / u := by
    rw [H.oe] at k1
    exact Int.ediv_lt_of_lt_mul (by have := H.u1; omega) k1
  have hku0 := Int.ediv_nonneg k0 (show 0 ≤ u by have := H.u1; omega)
  obtain ⟨a1, a2⟩ := qr_of (a := (ob / c * (o / u) + k / u) * c + ob % c) hk.1 hk.2
  obtain ⟨b1, b2⟩ := qr_of (a := ob / c * (o / u) + k / u) hc.1 hc.2
  obtain ⟨d1, d2⟩ := qr_of (a := ob / c) hku0 hku
  unfold plO plK bk
  rw [a1, a2, b1, b2, d1, d2]
  exact ⟨qr_sum _ _, qr_sum _ _⟩
theorem bk_pl {off : Int} : bk u c o (plO u c o off) (plK u c o off) = off := by
  have hc := mod_b (a := off / u) H.c1
  have hu := mod_b (a := off) H.u1
  unfold plO plK bk
  obtain ⟨a1, a2⟩ := qr_of (a := off / u / c / (o / u)) hc.1 hc.2
  obtain ⟨b1, b2⟩ := qr_of (a := off / u / c % (o / u)) hu.1 hu.2
  rw [a1, a2, b1, b2, qr_sum, qr_sum, qr_sum]
theorem bk_nonneg {ob k : Int} (h0 : 0 ≤ ob) (k0 : 0 ≤ k) : 0 ≤ bk u c o ob k := by
  have := H.u1; have := H.c1; have := H.e1
  have h1 := Int.mul_nonneg (Int.ediv_nonneg h0 (show 0 ≤ c by omega)) (show 0 ≤ o / u by omega)
  have h2 := Int.ediv_nonneg k0 (show 0 ≤ u by omega)
  have h3 := (mod_b (a := ob) H.c1).1
  have h4 := (mod_b (a := k) H.u1).1
  have h5 := Int.mul_nonneg (show 0 ≤ ob / c * (o / u) + k / u by omega) (show 0 ≤ c by omega)
  have h6 := Int.mul_nonneg (show 0 ≤ (ob / c * (o / u) + k / u) * c + ob % c by omega) (show 0 ≤ u by omega)
  unfold bk; omega
/-- further on in an object, further on in the image -/
theorem bk_lt {ob k k' : Int} (_k0 : 0 ≤ k) (hk : k < k') : bk u c o ob k < bk u c o ob k' := by
  have hu := H.u1; have hc := H.c1
  have e := qr_sum k u
  have e' := qr_sum k' u
  have m := mod_b (a := k) H.u1
  have m' := mod_b (a := k') H.u1
  have hq : k / u ≤ k' / u := Int.ediv_le_ediv (by omega) (by omega)
  have x : bk u c o ob k' - bk u c o ob k = (k' / u - k / u) * (c * u) + (k' % u - k % u) := by
    unfold bk
    have := Int.add_mul
    simp only [Int.add_mul, Int.sub_mul, Int.mul_assoc]
    omega
  rcases Int.lt_or_le (k / u) (k' / u) with h | h
  · have h1 : 1 * u ≤ c * u := Int.mul_le_mul_of_nonneg_right hc (by omega)
    have h2 : 1 * (c * u) ≤ (k' / u - k / u) * (c * u) := Int.mul_le_mul_of_nonneg_right (by omega) (by omega)
    omega
  · have h1 : k / u = k' / u := by omega
    rw [h1] at x e
    rw [Int.sub_self, Int.zero_mul] at x
    omega
theorem bk_le {ob k k' : Int} (k0 : 0 ≤ k) (hk : k ≤ k') : bk u c o ob k ≤ bk u c o ob k' := by
  rcases Int.lt_or_eq_of_le hk with h | h
  · exact Int.le_of_lt (bk_lt H k0 h)
  · rw [h]; exact Int.le_refl _
/-- within a unit, byte by byte -/
theorem pl_in {off d : Int} (d0 : 0 ≤ d) (d1 : off % u + d < u) : plO u c o (off + d) = plO u c o off ∧ plK u c o (off + d) = plK u c o off + d := by
  have m := mod_b (a := off) H.u1
  obtain ⟨a1, a2⟩ := qr_of (a := off / u) (r := off % u + d) (b := u) (by omega) d1
  have e : off + d = off / u * u + (off % u + d) := by have := qr_sum off u; omega
  unfold plO plK
  rw [e, a1, a2]
  obtain ⟨b1, b2⟩ := qr_of (a := off / u) (r := off % u) (b := u) (by omega) m.2
  exact ⟨rfl, by omega⟩
/-- as the reference has it -/
theorem pl_ref (off : Int) : off / u / (o / u * c) * c + off / u % c = plO u c o off ∧ off / u % (o / u * c) / c * u + off % u = plK u c o off := by
  have hc := H.c1; have he := H.e1
  have h1 : off / u / (o / u * c) = off / u / c / (o / u) := by
    rw [Int.mul_comm (o / u) c, ← Int.ediv_ediv_of_nonneg (x := off / u) (y := c) (z := o / u) (by omega)]
  have h3 : off / u % (o / u * c) / c = off / u / c % (o / u) := by
    have s1 := qr_sum (off / u) (o / u * c)
    have s2 := qr_sum (off / u / c) (o / u)
    have s3 := qr_sum (off / u) c
    have m1 := mod_b (a := off / u / c) H.e1
    have m3 := mod_b (a := off / u) H.c1
    rw [h1] at s1
    have : off / u % (o / u * c) = off / u / c % (o / u) * c + off / u % c := by
      have x : off / u / c / (o / u) * (o / u * c) = (off / u / c - off / u / c % (o / u)) * c := by
        rw [← Int.mul_assoc]
        congr 1
        omega
      rw [x, Int.sub_mul] at s1
      omega
    rw [this]
    exact (qr_of m3.1 m3.2).1
  unfold plO plK
  rw [h1, h3]
  exact ⟨rfl, rfl⟩
end
end Go.Proofs.YtlekdfajcpmolaaGreatDoor
namespace Go.Proofs.YtlekdfajcpmolaaGreatDoor
open Go.RowKit

abbrev lay (u c o : Int) : Value := .agg #[.int .i64 u, .int .i64 c, .int .i64 o]

set_option maxHeartbeats 400000 in
theorem check_ok (u c o : Int) (w : World) (h : okB u c o = true) :
    Calls Tryz.prog 93 #[lay u c o] w fun e w' => e = .returned (.int .i64 0) ∧ Below w.heap.size w w' := by
  simp [okB] at h
  obtain ⟨⟨⟨⟨⟨h1, h2⟩, h3⟩, h4⟩, h5⟩, h6⟩ := h
  have hr : (o % u != 0) = false := by simp [h6]
  clear h6
  go_enter Tryz.func93, Tryz.ntmps93
  go_wp2
  go_ret
  exact ⟨rfl, by ((repeat' (first | exact Below.refl _ _ | refine below_drewN ?_ _ | refine Below.drew ?_ | refine Below.alloc ?_ ?_ _ | refine Below.trans ?_ (Below.mono (by assumption) ?_))); all_goals (first | exact Nat.le_refl _ | exact Below.size (by assumption) | omega | (simp; done) | (simp; omega)))⟩

set_option maxHeartbeats 800000 in
theorem check_no (u c o : Int) (w : World) (h : okB u c o = false) :
    Calls Tryz.prog 93 #[lay u c o] w fun e w' => e = .returned (.int .i64 1) ∧ Below w.heap.size w w' := by
  by_cases h1 : u < 1
  · go_enter Tryz.func93, Tryz.ntmps93
    go_wp2
    go_ret
    exact ⟨rfl, by ((repeat' (first | exact Below.refl _ _ | refine below_drewN ?_ _ | refine Below.drew ?_ | refine Below.alloc ?_ ?_ _ | refine Below.trans ?_ (Below.mono (by assumption) ?_))); all_goals (first | exact Nat.le_refl _ | exact Below.size (by assumption) | omega | (simp; done) | (simp; omega)))⟩
  by_cases h2 : c < 1
  · go_enter Tryz.func93, Tryz.ntmps93
    go_wp2
    go_ret
    exact ⟨rfl, by ((repeat' (first | exact Below.refl _ _ | refine below_drewN ?_ _ | refine Below.drew ?_ | refine Below.alloc ?_ ?_ _ | refine Below.trans ?_ (Below.mono (by assumption) ?_))); all_goals (first | exact Nat.le_refl _ | exact Below.size (by assumption) | omega | (simp; done) | (simp; omega)))⟩
  by_cases h3 : 8 < c
  · go_enter Tryz.func93, Tryz.ntmps93
    go_wp2
    go_ret
    exact ⟨rfl, by ((repeat' (first | exact Below.refl _ _ | refine below_drewN ?_ _ | refine Below.drew ?_ | refine Below.alloc ?_ ?_ _ | refine Below.trans ?_ (Below.mono (by assumption) ?_))); all_goals (first | exact Nat.le_refl _ | exact Below.size (by assumption) | omega | (simp; done) | (simp; omega)))⟩
  by_cases h4 : o < u
  · go_enter Tryz.func93, Tryz.ntmps93
    go_wp2
    go_ret
    exact ⟨rfl, by ((repeat' (first | exact Below.refl _ _ | refine below_drewN ?_ _ | refine Below.drew ?_ | refine Below.alloc ?_ ?_ _ | refine Below.trans ?_ (Below.mono (by assumption) ?_))); all_goals (first | exact Nat.le_refl _ | exact Below.size (by assumption) | omega | (simp; done) | (simp; omega)))⟩
  by_cases h5 : 64 < o
  · go_enter Tryz.func93, Tryz.ntmps93
    go_wp2
    go_ret
    exact ⟨rfl, by ((repeat' (first | exact Below.refl _ _ | refine below_drewN ?_ _ | refine Below.drew ?_ | refine Below.alloc ?_ ?_ _ | refine Below.trans ?_ (Below.mono (by assumption) ?_))); all_goals (first | exact Nat.le_refl _ | exact Below.size (by assumption) | omega | (simp; done) | (simp; omega)))⟩
  have h6 : (o % u != 0) = true := by
    simp [okB] at h
    simp; exact h (by omega) (by omega) (by omega) (by omega) (by omega)
  clear h
  go_enter Tryz.func93, Tryz.ntmps93
  go_wp2
  go_ret
  exact ⟨rfl, by ((repeat' (first | exact Below.refl _ _ | refine below_drewN ?_ _ | refine Below.drew ?_ | refine Below.alloc ?_ ?_ _ | refine Below.trans ?_ (Below.mono (by assumption) ?_))); all_goals (first | exact Nat.le_refl _ | exact Below.size (by assumption) | omega | (simp; done) | (simp; omega)))⟩

def ckE (u c o : Int) : Int := if okB u c o then 0 else 1
theorem lcheck_any (u c o : Int) (w : World)  :
    Calls Tryz.prog 93 #[lay u c o] w fun e w' => e = .returned (.int .i64 (ckE u c o)) ∧ Below w.heap.size w w' := by
  unfold ckE
  by_cases h : okB u c o = true
  · rw [if_pos h]; exact check_ok u c o w h
  · rw [if_neg h]; exact check_no u c o w (by simpa using h)

set_option maxHeartbeats 800000 in
theorem refMay_any (u c o : Int) (w : World)  :
    Calls Tryz.prog 25 #[lay u c o] w fun e w' => e = .returned (.bool (okB u c o)) ∧ Below w.heap.size w w' := by
  by_cases h1 : 1 ≤ u
  · by_cases h2 : 1 ≤ c
    · by_cases h3 : c ≤ 8
      · by_cases h4 : u ≤ o
        · by_cases h5 : o ≤ 64
          · cases h6 : (o % u == 0)
            all_goals
              go_enter Tryz.func25, Tryz.ntmps25
              go_wp2
              go_ret
              exact ⟨ret_bool (by simp at h6; simp [okB, *]), by ((repeat' (first | exact Below.refl _ _ | refine below_drewN ?_ _ | refine Below.drew ?_ | refine Below.alloc ?_ ?_ _ | refine Below.trans ?_ (Below.mono (by assumption) ?_))); all_goals (first | exact Nat.le_refl _ | exact Below.size (by assumption) | omega | (simp; done) | (simp; omega)))⟩
          · go_enter Tryz.func25, Tryz.ntmps25
            go_wp2
            go_ret
            exact ⟨ret_bool (by simp [okB]; omega), by ((repeat' (first | exact Below.refl _ _ | refine below_drewN ?_ _ | refine Below.drew ?_ | refine Below.alloc ?_ ?_ _ | refine Below.trans ?_ (Below.mono (by assumption) ?_))); all_goals (first | exact Nat.le_refl _ | exact Below.size (by assumption) | omega | (simp; done) | (simp; omega)))⟩
        · go_enter Tryz.func25, Tryz.ntmps25
          go_wp2
          go_ret
          exact ⟨ret_bool (by simp [okB]; omega), by ((repeat' (first | exact Below.refl _ _ | refine below_drewN ?_ _ | refine Below.drew ?_ | refine Below.alloc ?_ ?_ _ | refine Below.trans ?_ (Below.mono (by assumption) ?_))); all_goals (first | exact Nat.le_refl _ | exact Below.size (by assumption) | omega | (simp; done) | (simp; omega)))⟩
      · go_enter Tryz.func25, Tryz.ntmps25
        go_wp2
        go_ret
        exact ⟨ret_bool (by simp [okB]; omega), by ((repeat' (first | exact Below.refl _ _ | refine below_drewN ?_ _ | refine Below.drew ?_ | refine Below.alloc ?_ ?_ _ | refine Below.trans ?_ (Below.mono (by assumption) ?_))); all_goals (first | exact Nat.le_refl _ | exact Below.size (by assumption) | omega | (simp; done) | (simp; omega)))⟩
    · go_enter Tryz.func25, Tryz.ntmps25
      go_wp2
      go_ret
      exact ⟨ret_bool (by simp [okB]; omega), by ((repeat' (first | exact Below.refl _ _ | refine below_drewN ?_ _ | refine Below.drew ?_ | refine Below.alloc ?_ ?_ _ | refine Below.trans ?_ (Below.mono (by assumption) ?_))); all_goals (first | exact Nat.le_refl _ | exact Below.size (by assumption) | omega | (simp; done) | (simp; omega)))⟩
  · go_enter Tryz.func25, Tryz.ntmps25
    go_wp2
    go_ret
    exact ⟨ret_bool (by simp [okB]; omega), by ((repeat' (first | exact Below.refl _ _ | refine below_drewN ?_ _ | refine Below.drew ?_ | refine Below.alloc ?_ ?_ _ | refine Below.trans ?_ (Below.mono (by assumption) ?_))); all_goals (first | exact Nat.le_refl _ | exact Below.size (by assumption) | omega | (simp; done) | (simp; omega)))⟩

set_option maxHeartbeats 400000 in
theorem may_any (u c o : Int) (b cap : Nat) (zs : List Int) (hz : zs.length ≤ 100) (w : World) (hb : b < w.heap.size) (hc : ∀ i, i < zs.length → w.cell? ⟨b, i, none⟩ = some (.int .i64 (zs[i]?.getD 0))) :
    Calls Tryz.prog 163 #[lay u c o, .slice (some ⟨b, 0, none⟩) zs.length cap] w fun e w' => e = .returned (.bool (zs.all inF && okB u c o)) ∧ Below w.heap.size w w' := by
  go_enter Tryz.func163, Tryz.ntmps163
  go_wp2
  go_loop [6, 9, 10, 11,12,13,14,15,16,17,18,19] (fun _ i _ _ _ _ _ _ _ _ _ _ => ∃ k : Nat, k ≤ zs.length ∧ i = .int .i64 k ∧ (zs.take k).all inF = true) (fun _ i _ _ _ _ _ _ _ _ _ _ => zs.length - (intOf i).toNat)
  case atStart => exact ⟨0, Nat.zero_le _, rfl, rfl⟩
  case round =>
    obtain ⟨k, hk, rfl, hall⟩ := hrel
    have HA := Lib.hid hall
    clear hall
    by_cases hlt : k < zs.length
    · have hcell := hc k hlt
      clear hc
      have hzk : zs[k]? = some zs[k] := by simp [hlt]
      rw [hzk, Option.getD_some] at hcell
      have hmem : zs[k] ∈ zs := List.getElem_mem hlt
      have HT : Hid (zs.take (k + 1) = zs.take k ++ [zs[k]]) := by
        show _ = _
        rw [List.take_succ_eq_append_getElem hlt]
      clear hzk
      go_wp2
      · go_ret
        refine ⟨ret_bool ?_, by ((repeat' (first | exact Below.refl _ _ | refine below_drewN ?_ _ | refine Below.drew ?_ | refine Below.alloc ?_ ?_ _ | refine Below.trans ?_ (Below.mono (by assumption) ?_))); all_goals (first | exact Nat.le_refl _ | exact Below.size (by assumption) | omega | (simp; done) | (simp; omega)))⟩
        symm
        rw [Bool.and_eq_false_iff]
        left
        rw [List.all_eq_false]
        exact ⟨_, hmem, by simp [inF]; omega⟩
      · go_ret
        refine ⟨ret_bool ?_, by ((repeat' (first | exact Below.refl _ _ | refine below_drewN ?_ _ | refine Below.drew ?_ | refine Below.alloc ?_ ?_ _ | refine Below.trans ?_ (Below.mono (by assumption) ?_))); all_goals (first | exact Nat.le_refl _ | exact Below.size (by assumption) | omega | (simp; done) | (simp; omega)))⟩
        symm
        rw [Bool.and_eq_false_iff]
        left
        rw [List.all_eq_false]
        exact ⟨_, hmem, by simp [inF]; omega⟩
      · refine ⟨⟨k + 1, by omega, by go_num, ?_⟩, by simp [intOf]; omega⟩
        rw [HT.out, List.all_append, HA.out]
        simp [inF]; omega
    · have hkk : k = zs.length := by omega
      have hall : zs.all inF = true := by have := HA.out; rwa [hkk, List.take_length] at this
      have HA2 := Lib.hid hall
      clear hall HA hkk hc
      go_wp2_with (go_at_call 93; refine (lcheck_any _ _ _ _).mono ?_; rintro e w' ⟨rfl, hb1⟩; unfold ckE)
      all_goals
        go_ret
        exact ⟨ret_bool (by first | rfl | rw [HA2.out] | (rw [HA2.out]; simp [*])), by ((repeat' (first | exact Below.refl _ _ | refine below_drewN ?_ _ | refine Below.drew ?_ | refine Below.alloc ?_ ?_ _ | refine Below.trans ?_ (Below.mono (by assumption) ?_))); all_goals (first | exact Nat.le_refl _ | exact Below.size (by assumption) | omega | (simp; done) | (simp; omega)))⟩

theorem may1 (u c o z : Int) (w : World) (b cap : Nat) (hc : w.cell? ⟨b, 0, none⟩ = some (.int .i64 z)) (hb : b < w.heap.size)  :
    Calls Tryz.prog 163 #[lay u c o, .slice (some ⟨b, 0, none⟩) 1 cap] w fun e w' => e = .returned (.bool (okB u c o && inF z)) ∧ Below w.heap.size w w' := by
  have := may_any u c o b cap [z] (by simp) w hb (by intro i hi; simp at hi; subst hi; simpa using hc)
  simpa [Bool.and_comm] using this
theorem may2 (u c o z y : Int) (w : World) (b cap : Nat) (hc : w.cell? ⟨b, 0, none⟩ = some (.int .i64 z)) (hc' : w.cell? ⟨b, 1, none⟩ = some (.int .i64 y)) (hb : b < w.heap.size)  :
    Calls Tryz.prog 163 #[lay u c o, .slice (some ⟨b, 0, none⟩) 2 cap] w fun e w' => e = .returned (.bool (okB u c o && (inF z && inF y))) ∧ Below w.heap.size w w' := by
  have := may_any u c o b cap [z, y] (by simp) w hb (by intro i hi; simp at hi; rcases (show i = 0 ∨ i = 1 by omega) with rfl | rfl <;> simpa using by assumption)
  simpa [Bool.and_comm] using this

def PO (u c o off : Int) : Int := if okB u c o && inF off then plO u c o off else -1
structure PlF (u c o off : Int) : Prop where
  a : 0 ≤ off / u ∧ off / u ≤ 1099511627776
  b : 0 ≤ off / u / c ∧ off / u / c ≤ 1099511627776
  d : 0 ≤ off / u % c ∧ off / u % c < c
  m : 0 ≤ off % u ∧ off % u < u
  r : 0 ≤ off / u / c / (o / u) ∧ off / u / c / (o / u) ≤ 1099511627776
  s : 0 ≤ off / u / c % (o / u) ∧ off / u / c % (o / u) < o / u
  t : 0 ≤ off / u / c / (o / u) * c ∧ off / u / c / (o / u) * c ≤ 1099511627776 * 8
  v : 0 ≤ off / u / c % (o / u) * u ∧ off / u / c % (o / u) * u ≤ 64 * 64
theorem plF {u c o off : Int} (H : Lay u c o) (h0 : 0 ≤ off) (h1 : off ≤ 1099511627776) : PlF u c o off := by
  have a := div_b h0 h1 H.u1
  have b := div_b a.1 a.2 H.c1
  have r := div_b b.1 b.2 H.e1
  have s := mod_b (a := off / u / c) H.e1
  have he := H.e64
  have := H.uo
  have := H.o64
  exact ⟨a, b, mod_b H.c1, mod_b H.u1, r, s, mul_b r.1 r.2 (by have := H.c1; omega) H.c8, mul_b s.1 (by omega) (by have := H.u1; omega) (by omega)⟩

structure BkF (u c o ob k : Int) : Prop where
  a : 0 ≤ ob / c ∧ ob / c ≤ 1099511627776
  b : 0 ≤ k / u ∧ k / u ≤ 64
  d : 0 ≤ ob % c ∧ ob % c < c
  m : 0 ≤ k % u ∧ k % u < u
  r : 0 ≤ ob / c * (o / u) ∧ ob / c * (o / u) ≤ 1099511627776 * 64
  s : 0 ≤ (ob / c * (o / u) + k / u) * c ∧ (ob / c * (o / u) + k / u) * c ≤ (1099511627776 * 64 + 64) * 8
  t : 0 ≤ ((ob / c * (o / u) + k / u) * c + ob % c) * u ∧ ((ob / c * (o / u) + k / u) * c + ob % c) * u ≤ ((1099511627776 * 64 + 64) * 8 + 8) * 64
  p : 0 ≤ ob / c * (o / u) * c ∧ ob / c * (o / u) * c ≤ 1099511627776 * 64 * 8
  q : 0 ≤ k / u * c ∧ k / u * c ≤ 64 * 8
  v : 0 ≤ (ob / c * (o / u) * c + k / u * c + ob % c) * u ∧ (ob / c * (o / u) * c + k / u * c + ob % c) * u ≤ (1099511627776 * 64 * 8 + 64 * 8 + 8) * 64
end Go.Proofs.YtlekdfajcpmolaaGreatDoor
namespace Go.Proofs.YtlekdfajcpmolaaGreatDoor
open Go.RowKit

structure RpF (u c o off : Int) : Prop where
  a : 0 ≤ off / u ∧ off / u ≤ 1099511628288
  w : 1 ≤ o / u * c ∧ o / u * c ≤ 64 * 8
  b : 0 ≤ off / u / (o / u * c) ∧ off / u / (o / u * c) ≤ 1099511628288
  d : 0 ≤ off / u % (o / u * c) ∧ off / u % (o / u * c) < o / u * c
  e : 0 ≤ off / u % c ∧ off / u % c < c
  f : 0 ≤ off / u % (o / u * c) / c ∧ off / u % (o / u * c) / c ≤ 64 * 8
  m : 0 ≤ off % u ∧ off % u < u
  t : 0 ≤ off / u / (o / u * c) * c ∧ off / u / (o / u * c) * c ≤ 1099511628288 * 8
  v : 0 ≤ off / u % (o / u * c) / c * u ∧ off / u % (o / u * c) / c * u ≤ 64 * 8 * 64
theorem rpF {u c o off : Int} (H : Lay u c o) (h0 : 0 ≤ off) (h1 : off ≤ 1099511628288) : RpF u c o off := by
  have := H.uo
  have := H.o64
  have := H.c8
  have := H.c1
  have := H.u1
  have := H.e1
  have a := div_b h0 h1 H.u1
  have w := mul_b (a := o / u) (by omega) H.e64 (b := c) (by omega) H.c8
  have w1 : 1 * 1 ≤ o / u * c := Int.mul_le_mul (by omega) (by omega) (by omega) (by omega)
  have b := div_b a.1 a.2 (b := o / u * c) (by omega)
  have d := mod_b (a := off / u) (b := o / u * c) (by omega)
  have e := mod_b (a := off / u) H.c1
  have f := div_b (a := off / u % (o / u * c)) (M := 64 * 8) d.1 (by omega) H.c1
  have t := mul_b b.1 b.2 (b := c) (by omega) H.c8
  have v := mul_b f.1 f.2 (b := u) (N := 64) (by omega) (by omega)
  exact ⟨a, ⟨by omega, w.2⟩, b, d, e, f, mod_b H.u1, t, v⟩

set_option maxHeartbeats 800000 in
theorem refplace_any (u c o off : Int) (w : World) (H : Lay u c o) (hi0 : 0 ≤ off) (hi1 : off ≤ 1099511628288) :
    Calls Tryz.prog 177 #[lay u c o, .int .i64 off] w fun e w' => e = .returned (.tuple #[.int .i64 (plO u c o off), .int .i64 (plK u c o off)]) ∧ Below w.heap.size w w' := by
  have HP := Lib.hid (pl_ref H off)
  obtain ⟨⟨a0, a1⟩, ⟨w0, w1⟩, ⟨b0, b1⟩, ⟨d0, d1⟩, ⟨e0, e1⟩, ⟨f0, f1⟩, ⟨m0, m1⟩, ⟨t0, t1⟩, ⟨v0, v1⟩⟩ := rpF H hi0 hi1
  obtain ⟨u1, c1, c8, uo, o64, g1, g64, -⟩ := H
  go_enter Tryz.func177, Tryz.ntmps177
  go_wp2
  go_quiet (fail)
  go_wp2
  go_ret2
  exact ⟨ret_int2 HP.out.1 HP.out.2, by ((repeat' (first | exact Below.refl _ _ | refine below_drewN ?_ _ | refine Below.drew ?_ | refine Below.alloc ?_ ?_ _ | refine Below.trans ?_ (Below.mono (by assumption) ?_))); all_goals (first | exact Nat.le_refl _ | exact Below.size (by assumption) | omega | (simp; done) | (simp; omega)))⟩

end Go.Proofs.YtlekdfajcpmolaaGreatDoor
namespace Go.Proofs.YtlekdfajcpmolaaGreatDoor
open Go.RowKit

def obF (u c o s : Int) : Int := (s + u - 1) / u / (o / u * c) * c + min ((s + u - 1) / u % (o / u * c)) c

theorem obF_zero {u c o : Int} (H : Lay u c o) : obF u c o 0 = 0 := by
  have := H.u1; have := H.c1
  have h : (0 + u - 1) / u = 0 := Int.ediv_eq_zero_of_lt (by omega) (by omega)
  unfold obF
  rw [h]
  simp
  omega
/-- the units of s bytes -/
theorem units_succ {u s : Int} (hu : 1 ≤ u) : (s + 1 + u - 1) / u = s / u + 1 := by
  rw [show s + 1 + u - 1 = s + 1 * u by omega, Int.add_mul_ediv_right _ _ (by omega)]
theorem units_same {u s : Int} (hu : 1 ≤ u) (h : s % u ≠ 0) : (s + u - 1) / u = s / u + 1 := by
  have m := mod_b (a := s) hu
  have e := qr_sum s u
  have := (qr_of (a := s / u + 1) (r := s % u - 1) (b := u) (by omega) (by omega)).1
  rw [← this]
  congr 1
  rw [Int.add_mul]
  omega
theorem units_new {u s : Int} (hu : 1 ≤ u) (h : s % u = 0) : (s + u - 1) / u = s / u := by
  have e := qr_sum s u
  have := (qr_of (a := s / u) (r := u - 1) (b := u) (by omega) (by omega)).1
  rw [← this]
  congr 1
  omega
/-- one unit more -/
theorem grow {c row V : Int} (hc : 1 ≤ c) (hcr : c ≤ row) (hd : (V % row) % c = V % c) :
    (V + 1) / row * c + min ((V + 1) % row) c = max (V / row * c + min (V % row) c) (V / row * c + V % c + 1) := by
  have m := mod_b (a := V) (b := row) (by omega)
  have mc := mod_b (a := V) hc
  have e := qr_sum V row
  have hs : V % row < c → V % c = V % row := fun h => by rw [← hd, Int.emod_eq_of_lt m.1 h]
  by_cases h : V % row + 1 < row
  · obtain ⟨a1, a2⟩ := qr_of (a := V / row) (r := V % row + 1) (b := row) (by omega) h
    rw [show V / row * row + (V % row + 1) = V + 1 by omega] at a1 a2
    rw [a1, a2]
    by_cases h' : V % row < c
    · have := hs h'; omega
    · omega
  · obtain ⟨a1, a2⟩ := qr_of (a := V / row + 1) (r := 0) (b := row) (by omega) (by omega)
    rw [show (V / row + 1) * row + 0 = V + 1 by rw [Int.add_mul]; omega] at a1 a2
    rw [a1, a2, Int.add_mul]
    by_cases h' : V % row < c
    · have := hs h'; omega
    · omega
theorem obF_succ {u c o s : Int} (H : Lay u c o) (_hs : 0 ≤ s) : obF u c o (s + 1) = max (obF u c o s) (plO u c o s + 1) := by
  have := H.u1; have := H.c1; have := H.e1
  have hcr : c ≤ o / u * c := by have : 1 * c ≤ o / u * c := Int.mul_le_mul_of_nonneg_right H.e1 (by omega); omega
  have hd : ∀ V : Int, (V % (o / u * c)) % c = V % c := fun V => Int.emod_emod_of_dvd _ ⟨o / u, Int.mul_comm _ _⟩
  have g := grow (V := s / u) H.c1 hcr (hd _)
  have hp : plO u c o s = s / u / (o / u * c) * c + s / u % c := by
    have := (pl_ref H s).1
    exact this.symm
  unfold obF
  rw [units_succ H.u1, g, hp]
  by_cases h : s % u = 0
  · rw [units_new H.u1 h]
  · rw [units_same H.u1 h, g]
    omega
theorem obF_nonneg {u c o : Int} (H : Lay u c o) (n : Nat) : 0 ≤ obF u c o n := by
  induction n with
  | zero => have := obF_zero H; simp at this ⊢; omega
  | succ n ih => have := obF_succ H (s := (n : Int)) (by omega); rw [show ((n + 1 : Nat) : Int) = (n : Int) + 1 by omega]; omega
theorem plO_le {u c o off : Int} (H : Lay u c o) (h : 0 ≤ off) (h1 : off ≤ 1099511627776) : plO u c o off ≤ 1099511627776 * 8 + 8 := by
  have x := plF H h h1
  have := x.t
  have := x.d
  have := H.c8
  unfold plO; omega
theorem obF_le {u c o : Int} (H : Lay u c o) (n : Nat) (hn : n ≤ 512) : obF u c o n ≤ 1099511627776 * 8 + 9 := by
  induction n with
  | zero => have := obF_zero H; simp at this ⊢; omega
  | succ n ih =>
    have := obF_succ H (s := (n : Int)) (by omega); rw [show ((n + 1 : Nat) : Int) = (n : Int) + 1 by omega]
    have := plO_le H (off := (n : Int)) (by omega) (by omega)
    have := ih (by omega)
    omega

def ObNum (u c o s : Int) : Int := if okB u c o && decide (0 ≤ s) && decide (s ≤ 512) then obF u c o s else 0

set_option maxHeartbeats 800000 in
theorem objects_any (u c o s : Int) (w : World) :
    Calls Tryz.prog 156 #[lay u c o, .int .i64 s] w fun e w' => e = .returned (.int .i64 (ObNum u c o s)) ∧ Below w.heap.size w w' := by
  cases hh : (okB u c o && inF s)
  · have HP : Hid (ObNum u c o s = 0) := by
      show _ = _
      unfold ObNum
      rw [if_neg]
      intro h
      simp only [Bool.and_eq_true, Bool.and_eq_false_iff, decide_eq_true_eq] at h hh
      rcases hh with hh | hh
      · rw [hh] at h; simp at h
      · have h9 : inF s = true := inF_iff.2 ⟨h.1.2, by omega⟩
        rw [hh] at h9; simp at h9
    have HH := Lib.hid hh
    clear hh
    go_enter Tryz.func156, Tryz.ntmps156
    go_wp2_with (go_at_call 163; refine (may1 _ _ _ s _ _ _ (by simp) (by simp)).mono ?_; rintro e w' ⟨rfl, hb1⟩; rw [HH.out])
    go_ret
    exact ⟨ret_int (by rw [HP.out]), by ((repeat' (first | exact Below.refl _ _ | refine below_drewN ?_ _ | refine Below.drew ?_ | refine Below.alloc ?_ ?_ _ | refine Below.trans ?_ (Below.mono (by assumption) ?_))); all_goals (first | exact Nat.le_refl _ | exact Below.size (by assumption) | omega | (simp; done) | (simp; omega)))⟩
  · have HH := Lib.hid hh
    rw [Bool.and_eq_true, inF_iff] at hh
    obtain ⟨hok, hi0, hi1⟩ := hh
    have H := lay_of hok
    by_cases hz : s = 0
    · have HP : Hid (ObNum u c o s = 0) := by
        show _ = _
        unfold ObNum
        rw [hz, obF_zero H]
        simp
      have hz1 : (s == 0) = true := by rw [hz]; rfl
      clear hz hok
      go_enter Tryz.func156, Tryz.ntmps156
      go_wp2_with (go_at_call 163; refine (may1 _ _ _ s _ _ _ (by simp) (by simp)).mono ?_; rintro e w' ⟨rfl, hb1⟩; rw [HH.out])
      go_ret
      exact ⟨ret_int (by rw [HP.out]), by ((repeat' (first | exact Below.refl _ _ | refine below_drewN ?_ _ | refine Below.drew ?_ | refine Below.alloc ?_ ?_ _ | refine Below.trans ?_ (Below.mono (by assumption) ?_))); all_goals (first | exact Nat.le_refl _ | exact Below.size (by assumption) | omega | (simp; done) | (simp; omega)))⟩
    · by_cases hg : 512 < s
      · have HP : Hid (ObNum u c o s = 0) := by
          show _ = _
          unfold ObNum
          rw [if_neg]
          simp
          omega
        have hz1 : (s == 0) = false := by simp [hz]
        clear hok
        go_enter Tryz.func156, Tryz.ntmps156
        go_wp2_with (go_at_call 163; refine (may1 _ _ _ s _ _ _ (by simp) (by simp)).mono ?_; rintro e w' ⟨rfl, hb1⟩; rw [HH.out])
        go_ret
        exact ⟨ret_int (by rw [HP.out]), by ((repeat' (first | exact Below.refl _ _ | refine below_drewN ?_ _ | refine Below.drew ?_ | refine Below.alloc ?_ ?_ _ | refine Below.trans ?_ (Below.mono (by assumption) ?_))); all_goals (first | exact Nat.le_refl _ | exact Below.size (by assumption) | omega | (simp; done) | (simp; omega)))⟩
      · have HP : Hid (ObNum u c o s = obF u c o s) := by
          show _ = _
          unfold ObNum
          rw [if_pos]
          rw [hok]
          simp
          omega
        have := H.o64
        have := H.uo
        have a := div_b (a := s + u - 1) (M := 1024) (by have := H.u1; omega) (by omega) H.u1
        have w0 := mul_b (a := o / u) (M := 64) (by have := H.e1; omega) H.e64 (b := c) (by have := H.c1; omega) H.c8
        have w1 : 1 * 1 ≤ o / u * c := Int.mul_le_mul H.e1 H.c1 (by omega) (by have := H.e1; omega)
        have w2 : 1 ≤ o / u * c := by omega
        have b := div_b a.1 a.2 w2
        have d := mod_b (a := (s + u - 1) / u) w2
        have t := mul_b b.1 b.2 (b := c) (by have := H.c1; omega) H.c8
        obtain ⟨u1, c1, c8, uo, o64, g1, g64, -⟩ := H
        obtain ⟨a0, a1⟩ := a
        obtain ⟨w0a, w0b⟩ := w0
        obtain ⟨b0, b1⟩ := b
        obtain ⟨d0, d1⟩ := d
        obtain ⟨t0, t1⟩ := t
        have hz1 : (s == 0) = false := by simp [hz]
        clear hok w1
        go_enter Tryz.func156, Tryz.ntmps156
        go_wp2_with (go_at_call 163; refine (may1 _ _ _ s _ _ _ (by simp) (by simp)).mono ?_; rintro e w' ⟨rfl, hb1⟩; rw [HH.out]; obtain ⟨hc1, hf1⟩ := bcell hb1)
        go_quiet (fail)
        go_wp2
        go_quiet (fail)
        go_wp2
        all_goals
          go_ret
          exact ⟨ret_int (by rw [HP.out]; unfold obF; omega), by ((repeat' (first | exact Below.refl _ _ | refine below_drewN ?_ _ | refine Below.drew ?_ | refine Below.alloc ?_ ?_ _ | refine Below.trans ?_ (Below.mono (by assumption) ?_))); all_goals (first | exact Nat.le_refl _ | exact Below.size (by assumption) | omega | (simp; done) | (simp; omega)))⟩

set_option maxHeartbeats 800000 in
theorem refObjects_any (u c o s : Int) (w : World) :
    Calls Tryz.prog 124 #[lay u c o, .int .i64 s] w fun e w' => e = .returned (.int .i64 (ObNum u c o s)) ∧ Below w.heap.size w w' := by
  have H0 : Hid (okB u c o = true → Lay u c o) := lay_of
  cases hok : okB u c o
  · have HP : Hid (ObNum u c o s = 0) := by
      show _ = _
      unfold ObNum
      rw [hok]
      rfl
    have HH := Lib.hid hok
    clear hok
    go_enter Tryz.func124, Tryz.ntmps124
    go_wp2_with (go_at_call 25; refine (refMay_any _ _ _ _).mono ?_; rintro e w' ⟨rfl, hb1⟩; rw [HH.out])
    refine wp_loop_once ?_
    go_wp2
    go_ret
    exact ⟨ret_int (by rw [HP.out]), by ((repeat' (first | exact Below.refl _ _ | refine below_drewN ?_ _ | refine Below.drew ?_ | refine Below.alloc ?_ ?_ _ | refine Below.trans ?_ (Below.mono (by assumption) ?_))); all_goals (first | exact Nat.le_refl _ | exact Below.size (by assumption) | omega | (simp; done) | (simp; omega)))⟩
  · have HH := Lib.hid hok
    have H := lay_of hok
    by_cases hr : 0 ≤ s ∧ s ≤ 512
    · have HP : Hid (ObNum u c o s = obF u c o s) := by
        show _ = _
        unfold ObNum
        rw [if_pos]
        rw [hok]
        simp
        omega
      obtain ⟨hr0, hr1⟩ := hr
      obtain ⟨n, rfl⟩ := Int.eq_ofNat_of_zero_le hr0
      clear hok
      have HZ := Lib.hid (obF_zero H)
      have HL := Lib.hid H
      go_enter Tryz.func124, Tryz.ntmps124
      go_wp2_with (go_at_call 25; refine (refMay_any _ _ _ _).mono ?_; rintro e w' ⟨rfl, hb1⟩; rw [HH.out]; obtain ⟨hc1, hf1⟩ := bcell hb1)
      go_loopw [6, 7] (fun m i wr => ∃ k : Nat, k ≤ n ∧ i = .int .i64 k ∧ m = .int .i64 (obF u c o k) ∧ Below (w.heap.size + 1) (w.alloc (.cells #[.int .i64 u, .int .i64 c, .int .i64 o] 23)) wr) (fun _ i _ => n - (intOf i).toNat)
      case atStart => exact ⟨0, Nat.zero_le _, rfl, by rw [show ((0 : Nat) : Int) = 0 from rfl, HZ.out], by ((repeat' (first | exact Below.refl _ _ | refine below_drewN ?_ _ | refine Below.drew ?_ | refine Below.alloc ?_ ?_ _ | refine Below.trans ?_ (Below.mono (by assumption) ?_))); all_goals (first | exact Nat.le_refl _ | exact Below.size (by assumption) | omega | (simp; done) | (simp; omega)))⟩
      case round =>
        obtain ⟨k, hk, rfl, rfl, hbr⟩ := hrel
        have x0 : wr.cell? ⟨w.heap.size, 0, none⟩ = some (.int .i64 u) := (hbr.cell (p := ⟨w.heap.size, 0, none⟩) (by simp)).trans (by simp)
        have x1 : wr.cell? ⟨w.heap.size, 1, none⟩ = some (.int .i64 c) := (hbr.cell (p := ⟨w.heap.size, 1, none⟩) (by simp)).trans (by simp)
        have x2 : wr.cell? ⟨w.heap.size, 2, none⟩ = some (.int .i64 o) := (hbr.cell (p := ⟨w.heap.size, 2, none⟩) (by simp)).trans (by simp)
        have hbw : Below w.heap.size w wr := (by ((repeat' (first | exact Below.refl _ _ | refine below_drewN ?_ _ | refine Below.drew ?_ | refine Below.alloc ?_ ?_ _ | refine Below.trans ?_ (Below.mono (by assumption) ?_))); all_goals (first | exact Nat.le_refl _ | exact Below.size (by assumption) | omega | (simp; done) | (simp; omega))))
        have hsz : w.heap.size + 1 ≤ wr.heap.size := by have := hbr.size; simpa using this
        by_cases hlt : k < n
        · have HS := Lib.hid (obF_succ H (s := (k : Int)) (by omega))
          have p0 := plO_nonneg H (off := (k : Int)) (by omega)
          have p1 := plO_le H (off := (k : Int)) (by omega) (by omega)
          have p2 := obF_nonneg H k
          have p3 := obF_le H k (by omega)
          go_wp2_with (go_at_call 177; refine (refplace_any _ _ _ _ _ HL.out (by omega) (by omega)).mono ?_; rintro e w'' ⟨rfl, hb2⟩; obtain ⟨hc2, hf2⟩ := bcell hb2)
          all_goals
            go_roundw
            case rel => exact ⟨k + 1, by omega, by go_num, by rw [show ((k + 1 : Nat) : Int) = (k : Int) + 1 by omega, HS.out]; congr 1; omega, hbr.trans (hb2.mono hsz)⟩
            case measure => simp [intOf]; omega
        · have hkn : k = n := by omega
          subst hkn
          go_wp2
          go_ret
          exact ⟨ret_int (by rw [HP.out]), by ((repeat' (first | exact Below.refl _ _ | refine below_drewN ?_ _ | refine Below.drew ?_ | refine Below.alloc ?_ ?_ _ | refine Below.trans ?_ (Below.mono (by assumption) ?_))); all_goals (first | exact Nat.le_refl _ | exact Below.size (by assumption) | omega | (simp; done) | (simp; omega)))⟩
    · have HP : Hid (ObNum u c o s = 0) := by
        show _ = _
        unfold ObNum
        rw [if_neg]
        rw [hok]
        simp
        omega
      clear hok H
      by_cases h0 : s ≤ 0
      · go_enter Tryz.func124, Tryz.ntmps124
        go_wp2_with (go_at_call 25; refine (refMay_any _ _ _ _).mono ?_; rintro e w' ⟨rfl, hb1⟩; rw [HH.out])
        refine wp_loop_once ?_
        go_wp2
        go_ret
        exact ⟨ret_int (by rw [HP.out]), by ((repeat' (first | exact Below.refl _ _ | refine below_drewN ?_ _ | refine Below.drew ?_ | refine Below.alloc ?_ ?_ _ | refine Below.trans ?_ (Below.mono (by assumption) ?_))); all_goals (first | exact Nat.le_refl _ | exact Below.size (by assumption) | omega | (simp; done) | (simp; omega)))⟩
      · have h2 : 512 < s := by omega
        go_enter Tryz.func124, Tryz.ntmps124
        go_wp2_with (go_at_call 25; refine (refMay_any _ _ _ _).mono ?_; rintro e w' ⟨rfl, hb1⟩; rw [HH.out])
        refine wp_loop_once ?_
        go_wp2
        go_ret
        exact ⟨ret_int (by rw [HP.out]), by ((repeat' (first | exact Below.refl _ _ | refine below_drewN ?_ _ | refine Below.drew ?_ | refine Below.alloc ?_ ?_ _ | refine Below.trans ?_ (Below.mono (by assumption) ?_))); all_goals (first | exact Nat.le_refl _ | exact Below.size (by assumption) | omega | (simp; done) | (simp; omega)))⟩
end Go.Proofs.YtlekdfajcpmolaaGreatDoor
