/- Where bytes of an image lie: the plain arithmetic of stripes. No program is named. -/
import Derived.Test.YthbpafbgnenljaaLib
namespace Go.Proofs.Ythbpafbgnenljaa
open Go.RowKit

def okB (u c o : Int) : Bool := decide (1 ≤ u) && decide (1 ≤ c) && decide (c ≤ 8) && decide (u ≤ o) && decide (o ≤ 64) && decide (o % u = 0)
def inF (z : Int) : Bool := decide (0 ≤ z) && decide (z ≤ 1099511627776)

structure Lay (u c o : Int) : Prop where
  u1 : 1 ≤ u
  c1 : 1 ≤ c
  c8 : c ≤ 8
  uo : u ≤ o
  o64 : o ≤ 64
  e1 : 1 ≤ o / u
  e64 : o / u ≤ 64
  oe : o = o / u * u
theorem lay_of {u c o : Int} (h : okB u c o = true) : Lay u c o := by
  simp [okB] at h
  obtain ⟨⟨⟨⟨⟨h1, h2⟩, h3⟩, h4⟩, h5⟩, h6⟩ := h
  have h7 := Int.ediv_mul_add_emod o u
  rw [h6] at h7
  refine ⟨h1, h2, h3, h4, h5, ?_, ?_, by omega⟩
  · have : 1 * u ≤ o := by omega
    exact Int.le_ediv_of_mul_le (by omega) this
  · exact Int.le_trans (Int.ediv_le_self u (by omega)) h5
theorem inF_iff {z : Int} : inF z = true ↔ 0 ≤ z ∧ z ≤ 1099511627776 := by simp [inF]

def plO (u c o off : Int) : Int := off / u / c / (o / u) * c + off / u % c
def plK (u c o off : Int) : Int := off / u / c % (o / u) * u + off % u
def bk (u c o ob k : Int) : Int := ((ob / c * (o / u) + k / u) * c + ob % c) * u + k % u

section
variable {u c o : Int} (H : Lay u c o)
include H
theorem plO_nonneg {off : Int} (h : 0 ≤ off) : 0 ≤ plO u c o off := by
  have := H.u1; have := H.c1; have := H.e1
  have h1 := Int.ediv_nonneg h (show 0 ≤ u by omega)
  have h2 := Int.ediv_nonneg h1 (show 0 ≤ c by omega)
  have h3 := Int.ediv_nonneg h2 (show 0 ≤ o / u by omega)
  have h4 := Int.mul_nonneg h3 (show 0 ≤ c by omega)
  have h5 := (mod_b (a := off / u) H.c1).1
  unfold plO; omega
theorem plK_range {off : Int} : 0 ≤ plK u c o off ∧ plK u c o off < o := by
  have hu := H.u1; have := H.e1
  have h1 := mod_b (a := off / u / c) H.e1
  have h2 := mod_b (a := off) H.u1
  have h3 := Int.mul_nonneg h1.1 (show 0 ≤ u by omega)
  have h4 : (off / u / c % (o / u) + 1) * u ≤ o / u * u := Int.mul_le_mul_of_nonneg_right (by omega) (by omega)
  rw [← H.oe, Int.add_mul] at h4
  unfold plK; omega
theorem pl_bk {ob k : Int} (h0 : 0 ≤ ob) (k0 : 0 ≤ k) (k1 : k < o) : plO u c o (bk u c o ob k) = ob ∧ plK u c o (bk u c o ob k) = k := by
  have hk := mod_b (a := k) H.u1
  have hc := mod_b (a := ob) H.c1
  have hku : k / u < o / u := by
    rw [H.oe] at k1
    exact Int.ediv_lt_of_lt_mul (by have := H.u1; omega) k1
  have hku0 := Int.ediv_nonneg k0 (show 0 ≤ u by have := H.u1; omega)
  obtain ⟨a1, a2⟩ := qr_of (a := (ob / c * (o / u) + k / u) * c + ob % c) hk.1 hk.2
  obtain ⟨b1, b2⟩ := qr_of (a := ob / c * (o / u) + k / u) hc.1 hc.2
  obtain ⟨d1, d2⟩ := qr_of (a := ob / c) hku0 hku
  unfold plO plK bk
  rw [a1, a2, b1, b2, d1, d2]
  exact ⟨qr_sum _ _, qr_sum _ _⟩
theorem bk_pl {off : Int} : bk u c o (plO u c o off) (plK u c o off) = off := by
  have hc := mod_b (a := off / u) H.c1
  have hu := mod_b (a := off) H.u1
  unfold plO plK bk
  obtain ⟨a1, a2⟩ := qr_of (a := off / u / c / (o / u)) hc.1 hc.2
  obtain ⟨b1, b2⟩ := qr_of (a := off / u / c % (o / u)) hu.1 hu.2
  rw [a1, a2, b1, b2, qr_sum, qr_sum, qr_sum]
theorem bk_nonneg {ob k : Int} (h0 : 0 ≤ ob) (k0 : 0 ≤ k) : 0 ≤ bk u c o ob k := by
  have := H.u1; have := H.c1; have := H.e1
  have h1 := Int.mul_nonneg (Int.ediv_nonneg h0 (show 0 ≤ c by omega)) (show 0 ≤ o / u by omega)
  have h2 := Int.ediv_nonneg k0 (show 0 ≤ u by omega)
  have h3 := (mod_b (a := ob) H.c1).1
  have h4 := (mod_b (a := k) H.u1).1
  have h5 := Int.mul_nonneg (show 0 ≤ ob / c * (o / u) + k / u by omega) (show 0 ≤ c by omega)
  have h6 := Int.mul_nonneg (show 0 ≤ (ob / c * (o / u) + k / u) * c + ob % c by omega) (show 0 ≤ u by omega)
  unfold bk; omega
/-- further on in an object, further on in the image -/
theorem bk_lt {ob k k' : Int} (k0 : 0 ≤ k) (hk : k < k') : bk u c o ob k < bk u c o ob k' := by
  have hu := H.u1; have hc := H.c1
  have e := qr_sum k u
  have e' := qr_sum k' u
  have m := mod_b (a := k) H.u1
  have m' := mod_b (a := k') H.u1
  have hq : k / u ≤ k' / u := Int.ediv_le_ediv (by omega) (by omega)
  have x : bk u c o ob k' - bk u c o ob k = (k' / u - k / u) * (c * u) + (k' % u - k % u) := by
    unfold bk
    have := Int.add_mul
    simp only [Int.add_mul, Int.sub_mul, Int.mul_assoc]
    omega
  rcases Int.lt_or_le (k / u) (k' / u) with h | h
  · have h1 : 1 * u ≤ c * u := Int.mul_le_mul_of_nonneg_right hc (by omega)
    have h2 : 1 * (c * u) ≤ (k' / u - k / u) * (c * u) := Int.mul_le_mul_of_nonneg_right (by omega) (by omega)
    omega
  · have h1 : k / u = k' / u := by omega
    rw [h1] at x e
    rw [Int.sub_self, Int.zero_mul] at x
    omega
theorem bk_le {ob k k' : Int} (k0 : 0 ≤ k) (hk : k ≤ k') : bk u c o ob k ≤ bk u c o ob k' := by
  rcases Int.lt_or_eq_of_le hk with h | h
  · exact Int.le_of_lt (bk_lt H k0 h)
  · rw [h]; exact Int.le_refl _
/-- within a unit, byte by byte -/
theorem bk_in {ob j d : Int} (d0 : 0 ≤ d) (d1 : d < u) : bk u c o ob (j * u + d) = bk u c o ob (j * u) + d := by
  obtain ⟨a1, a2⟩ := qr_of (a := j) d0 d1
  obtain ⟨b1, b2⟩ := qr_of (a := j) (r := 0) (b := u) (by omega) (by have := H.u1; omega)
  rw [Int.add_zero] at b1 b2
  unfold bk
  rw [a1, a2, b1, b2]
  omega
/-- within a unit, byte by byte -/
theorem pl_in {off d : Int} (d0 : 0 ≤ d) (d1 : off % u + d < u) : plO u c o (off + d) = plO u c o off ∧ plK u c o (off + d) = plK u c o off + d := by
  have m := mod_b (a := off) H.u1
  obtain ⟨a1, a2⟩ := qr_of (a := off / u) (r := off % u + d) (b := u) (by omega) d1
  have e : off + d = off / u * u + (off % u + d) := by have := qr_sum off u; omega
  unfold plO plK
  rw [e, a1, a2]
  obtain ⟨b1, b2⟩ := qr_of (a := off / u) (r := off % u) (b := u) (by omega) m.2
  exact ⟨rfl, by omega⟩
/-- as the reference has it -/
theorem pl_ref (off : Int) : off / u / (o / u * c) * c + off / u % c = plO u c o off ∧ off / u % (o / u * c) / c * u + off % u = plK u c o off := by
  have hc := H.c1; have he := H.e1
  have h1 : off / u / (o / u * c) = off / u / c / (o / u) := by
    rw [Int.mul_comm (o / u) c, ← Int.ediv_ediv_of_nonneg (x := off / u) (y := c) (z := o / u) (by omega)]
  have h3 : off / u % (o / u * c) / c = off / u / c % (o / u) := by
    have s1 := qr_sum (off / u) (o / u * c)
    have s2 := qr_sum (off / u / c) (o / u)
    have s3 := qr_sum (off / u) c
    have m1 := mod_b (a := off / u / c) H.e1
    have m3 := mod_b (a := off / u) H.c1
    rw [h1] at s1
    have : off / u % (o / u * c) = off / u / c % (o / u) * c + off / u % c := by
      have x : off / u / c / (o / u) * (o / u * c) = (off / u / c - off / u / c % (o / u)) * c := by
        rw [← Int.mul_assoc]
        congr 1
        omega
      rw [x, Int.sub_mul] at s1
      omega
    rw [this]
    exact (qr_of m3.1 m3.2).1
  unfold plO plK
  rw [h1, h3]
  exact ⟨rfl, rfl⟩
omit H in
theorem bk_ref (ob k : Int) : (ob / c * (o / u) * c + k / u * c + ob % c) * u + k % u = bk u c o ob k := by
  unfold bk
  rw [Int.add_mul (ob / c * (o / u))]
end
end Go.Proofs.Ythbpafbgnenljaa
