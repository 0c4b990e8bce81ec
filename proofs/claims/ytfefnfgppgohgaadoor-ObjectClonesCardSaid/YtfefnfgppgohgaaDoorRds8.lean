/- What was written is read: the plain law. No program is named. -/
import Derived.Test.YtfefnfgppgohgaaDoorMay8
namespace Go.Proofs.YtfefnfgppgohgaaDoor
open Go.RowKit

/-- a byte of the data, nought behind them -/
def byD (d : List UInt8) (i : Nat) : UInt8 := (d[i]?).getD 0
theorem padD_len (d : List UInt8) (off n : Nat) : (padD d off n).length = n := by
  unfold padD
  simp only [List.length_append, List.length_take, List.length_drop, List.length_replicate]
  omega
theorem padD_at (d : List UInt8) (off n i : Nat) (h : i < n) : (padD d off n)[i]? = some (byD d (off + i)) := by
  unfold padD byD
  by_cases h1 : off + i < d.length
  · rw [List.getElem?_append_left (by simp only [List.length_take, List.length_drop]; omega), List.getElem?_take_of_lt h, List.getElem?_drop, List.getElem?_eq_getElem h1]
    rfl
  · rw [List.getElem?_append_right (by simp only [List.length_take, List.length_drop]; omega), List.getElem?_replicate, if_pos (by simp only [List.length_take, List.length_drop]; omega), List.getElem?_eq_none (by omega)]
    rfl
theorem padD_ext {d d' : List UInt8} {off n : Nat} (h : ∀ i, i < n → byD d (off + i) = byD d' (off + i)) : padD d off n = padD d' off n := by
  apply List.ext_getElem?
  intro i
  by_cases hi : i < n
  · rw [padD_at _ _ _ _ hi, padD_at _ _ _ _ hi, h i hi]
  · rw [List.getElem?_eq_none (by rw [padD_len]; omega), List.getElem?_eq_none (by rw [padD_len]; omega)]
theorem byD_app (a b : List UInt8) (i : Nat) : byD (a ++ b) i = if i < a.length then byD a i else byD b (i - a.length) := by
  unfold byD
  split
  · rw [List.getElem?_append_left (by assumption)]
  · rw [List.getElem?_append_right (by omega)]
theorem byD_drop (a : List UInt8) (k i : Nat) : byD (a.drop k) i = byD a (k + i) := by unfold byD; rw [List.getElem?_drop]
theorem byD_take (a : List UInt8) (k i : Nat) (h : i < k) : byD (a.take k) i = byD a i := by unfold byD; rw [List.getElem?_take_of_lt h]
theorem byD_rep (n i : Nat) : byD (List.replicate n 0) i = 0 := by
  unfold byD
  rw [List.getElem?_replicate]
  split <;> rfl
theorem byD_out (a : List UInt8) (i : Nat) (h : a.length ≤ i) : byD a i = 0 := by unfold byD; rw [List.getElem?_eq_none h]; rfl
theorem byD_write (d x : List UInt8) (k i : Nat) : byD (writeD d k x) i = if k ≤ i ∧ i < k + x.length then byD x (i - k) else byD d i := by
  unfold writeD
  have hl : ((d ++ List.replicate (k + x.length - d.length) 0).take k).length = k := by
    simp only [List.length_append, List.length_take, List.length_replicate]
    omega
  rw [byD_app, List.length_append, hl]
  by_cases h1 : i < k + x.length
  · rw [if_pos h1, byD_app, hl]
    by_cases h2 : i < k
    · rw [if_pos h2, if_neg (by omega), byD_take _ _ _ h2, byD_app]
      split
      · rfl
      · rw [byD_rep, byD_out _ _ (by omega)]
    · rw [if_neg h2, if_pos (by omega)]
  · rw [if_neg h1, if_neg (by omega), byD_drop]
    congr 1
    omega
theorem byD_zero (d : List UInt8) (k n i : Nat) : byD (zeroD d k n) i = if k ≤ i ∧ i < k + n then 0 else byD d i := by
  unfold zeroD
  rw [byD_app, List.length_append, List.length_take, List.length_replicate]
  by_cases h0 : i < min k d.length + (min (k + n) d.length - k)
  · rw [if_pos h0, byD_app, List.length_take]
    by_cases h2 : i < min k d.length
    · rw [if_pos h2, if_neg (by omega), byD_take _ _ _ (by omega)]
    · rw [if_neg h2, byD_rep, if_pos (by omega)]
  · rw [if_neg h0, byD_drop]
    by_cases h1 : i < k + n
    · rw [byD_out _ _ (by omega)]
      split
      · rfl
      · rw [byD_out _ _ (by omega)]
    · rw [if_neg (by omega)]
      by_cases h3 : k + n ≤ d.length
      · congr 1
        omega
      · rw [byD_out _ _ (by omega), byD_out _ _ (by omega)]
theorem pad_write_in (d x : List UInt8) (k : Nat) : padD (writeD d k x) k x.length = x := by
  apply List.ext_getElem?
  intro i
  by_cases hi : i < x.length
  · rw [padD_at _ _ _ _ hi, byD_write, if_pos (by omega), show k + i - k = i by omega, byD, List.getElem?_eq_getElem hi]
    rfl
  · rw [List.getElem?_eq_none (by rw [padD_len]; omega), List.getElem?_eq_none (by omega)]
theorem pad_write_lo (d x : List UInt8) (k : Nat) : padD (writeD d k x) 0 k = padD d 0 k := padD_ext fun i hi => by rw [byD_write, if_neg (by omega)]
theorem pad_write_hi (d x : List UInt8) (k n : Nat) : padD (writeD d k x) (k + x.length) n = padD d (k + x.length) n := padD_ext fun i hi => by rw [byD_write, if_neg (by omega)]
theorem pad_zero_in (d : List UInt8) (k n : Nat) : padD (zeroD d k n) k n = List.replicate n 0 := by
  apply List.ext_getElem?
  intro i
  by_cases hi : i < n
  · rw [padD_at _ _ _ _ hi, byD_zero, if_pos (by omega), List.getElem?_replicate, if_pos hi]
  · rw [List.getElem?_eq_none (by rw [padD_len]; omega), List.getElem?_eq_none (by simp; omega)]
theorem pad_zero_hi (d : List UInt8) (k n m : Nat) : padD (zeroD d k n) (k + n) m = padD d (k + n) m := padD_ext fun i hi => by rw [byD_zero, if_neg (by omega)]
end Go.Proofs.YtfefnfgppgohgaaDoor
