/- A mask of low bits. No program is named. -/
import Derived.Test.YtfeonfihlleoeaaDoorGAA
import Derived.Laws.BitsLemmas
import Derived.IntWalk
namespace Go.Proofs.YtfeonfihlleoeaaDoor

theorem i64_maskB (x : Int) (j : Nat) (hj : j < 63) : bits .and .i64 x (((2 ^ j - 1 : Nat) : Int)) = x % ((2 ^ j : Nat) : Int) := by
  have hm : 2 ^ j - 1 < 2 ^ 64 := Nat.lt_of_le_of_lt (Nat.sub_le _ _) (Nat.pow_lt_pow_right (by decide) (by omega))
  have hj' : 2 ^ j ≤ 2 ^ 62 := Nat.pow_le_pow_right (by decide) (by omega)
  have hp : 0 < 2 ^ j := Nat.two_pow_pos j
  have hd : ((2 ^ j : Nat) : Int) ∣ ((2 ^ 64 : Nat) : Int) := Int.natCast_dvd_natCast.2 (Nat.pow_dvd_pow 2 (by omega))
  have e1 : (BitVec.ofInt IntKind.i64.bits (((2 ^ j - 1 : Nat) : Int))).toNat = 2 ^ j - 1 := by
    rw [BitVec.ofInt_natCast, BitVec.toNat_ofNat]
    exact Nat.mod_eq_of_lt hm
  have e2 : ((BitVec.ofInt IntKind.i64.bits x).toNat : Int) = x % ((2 ^ 64 : Nat) : Int) := by
    rw [BitVec.toNat_ofInt]
    exact Int.toNat_of_nonneg (Int.emod_nonneg _ (by decide))
  have e3 : (((BitVec.ofInt IntKind.i64.bits x).toNat % 2 ^ j : Nat) : Int) = x % ((2 ^ j : Nat) : Int) := by
    rw [Int.natCast_emod, e2, Int.emod_emod_of_dvd _ hd]
  have h0 : 0 ≤ x % ((2 ^ j : Nat) : Int) := Int.emod_nonneg _ (by omega)
  have h1 : x % ((2 ^ j : Nat) : Int) < ((2 ^ j : Nat) : Int) := Int.emod_lt_of_pos _ (by omega)
  have e4 : bits .and .i64 x (((2 ^ j - 1 : Nat) : Int)) = IntKind.i64.wrap (((BitVec.ofInt IntKind.i64.bits x &&& BitVec.ofInt IntKind.i64.bits (((2 ^ j - 1 : Nat) : Int))).toNat : Nat) : Int) := rfl
  rw [e4, BitVec.toNat_and, e1, Nat.and_two_pow_sub_one_eq_mod, e3]
  refine IntWalk.i64_in _ ⟨by omega, ?_⟩
  have : ((2 ^ j : Nat) : Int) ≤ ((2 ^ 62 : Nat) : Int) := Int.ofNat_le.2 hj'
  have e5 : ((2 ^ 62 : Nat) : Int) = 4611686018427387904 := by decide
  omega
theorem and1 (x : Int) : ∃ i : Nat, i < 2 ∧ bits .and .i64 x 1 = (i : Int) := by
  have h : bits .and .i64 x 1 = x % 2 := i64_maskB x 1 (by omega)
  have h0 : 0 ≤ x % 2 := Int.emod_nonneg _ (by decide)
  have h1 : x % 2 < 2 := Int.emod_lt_of_pos _ (by decide)
  obtain ⟨i, hi⟩ := Int.eq_ofNat_of_zero_le h0
  exact ⟨i, by omega, h.trans hi⟩
end Go.Proofs.YtfeonfihlleoeaaDoor
