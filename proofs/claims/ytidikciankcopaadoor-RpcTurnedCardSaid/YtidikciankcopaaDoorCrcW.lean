/- The walk's words for the sum of bytes: 32-bit registers as integers. No program is named. -/
import Derived.Test.YtidikciankcopaaDoorCrc
namespace Go.Proofs.YtidikciankcopaaDoor

theorem bv_ofInt (a : BitVec 32) : BitVec.ofInt IntKind.u32.bits (a.toNat : Int) = a := by
  apply BitVec.eq_of_toNat_eq
  rw [BitVec.ofInt_natCast, BitVec.toNat_ofNat]
  exact Nat.mod_eq_of_lt a.isLt
theorem bits_xor_u32 (a b : BitVec 32) : bits .xor .u32 (a.toNat : Int) (b.toNat : Int) = ((a ^^^ b).toNat : Int) := by
  have e : bits .xor .u32 (a.toNat : Int) (b.toNat : Int) = IntKind.u32.wrap (((BitVec.ofInt IntKind.u32.bits (a.toNat : Int)) ^^^ (BitVec.ofInt IntKind.u32.bits (b.toNat : Int))).toNat : Int) := rfl
  rw [e, bv_ofInt, bv_ofInt]
  have h : (a ^^^ b).toNat < 4294967296 := (a ^^^ b).isLt
  exact IntWalk.u32_in ((a ^^^ b).toNat : Int) ⟨by omega, by omega⟩
theorem shr4_u32 (a : BitVec 32) : (a.toNat : Int) / (16 : Int) = ((a >>> 4).toNat : Int) := by
  rw [BitVec.toNat_ushiftRight, Nat.shiftRight_eq_div_pow]
  rfl
theorem and15_u32 (a : BitVec 32) : bits .and .u32 (a.toNat : Int) 15 = ((a.toNat % 16 : Nat) : Int) := by
  have h := bits_mask .u32 32 (by decide) (fun n h0 h1 => IntWalk.u32_in _ ⟨h0, by have : (2 : Int) ^ 32 = 4294967296 := by decide
                                                                                   omega⟩) 4 (by decide) (a.toNat : Int) (by omega) (by have := a.isLt; have e : (2 : Int) ^ 32 = 4294967296 := by decide
                                                                                                                                        omega)
  have e : ((2 : Int) ^ 4 - 1) = 15 := by decide
  rw [e] at h
  rw [h]
  have e2 : (2 : Int) ^ 4 = 16 := by decide
  rw [e2]
  omega
theorem comp_u32 (a : BitVec 32) : bits .xor .u32 4294967295 (a.toNat : Int) = ((~~~ a).toNat : Int) := by
  have e : (4294967295 : Int) = ((BitVec.allOnes 32).toNat : Int) := rfl
  rw [e, bits_xor_u32, BitVec.allOnes_xor]
/-- one look into the table, in the walk's words -/
theorem nib_u32 (a : BitVec 32) : bits .xor .u32 ((a.toNat : Int) / (16 : Int)) ((Crc.tab.getD (a.toNat % 16) 0 : Nat) : Int) = ((Crc.s4 a).toNat : Int) := by
  have hlt : Crc.tab.getD (a.toNat % 16) 0 < 4294967296 := by
    have : ∀ t : Fin 16, Crc.tab.getD t.val 0 < 4294967296 := by decide
    exact this ⟨a.toNat % 16, Nat.mod_lt _ (by decide)⟩
  have e : (Crc.tab.getD (a.toNat % 16) 0 : Nat) = (BitVec.ofNat 32 (Crc.tab.getD (a.toNat % 16) 0)).toNat := by
    rw [BitVec.toNat_ofNat]
    exact (Nat.mod_eq_of_lt hlt).symm
  rw [shr4_u32, ← Crc.nib]
  conv => lhs; rw [e]
  rw [bits_xor_u32]
/-- a single step, in the reference's words -/
theorem s1_even_u32 (a : BitVec 32) (h : a.toNat % 2 = 0) : (a.toNat : Int) / (2 : Int) = ((Crc.s1 a).toNat : Int) := by
  have h0 : a.getLsbD 0 = false := by
    show a.toNat.testBit 0 = false
    rw [Nat.testBit_zero]
    simp [h]
  rw [Crc.s1_even h0, BitVec.toNat_ushiftRight, Nat.shiftRight_eq_div_pow]
  rfl
theorem s1_odd_u32 (a : BitVec 32) (h : a.toNat % 2 = 1) : bits .xor .u32 ((a.toNat : Int) / (2 : Int)) 2197175160 = ((Crc.s1 a).toNat : Int) := by
  have h0 : a.getLsbD 0 = true := by
    show a.toNat.testBit 0 = true
    rw [Nat.testBit_zero]
    simp [h]
  have e : (a.toNat : Int) / (2 : Int) = ((a >>> 1).toNat : Int) := by
    rw [BitVec.toNat_ushiftRight, Nat.shiftRight_eq_div_pow]
    rfl
  have e2 : (2197175160 : Int) = (Crc.poly.toNat : Int) := rfl
  rw [e, e2, bits_xor_u32]
  unfold Crc.s1
  rw [h0]
  rfl
end Go.Proofs.YtidikciankcopaaDoor
