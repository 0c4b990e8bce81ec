/- The sum of bytes: the table's four-bit steps are the definition's single steps; each step is one to one. No program is named. -/
import Derived.Test.YtidikciankcopaaDoorLib
namespace Go.Proofs.YtidikciankcopaaDoor

namespace Crc
def poly : BitVec 32 := 2197175160#32
def s1 (r : BitVec 32) : BitVec 32 := if r.getLsbD 0 then (r >>> 1) ^^^ poly else r >>> 1
def s4 (r : BitVec 32) : BitVec 32 := s1 (s1 (s1 (s1 r)))
def tab : List Nat := [0, 274646895, 549293790, 820201905, 1098587580, 1361435347, 1640403810, 1905808397, 2197175160, 2460548119, 2722870694, 2987750089, 3280807620, 3553878443, 3811616794, 4084100981]
theorem s1_xor (a b : BitVec 32) : s1 (a ^^^ b) = s1 a ^^^ s1 b := by
  unfold s1
  rw [BitVec.getLsbD_xor, BitVec.ushiftRight_xor_distrib]
  cases a.getLsbD 0 <;> cases b.getLsbD 0 <;> simp
  · rw [BitVec.xor_assoc]
  · rw [BitVec.xor_assoc, BitVec.xor_assoc, BitVec.xor_comm (b >>> 1)]
  · rw [BitVec.xor_assoc, ← BitVec.xor_assoc poly, BitVec.xor_comm poly, BitVec.xor_assoc (b >>> 1), BitVec.xor_self, BitVec.xor_zero]
theorem s4_xor (a b : BitVec 32) : s4 (a ^^^ b) = s4 a ^^^ s4 b := by unfold s4; rw [s1_xor, s1_xor, s1_xor, s1_xor]
theorem s1_even {r : BitVec 32} (h : r.getLsbD 0 = false) : s1 r = r >>> 1 := by unfold s1; rw [h]; rfl
theorem s4_high (r : BitVec 32) (h : ∀ i, i < 4 → r.getLsbD i = false) : s4 r = r >>> 4 := by
  have k : ∀ (j : Nat), j < 4 → (r >>> j).getLsbD 0 = false := fun j hj => by rw [BitVec.getLsbD_ushiftRight]; exact h _ (by omega)
  have e1 : s1 r = r >>> 1 := s1_even (h 0 (by omega))
  have e2 : s1 (r >>> 1) = r >>> 2 := by rw [s1_even (k 1 (by omega)), ← BitVec.shiftRight_add]
  have e3 : s1 (r >>> 2) = r >>> 3 := by rw [s1_even (k 2 (by omega)), ← BitVec.shiftRight_add]
  have e4 : s1 (r >>> 3) = r >>> 4 := by rw [s1_even (k 3 (by omega)), ← BitVec.shiftRight_add]
  unfold s4
  rw [e1, e2, e3, e4]
theorem tab_s4 : ∀ t : Fin 16, s4 (BitVec.ofNat 32 t.val) = BitVec.ofNat 32 (tab.getD t.val 0) := by decide +kernel
theorem split (r : BitVec 32) : r = (r >>> 4 <<< 4) ^^^ BitVec.ofNat 32 (r.toNat % 16) := by
  apply BitVec.eq_of_getLsbD_eq
  intro i hi
  have e : (BitVec.ofNat 32 (r.toNat % 16)).getLsbD i = (decide (i < 4) && r.getLsbD i) := by
    rw [BitVec.getLsbD_ofNat]
    have : r.toNat % 16 = r.toNat % 2 ^ 4 := rfl
    rw [this, Nat.testBit_mod_two_pow]
    simp only [hi, decide_true, Bool.true_and]
    rfl
  rw [BitVec.getLsbD_xor, BitVec.getLsbD_shiftLeft, BitVec.getLsbD_ushiftRight, e]
  by_cases h : i < 4
  · simp [h]
  · simp [h, hi, show 4 + (i - 4) = i by omega]
theorem high_low (r : BitVec 32) : ∀ i, i < 4 → (r >>> 4 <<< 4).getLsbD i = false := fun i hi => by rw [BitVec.getLsbD_shiftLeft]; simp [hi]
theorem high_shift (r : BitVec 32) : (r >>> 4 <<< 4) >>> 4 = r >>> 4 := by
  apply BitVec.eq_of_getLsbD_eq
  intro i hi
  rw [BitVec.getLsbD_ushiftRight, BitVec.getLsbD_shiftLeft, BitVec.getLsbD_ushiftRight]
  by_cases h : 4 + i < 32
  · simp [h]
  · have : r.getLsbD (4 + i) = false := BitVec.getLsbD_of_ge r _ (by omega)
    simp [h, this]
/-- four single steps are one look into the table -/
theorem nib (r : BitVec 32) : (r >>> 4) ^^^ BitVec.ofNat 32 (tab.getD (r.toNat % 16) 0) = s4 r := by
  have h := tab_s4 ⟨r.toNat % 16, Nat.mod_lt _ (by decide)⟩
  conv => rhs; rw [split r]
  rw [s4_xor, s4_high _ (high_low r), high_shift, h]

theorem s1_inj {a b : BitVec 32} (h : s1 a = s1 b) : a = b := by
  have top : ∀ r : BitVec 32, (s1 r).getLsbD 31 = r.getLsbD 0 := fun r => by
    unfold s1
    have hz : (r >>> 1).getLsbD 31 = false := by rw [BitVec.getLsbD_ushiftRight]; exact BitVec.getLsbD_of_ge r _ (by omega)
    cases h0 : r.getLsbD 0
    · simp only [Bool.false_eq_true, if_false]; exact hz
    · simp only [if_true]
      rw [BitVec.getLsbD_xor, hz]
      decide
  have h0 : a.getLsbD 0 = b.getLsbD 0 := by rw [← top, ← top, h]
  have hs : a >>> 1 = b >>> 1 := by
    unfold s1 at h
    rw [h0] at h
    cases hb : b.getLsbD 0
    · rw [hb] at h; simpa using h
    · rw [hb] at h
      simp only [if_true] at h
      have h2 := congrArg (· ^^^ poly) h
      simpa [BitVec.xor_assoc] using h2
  apply BitVec.eq_of_getLsbD_eq
  intro i hi
  cases i with
  | zero => exact h0
  | succ i =>
    have := congrArg (fun x => x.getLsbD i) hs
    simp only [BitVec.getLsbD_ushiftRight] at this
    rwa [Nat.add_comm] at this
theorem s4_inj {a b : BitVec 32} (h : s4 a = s4 b) : a = b := s1_inj (s1_inj (s1_inj (s1_inj h)))

/-- what becomes of the register by one byte -/
def stepB (r : BitVec 32) (c : UInt8) : BitVec 32 := s4 (s4 (r ^^^ BitVec.ofNat 32 c.toNat))
def reg (r : BitVec 32) (l : List UInt8) : BitVec 32 := l.foldl stepB r
def sum (l : List UInt8) : BitVec 32 := ~~~ reg (BitVec.allOnes 32) l
theorem xor_right_inj {a b c : BitVec 32} (h : a ^^^ c = b ^^^ c) : a = b := by
  have := congrArg (· ^^^ c) h
  simpa [BitVec.xor_assoc] using this
theorem step_inj {a b : BitVec 32} {c : UInt8} (h : stepB a c = stepB b c) : a = b := xor_right_inj (s4_inj (s4_inj h))
theorem step_byte {r : BitVec 32} {c d : UInt8} (h : stepB r c = stepB r d) : c = d := by
  have h1 := s4_inj (s4_inj h)
  rw [BitVec.xor_comm, BitVec.xor_comm r] at h1
  have h2 := xor_right_inj h1
  have h3 := congrArg BitVec.toNat h2
  simp only [BitVec.toNat_ofNat] at h3
  have hc : c.toNat < 256 := c.toNat_lt
  have hd : d.toNat < 256 := d.toNat_lt
  have : c.toNat = d.toNat := by omega
  exact UInt8.toNat_inj.1 this
theorem reg_inj {l : List UInt8} : ∀ {a b : BitVec 32}, reg a l = reg b l → a = b := by
  induction l with
  | nil => intro a b h; exact h
  | cons c l ih => intro a b h; exact step_inj (ih h)
/-- one byte that turns turns the sum -/
theorem sum_turn {a b : List UInt8} {c d : UInt8} (h : sum (a ++ c :: b) = sum (a ++ d :: b)) : c = d := by
  have h1 : reg (BitVec.allOnes 32) (a ++ c :: b) = reg (BitVec.allOnes 32) (a ++ d :: b) := by
    have := congrArg (fun x => ~~~ x) h
    simpa [sum] using this
  unfold reg at h1
  simp only [List.foldl_append, List.foldl_cons] at h1
  exact step_byte (reg_inj (l := b) h1)
end Crc
end Go.Proofs.YtidikciankcopaaDoor
