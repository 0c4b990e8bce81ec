/- The sum of bytes: the table's four-bit steps are the definition's single steps; each step is one to one. No program is named. The walk's words for the sum of bytes: 32-bit registers as integers. No program is named. The table of frame's sum, out of the row's listed variables. -/
import Derived.Test.YtlgefkaafoidmaaGreatDoorGA
import Derived.Test.YtlgefkaafoidmaaGreatDoorRowL
import Derived.Lib.LaidTab
namespace Go.Proofs.YtlgefkaafoidmaaGreatDoor

namespace Crc
def poly : BitVec 32 := 2197175160#32
def s1 (r : BitVec 32) : BitVec 32 := if r.getLsbD 0 then (r >>> 1) ^^^ poly else r >>> 1
def s4 (r : BitVec 32) : BitVec 32 := s1 (s1 (s1 (s1 r)))
def tab : List Nat := [0, 274646895, 549293790, 820201905, 1098587580, 1361435347, 1640403810, 1905808397, 2197175160, 2460548119, 2722870694, 2987750089, 3280807620, 3553878443, 3811616794, 4084100981]
theorem s1_xor (a b : BitVec 32) : s1 (a ^^^ b) = s1 a ^^^ s1 b := by
  unfold s1
  rw [BitVec.getLsbD_xor, BitVec.ushiftRight_xor_distrib]
  cases a.getLsbD 0 <;> cases b.getLsbD 0 <;> simp
  · rw [BitVec.xor_assoc]
  · rw [BitVec.xor_assoc, BitVec.xor_assoc, BitVec.xor_comm (b >>> 1)]
  · rw [BitVec.xor_assoc, ← BitVec.xor_assoc poly, BitVec.xor_comm poly, BitVec.xor_assoc (b >>> 1), BitVec.xor_self, BitVec.xor_zero]
theorem s4_xor (a b : BitVec 32) : s4 (a ^^^ b) = s4 a ^^^ s4 b := by unfold s4; rw [s1_xor, s1_xor, s1_xor, s1_xor]
theorem s1_even {r : BitVec 32} (h : r.getLsbD 0 = false) : s1 r = r >>> 1 := by unfold s1; rw [h]; rfl
theorem s4_high (r : BitVec 32) (h : ∀ i, i < 4 → r.getLsbD i = false) : s4 r = r >>> 4 := by
  have k : ∀ (j : Nat), j < 4 → (r >>> j).getLsbD 0 = false := fun j hj => by rw [BitVec.getLsbD_ushiftRight]; exact h _ (by omega)
  have e1 : s1 r = r >>> 1 := s1_even (h 0 (by omega))
  have e2 : s1 (r >>> 1) = r >>> 2 := by rw [s1_even (k 1 (by omega)), ← BitVec.shiftRight_add]
  have e3 : s1 (r >>> 2) = r >>> 3 := by rw [s1_even (k 2 (by omega)), ← BitVec.shiftRight_add]
  have e4 : s1 (r >>> 3) = r >>> 4 := by rw [s1_even (k 3 (by omega)), ← BitVec.shiftRight_add]
  unfold s4
  rw [e1, e2, e3, e4]
theorem tab_s4 : ∀ t : Fin 16, s4 (BitVec.ofNat 32 t.val) = BitVec.ofNat 32 (tab.getD t.val 0) := by decide +kernel
theorem split (r : BitVec 32) : r = (r >>> 4 <<< 4) ^^^ BitVec.ofNat 32 (r.toNat % 16) := by
  apply BitVec.eq_of_getLsbD_eq
  intro i hi
  have e : (BitVec.ofNat 32 (r.toNat % 16)).getLsbD i = (decide (i < 4) && r.getLsbD i) := by
    rw [BitVec.getLsbD_ofNat]
    have : r.toNat % 16 = r.toNat % 2 ^ 4 := rfl
    rw [this, Nat.testBit_mod_two_pow]
    simp only [hi, decide_true, Bool.true_and]
    rfl
  rw [BitVec.getLsbD_xor, BitVec.getLsbD_shiftLeft, BitVec.getLsbD_ushiftRight, e]
  by_cases h : i < 4
  · simp [h]
  · simp [h, hi, show 4 + (i - 4) = i by omega]
theorem high_low (r : BitVec 32) : ∀ i, i < 4 → (r >>> 4 <<< 4).getLsbD i = false := fun i hi => by rw [BitVec.getLsbD_shiftLeft]; simp [hi]
theorem high_shift (r : BitVec 32) : (r >>> 4 <<< 4) >>> 4 = r >>> 4 := by
  apply BitVec.eq_of_getLsbD_eq
  intro i hi
  rw [BitVec.getLsbD_ushiftRight, BitVec.getLsbD_shiftLeft, BitVec.getLsbD_ushiftRight]
  by_cases h : 4 + i < 32
  · simp [h]
  · have : r.getLsbD (4 + i) = false := BitVec.getLsbD_of_ge r _ (by omega)
    simp [h, this]
/-- four single steps are one look into the table -/
theorem nib (r : BitVec 32) : (r >>> 4) ^^^ BitVec.ofNat 32 (tab.getD (r.toNat % 16) 0) = s4 r := by
  have h := tab_s4 ⟨r.toNat % 16, Nat.mod_lt _ (by decide)⟩
  conv => rhs; rw [split r]
  rw [s4_xor, s4_high _ (high_low r), high_shift, h]

theorem s1_inj {a b : BitVec 32} (h : s1 a = s1 b) : a = b := by
  have top : ∀ r : BitVec 32, (s1 r).getLsbD 31 = r.getLsbD 0 := fun r => by
    unfold s1
    have hz : (r >>> 1).getLsbD 31 = false := by rw [BitVec.getLsbD_ushiftRight]; exact BitVec.getLsbD_of_ge r _ (by omega)
    cases h0 : r.getLsbD 0
    · simp only [Bool.false_eq_true, if_false]; exact hz
    · simp only [if_true]
      rw [BitVec.getLsbD_xor, hz]
      decide
  have h0 : a.getLsbD 0 = b.getLsbD 0 := by rw [← top, ← top, h]
  have hs : a >>> 1 = b >>> 1 := by
    unfold s1 at h
    rw [h0] at h
    cases hb : b.getLsbD 0
    · rw [hb] at h; simpa using h
    · rw [hb] at h
      simp only [if_true] at h
      have h2 := congrArg (· ^^^ poly) h
      simpa [BitVec.xor_assoc] using h2
  apply BitVec.eq_of_getLsbD_eq
  intro i hi
  cases i with
  | zero => exact h0
  | succ i =>
    have := congrArg (fun x => x.getLsbD i) hs
    simp only [BitVec.getLsbD_ushiftRight] at this
    rwa [Nat.add_comm] at this
theorem s4_inj {a b : BitVec 32} (h : s4 a = s4 b) : a = b := s1_inj (s1_inj (s1_inj (s1_inj h)))

/-- what becomes of the register by one byte -/
def stepB (r : BitVec 32) (c : UInt8) : BitVec 32 := s4 (s4 (r ^^^ BitVec.ofNat 32 c.toNat))
def reg (r : BitVec 32) (l : List UInt8) : BitVec 32 := l.foldl stepB r
def sum (l : List UInt8) : BitVec 32 := ~~~ reg (BitVec.allOnes 32) l
theorem xor_right_inj {a b c : BitVec 32} (h : a ^^^ c = b ^^^ c) : a = b := by
  have := congrArg (· ^^^ c) h
  simpa [BitVec.xor_assoc] using this
theorem step_inj {a b : BitVec 32} {c : UInt8} (h : stepB a c = stepB b c) : a = b := xor_right_inj (s4_inj (s4_inj h))
theorem step_byte {r : BitVec 32} {c d : UInt8} (h : stepB r c = stepB r d) : c = d := by
  have h1 := s4_inj (s4_inj h)
  rw [BitVec.xor_comm, BitVec.xor_comm r] at h1
  have h2 := xor_right_inj h1
  have h3 := congrArg BitVec.toNat h2
  simp only [BitVec.toNat_ofNat] at h3
  have hc : c.toNat < 256 := c.toNat_lt
  have hd : d.toNat < 256 := d.toNat_lt
  have : c.toNat = d.toNat := by omega
  exact UInt8.toNat_inj.1 this
theorem reg_inj {l : List UInt8} : ∀ {a b : BitVec 32}, reg a l = reg b l → a = b := by
  induction l with
  | nil => intro a b h; exact h
  | cons c l ih => intro a b h; exact step_inj (ih h)
/-- one byte that turns turns the sum -/
theorem sum_turn {a b : List UInt8} {c d : UInt8} (h : sum (a ++ c :: b) = sum (a ++ d :: b)) : c = d := by
  have h1 : reg (BitVec.allOnes 32) (a ++ c :: b) = reg (BitVec.allOnes 32) (a ++ d :: b) := by
    have := congrArg (fun x => ~~~ x) h
    simpa [sum] using this
  unfold reg at h1
  simp only [List.foldl_append, List.foldl_cons] at h1
  exact step_byte (reg_inj (l := b) h1)
end Crc
end Go.Proofs.YtlgefkaafoidmaaGreatDoor
namespace Go.Proofs.YtlgefkaafoidmaaGreatDoor

theorem bv_ofInt (a : BitVec 32) : BitVec.ofInt IntKind.u32.bits (a.toNat : Int) = a := by
  apply BitVec.eq_of_toNat_eq
  rw [BitVec.ofInt_natCast, BitVec.toNat_ofNat]
  exact Nat.mod_eq_of_lt a.isLt
theorem bits_xor_u32 (a b : BitVec 32) : bits .xor .u32 (a.toNat : Int) (b.toNat : Int) = ((a ^^^ b).toNat : Int) := by
  have e : bits .xor .u32 (a.toNat : Int) (b.toNat : Int) = IntKind.u32.wrap (((BitVec.ofInt IntKind.u32.bits (a.toNat : Int)) ^^^ (BitVec.ofInt IntKind.u32.bits (b.toNat : Int))).toNat : Int) := rfl
  rw [e, bv_ofInt, bv_ofInt]
  have h : (a ^^^ b).toNat < 4294967296 := (a ^^^ b).isLt
  exact IntWalk.u32_in ((a ^^^ b).toNat : Int) ⟨by omega, by omega⟩
theorem shr4_u32 (a : BitVec 32) : (a.toNat : Int) / (16 : Int) = ((a >>> 4).toNat : Int) := by
  rw [BitVec.toNat_ushiftRight, Nat.shiftRight_eq_div_pow]
  rfl
theorem and15_u32 (a : BitVec 32) : bits .and .u32 (a.toNat : Int) 15 = ((a.toNat % 16 : Nat) : Int) := by
  have h := bits_mask .u32 32 (by decide) (fun n h0 h1 => IntWalk.u32_in _ ⟨h0, by have : (2 : Int) ^ 32 = 4294967296 := by decide
                                                                                   omega⟩) 4 (by decide) (a.toNat : Int) (by omega) (by have := a.isLt; have e : (2 : Int) ^ 32 = 4294967296 := by decide
                                                                                                                                        omega)
  have e : ((2 : Int) ^ 4 - 1) = 15 := by decide
  rw [e] at h
  rw [h]
  have e2 : (2 : Int) ^ 4 = 16 := by decide
  rw [e2]
  omega
theorem comp_u32 (a : BitVec 32) : bits .xor .u32 4294967295 (a.toNat : Int) = ((~~~ a).toNat : Int) := by
  have e : (4294967295 : Int) = ((BitVec.allOnes 32).toNat : Int) := rfl
  rw [e, bits_xor_u32, BitVec.allOnes_xor]
/-- one look into the table, in the walk's words -/
theorem nib_u32 (a : BitVec 32) : bits .xor .u32 ((a.toNat : Int) / (16 : Int)) ((Crc.tab.getD (a.toNat % 16) 0 : Nat) : Int) = ((Crc.s4 a).toNat : Int) := by
  have hlt : Crc.tab.getD (a.toNat % 16) 0 < 4294967296 := by
    have : ∀ t : Fin 16, Crc.tab.getD t.val 0 < 4294967296 := by decide
    exact this ⟨a.toNat % 16, Nat.mod_lt _ (by decide)⟩
  have e : (Crc.tab.getD (a.toNat % 16) 0 : Nat) = (BitVec.ofNat 32 (Crc.tab.getD (a.toNat % 16) 0)).toNat := by
    rw [BitVec.toNat_ofNat]
    exact (Nat.mod_eq_of_lt hlt).symm
  rw [shr4_u32, ← Crc.nib]
  conv => lhs; rw [e]
  rw [bits_xor_u32]
/-- a single step, in the reference's words -/
theorem s1_even_u32 (a : BitVec 32) (h : a.toNat % 2 = 0) : (a.toNat : Int) / (2 : Int) = ((Crc.s1 a).toNat : Int) := by
  have h0 : a.getLsbD 0 = false := by
    show a.toNat.testBit 0 = false
    rw [Nat.testBit_zero]
    simp [h]
  rw [Crc.s1_even h0, BitVec.toNat_ushiftRight, Nat.shiftRight_eq_div_pow]
  rfl
theorem s1_odd_u32 (a : BitVec 32) (h : a.toNat % 2 = 1) : bits .xor .u32 ((a.toNat : Int) / (2 : Int)) 2197175160 = ((Crc.s1 a).toNat : Int) := by
  have h0 : a.getLsbD 0 = true := by
    show a.toNat.testBit 0 = true
    rw [Nat.testBit_zero]
    simp [h]
  have e : (a.toNat : Int) / (2 : Int) = ((a >>> 1).toNat : Int) := by
    rw [BitVec.toNat_ushiftRight, Nat.shiftRight_eq_div_pow]
    rfl
  have e2 : (2197175160 : Int) = (Crc.poly.toNat : Int) := rfl
  rw [e, e2, bits_xor_u32]
  unfold Crc.s1
  rw [h0]
  rfl
end Go.Proofs.YtlgefkaafoidmaaGreatDoor
namespace Go.Proofs.YtlgefkaafoidmaaGreatDoor
open Go.ChangeShapes Go.WideShapes Go.ChangeAt Go.RowKit

/-- the sum's table lies in the world -/
def TabW (w : World) : Prop := ∀ r : Nat, r < 16 → w.cell? ⟨0, r, none⟩ = some (.int .u32 ((Crc.tab.getD r 0 : Nat) : Int))
theorem halves_data : (Rows.laid_terrazzo_frame_halves : DataW Unit) = Lib.tabData .u32 (Crc.tab.map fun n : Nat => (n : Int)) := by kernel_rfl
theorem tab_below {base : Nat} {w w' : World} (h : TabW w) (hb : Below base w w') (hg : 0 < base) : TabW w' := by
  intro r hr
  exact (hb.cell (p := ⟨0, r, none⟩) hg).trans (h r hr)
set_option maxRecDepth 100000 in
theorem tab_of_laid {W : World} (h : laidMetH Tryz.prog Rows.rpcRequestsRow.laid W) : TabW W ∧ 0 < W.heap.size := by
  rw [MakeChecks.laidMetH_plain _ _ _ (by kernel_rfl)] at h
  obtain ⟨ps, ⟨_, _, _, _, _, _, _, _, _, _, ⟨g, t, cs, fuel, p, q, hg, ht, hv, hd, _, _⟩, _⟩, _, _⟩ := h
  obtain rfl := Option.some.inj ((show Tryz.prog.globalNamed "terrazzo/frame.halves" = some 0 by kernel_rfl).symm.trans hg)
  obtain rfl := Option.some.inj ((show (Tryz.prog.globals[0]?).map (·.type) = some 130 by kernel_rfl).symm.trans ht)
  rw [halves_data] at hd
  have hT : Lib.TabIs Tryz.prog W "terrazzo/frame.halves" .u32 (Crc.tab.map fun n : Nat => (n : Int)) := by
    unfold Lib.TabIs
    rw [hv, ← Lib.cells_of_tab Tryz.underlying130 Tryz.underlying127 (by kernel_rfl) (by kernel_rfl) hd]
  have hc : TabW W := by
    intro r hr
    have h1 := hT.cell hg r (by show r < 16; exact hr)
    rw [h1]
    congr 2
    have : ∀ t : Fin 16, (Crc.tab.map fun n : Nat => (n : Int)).getD t.val 0 = ((Crc.tab.getD t.val 0 : Nat) : Int) := by decide
    exact this ⟨r, hr⟩
  refine ⟨hc, ?_⟩
  have h0 := hc 0 (by decide)
  by_cases hlt : 0 < W.heap.size
  · exact hlt
  · have : W.heap[0]? = none := Array.getElem?_eq_none (by omega)
    simp [World.cell?, this] at h0
end Go.Proofs.YtlgefkaafoidmaaGreatDoor
