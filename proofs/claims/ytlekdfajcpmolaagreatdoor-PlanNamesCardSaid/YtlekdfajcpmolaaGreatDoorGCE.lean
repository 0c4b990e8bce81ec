/- The walks of slices.Equal at bytes, frame.sealed, frame.Next. Bits of int: a byte put behind a number. No program is named. -/
import Derived.Test.YtlekdfajcpmolaaGreatDoorPut
import Derived.Test.YtlekdfajcpmolaaGreatDoorGAA
import Derived.Test.YtlekdfajcpmolaaGreatDoorGAE
import Derived.Laws.BitsAllLaws
import Derived.Laws.BitsLemmas
namespace Go.Proofs.YtlekdfajcpmolaaGreatDoor
open Go.RowKit

theorem RB.cell {A : Nat → Prop} {w : World} {a : Option Addr} {c : Nat} {l : List UInt8} (h : RB A w (.slice a l.length c) l) {k : Nat} (hk : k < l.length) : ∃ b off, a = some ⟨b, off, none⟩ ∧ b < w.heap.size ∧ A b ∧ w.cell? ⟨b, off + k, none⟩ = some (.int .u8 (l[k].toNat : Int)) := by
  obtain ⟨b, off, rfl, h1, h2, h3, h4⟩ := SlA.at h (by omega)
  refine ⟨b, off, rfl, h1, h2, ?_⟩
  rw [h4 k (by omega), List.getElem?_map, List.getElem?_eq_getElem hk]
  rfl
theorem RB.take {A : Nat → Prop} {w : World} {b off c n : Nat} {l : List UInt8} (h : RB A w (.slice (some ⟨b, off, none⟩) l.length c) l) (hn : n ≤ l.length) (c' : Nat) (hc : n ≤ c') (hz : 0 < l.length := by first | omega | (simp; omega)) : RB A w (.slice (some ⟨b, off, none⟩) n c') (l.take n) := by
  have hl : (l.take n).length = n := by simp; omega
  rcases h.2 with ⟨⟨a0, e⟩, h0⟩ | ⟨b1, o1, c1, e, hb, hA, h1, hx⟩
  · simp only [Value.slice.injEq] at e
    omega
  · simp only [Value.slice.injEq, Option.some.injEq, Addr.mk.injEq] at e
    obtain ⟨⟨rfl, rfl, -⟩, -, rfl⟩ := e
    refine ⟨by simp, .inr ⟨b, off, c', by rw [hl], hb, hA, by rw [hl]; exact hc, fun j hj => ?_⟩⟩
    rw [hl] at hj
    rw [hx j (by omega), List.map_take, List.getElem?_take, if_pos (by omega)]
theorem RB.drop {A : Nat → Prop} {w : World} {b off c n : Nat} {l : List UInt8} (h : RB A w (.slice (some ⟨b, off, none⟩) l.length c) l) (hn : n ≤ l.length) (c' : Nat) (hc : l.length - n ≤ c') (hz : 0 < l.length := by first | omega | (simp; omega)) : RB A w (.slice (some ⟨b, off + n, none⟩) (l.length - n) c') (l.drop n) := by
  have hl : (l.drop n).length = l.length - n := by simp
  rcases h.2 with ⟨⟨a0, e⟩, h0⟩ | ⟨b1, o1, c1, e, hb, hA, h1, hx⟩
  · simp only [Value.slice.injEq] at e
    omega
  · simp only [Value.slice.injEq, Option.some.injEq, Addr.mk.injEq] at e
    obtain ⟨⟨rfl, rfl, -⟩, -, rfl⟩ := e
    refine ⟨by simp, .inr ⟨b, off + n, c', by rw [hl], hb, hA, by rw [hl]; exact hc, fun j hj => ?_⟩⟩
    rw [hl] at hj
    rw [Nat.add_assoc, hx (n + j) (by omega), List.map_drop, List.getElem?_drop]
theorem RB.empty_at {A : Nat → Prop} {w : World} {b off c : Nat} (hb : b < w.heap.size) (hA : A b) : RB A w (.slice (some ⟨b, off, none⟩) 0 c) [] :=
  ⟨by simp, .inr ⟨b, off, c, rfl, hb, hA, by simp, fun j hj => by simp at hj⟩⟩
theorem RB.drop' {A : Nat → Prop} {w : World} {b off c n : Nat} {l : List UInt8} (h : RB A w (.slice (some ⟨b, off, none⟩) l.length c) l) (hn : n ≤ l.length) (c' : Nat) (hc : l.length - n ≤ c') (hb : b < w.heap.size) (hA : A b) : RB A w (.slice (some ⟨b, off + n, none⟩) (l.length - n) c') (l.drop n) := by
  rcases Nat.eq_zero_or_pos l.length with h0 | h0
  · obtain rfl := List.eq_nil_of_length_eq_zero h0
    simp only [List.length_nil, List.drop_nil, Nat.zero_sub]
    exact RB.empty_at hb hA
  · exact RB.drop h hn c' hc h0
theorem RB.len {A : Nat → Prop} {w : World} {a : Option Addr} {c n : Nat} {l : List UInt8} (h : RB A w (.slice a n c) l) : l.length = n := by
  obtain ⟨a', c', e⟩ := h.shape
  simp only [Value.slice.injEq] at e
  exact e.2.1.symm
end Go.Proofs.YtlekdfajcpmolaaGreatDoor
namespace Go.Proofs.YtlekdfajcpmolaaGreatDoor
theorem ofInt_i64 (a : Nat) (ha : a < 9223372036854775808) : (BitVec.ofInt 64 (a : Int)).toNat = a := by
  rw [BitVec.ofInt_natCast, BitVec.toNat_ofNat]; exact Nat.mod_eq_of_lt (by omega)
theorem i64_or_nat (a b : Nat) (ha : a < 9223372036854775808) (hb : b < 9223372036854775808) : bits .or .i64 (a : Int) (b : Int) = ((a ||| b : Nat) : Int) := by
  have hx : a ||| b < 2 ^ 63 := Nat.or_lt_two_pow (by omega) (by omega)
  show IntKind.i64.wrap ((BitVec.ofInt 64 (a : Int) ||| BitVec.ofInt 64 (b : Int)).toNat : Int) = _
  rw [BitVec.toNat_or, ofInt_i64 a ha, ofInt_i64 b hb, IntKind.wrap_i64]
  omega
theorem i64_and_nat (a b : Nat) (ha : a < 9223372036854775808) (hb : b < 9223372036854775808) : bits .and .i64 (a : Int) (b : Int) = ((a &&& b : Nat) : Int) := by
  have hx : a &&& b < 2 ^ 63 := Nat.and_lt_two_pow _ (by omega)
  show IntKind.i64.wrap ((BitVec.ofInt 64 (a : Int) &&& BitVec.ofInt 64 (b : Int)).toNat : Int) = _
  rw [BitVec.toNat_and, ofInt_i64 a ha, ofInt_i64 b hb, IntKind.wrap_i64]
  omega
/-- a byte behind a number -/
theorem or_byte (a c : Nat) (hc : c < 256) (ha : a < 36028797018963968) : bits .or .i64 ((a : Int) * 256) (c : Int) = ((a * 256 + c : Nat) : Int) := by
  have e : ((a : Int) * 256) = ((a * 256 : Nat) : Int) := by omega
  rw [e, i64_or_nat _ _ (by omega) (by omega)]
  have h := Nat.shiftLeft_add_eq_or_of_lt (i := 8) (b := c) (by omega) a
  rw [Nat.shiftLeft_eq] at h
  rw [show a * 256 = a * 2 ^ 8 from rfl, ← h]
end Go.Proofs.YtlekdfajcpmolaaGreatDoor
