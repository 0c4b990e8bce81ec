/- Numbers as bytes of fixed width, most significant first; both ways. No program is named. The sum of bytes: the table's four-bit steps are the definition's single steps; each step is one to one. No program is named. Frames and readers of bytes: the plain law. No program is named. -/
import Derived.Test.YtlekdfajcpmolaaGreatDoorGAA
namespace Go.Proofs.YtlekdfajcpmolaaGreatDoor

/-- a number's w last bytes -/
def be : Nat → Nat → List UInt8
  | 0, _ => []
  | w + 1, n => be w (n / 256) ++ [UInt8.ofNat n]
/-- the number that bytes say -/
def nb (l : List UInt8) : Nat := l.foldl (fun a b => a * 256 + b.toNat) 0
theorem be_length (w n : Nat) : (be w n).length = w := by
  induction w generalizing n with
  | zero => rfl
  | succ w ih => simp [be, ih]
theorem nb_snoc (l : List UInt8) (b : UInt8) : nb (l ++ [b]) = nb l * 256 + b.toNat := by simp [nb]
theorem byte_of (n : Nat) : (UInt8.ofNat n).toNat = n % 256 := by simp
theorem rev_ind {P : List UInt8 → Prop} (h0 : P []) (h1 : ∀ l b, P l → P (l ++ [b])) : ∀ l, P l := by
  have key : ∀ (n : Nat) (l : List UInt8), l.length = n → P l := by
    intro n
    induction n with
    | zero => intro l h; rw [List.length_eq_zero_iff.1 h]; exact h0
    | succ n ih =>
      intro l h
      have hne : l ≠ [] := by intro e; subst e; simp at h
      rw [← List.dropLast_concat_getLast hne]
      exact h1 _ _ (ih _ (by simp [h]))
  exact fun l => key _ l rfl
theorem nb_be (w n : Nat) : nb (be w n) = n % 256 ^ w := by
  induction w generalizing n with
  | zero => simp [be, nb, Nat.mod_one]
  | succ w ih =>
    rw [be, nb_snoc, ih, byte_of, Nat.pow_succ, Nat.mul_comm (256 ^ w) 256, Nat.mod_mul]
    omega
theorem nb_lt (l : List UInt8) : nb l < 256 ^ l.length := by
  refine rev_ind (P := fun l => nb l < 256 ^ l.length) (by simp [nb]) (fun l b ih => ?_) l
  · show nb (l ++ [b]) < 256 ^ (l ++ [b]).length
    rw [nb_snoc, List.length_append, List.length_singleton, Nat.pow_succ]
    have := b.toNat_lt
    have h2 : (nb l + 1) * 256 ≤ 256 ^ l.length * 256 := Nat.mul_le_mul_right _ ih
    omega
/-- byte i of w -/
theorem be_at (w n i : Nat) (h : i < w) : (be w n)[i]'(by rw [be_length]; exact h) = UInt8.ofNat (n / 256 ^ (w - 1 - i)) := by
  induction w generalizing n with
  | zero => omega
  | succ w ih =>
    simp only [be]
    rcases Nat.lt_or_ge i w with g | g
    · rw [List.getElem_append_left (by rw [be_length]; exact g), ih (n / 256) g, Nat.div_div_eq_div_mul]
      have : 256 * 256 ^ (w - 1 - i) = 256 ^ (w + 1 - 1 - i) := by
        rw [show w + 1 - 1 - i = (w - 1 - i) + 1 by omega, Nat.pow_succ, Nat.mul_comm]
      rw [this]
    · obtain rfl : i = w := by omega
      rw [List.getElem_append_right (by rw [be_length]; exact Nat.le_refl _)]
      simp [be_length]
theorem be_take_succ (w n k : Nat) (h : k < w) : (be w n).take (k + 1) = (be w n).take k ++ [UInt8.ofNat (n / 256 ^ (w - 1 - k))] := by
  rw [List.take_succ_eq_append_getElem (by rw [be_length]; exact h), be_at w n k h]
end Go.Proofs.YtlekdfajcpmolaaGreatDoor
namespace Go.Proofs.YtlekdfajcpmolaaGreatDoor

namespace Crc
def poly : BitVec 32 := 2197175160#32
def s1 (r : BitVec 32) : BitVec 32 := if r.getLsbD 0 then (r >>> 1) ^^^ poly else r >>> 1
def s4 (r : BitVec 32) : BitVec 32 := s1 (s1 (s1 (s1 r)))
theorem split (r : BitVec 32) : r = (r >>> 4 <<< 4) ^^^ BitVec.ofNat 32 (r.toNat % 16) := by
  apply BitVec.eq_of_getLsbD_eq
  intro i hi
  have e : (BitVec.ofNat 32 (r.toNat % 16)).getLsbD i = (decide (i < 4) && r.getLsbD i) := by
    rw [BitVec.getLsbD_ofNat]
    have : r.toNat % 16 = r.toNat % 2 ^ 4 := rfl
    rw [this, Nat.testBit_mod_two_pow]
    simp only [hi, decide_true, Bool.true_and]
    rfl
  rw [BitVec.getLsbD_xor, BitVec.getLsbD_shiftLeft, BitVec.getLsbD_ushiftRight, e]
  by_cases h : i < 4
  · simp [h]
  · simp [h, hi, show 4 + (i - 4) = i by omega]
/-- what becomes of the register by one byte -/
def stepB (r : BitVec 32) (c : UInt8) : BitVec 32 := s4 (s4 (r ^^^ BitVec.ofNat 32 c.toNat))
def reg (r : BitVec 32) (l : List UInt8) : BitVec 32 := l.foldl stepB r
def sum (l : List UInt8) : BitVec 32 := ~~~ reg (BitVec.allOnes 32) l
end Crc
end Go.Proofs.YtlekdfajcpmolaaGreatDoor
namespace Go.Proofs.YtlekdfajcpmolaaGreatDoor

structure NextR where
  kind : Nat
  body : List UInt8
  rest : List UInt8
  e : Nat
/-! A reader of bytes: what is left, and the first error (0: none). -/
structure Rd where
  l : List UInt8
  e : Nat
namespace Rd
def take (n : Nat) (r : Rd) : List UInt8 × Rd := if r.e ≠ 0 then ([], r) else if r.l.length < n then ([], ⟨[], 10⟩) else (r.l.take n, ⟨r.l.drop n, 0⟩)
def num (w : Nat) (r : Rd) : Nat × Rd := (nb (r.take w).1, (r.take w).2)
def fail (x : Nat) (r : Rd) : Rd := if r.e = 0 ∧ x ≠ 0 then ⟨[], x⟩ else r
def blob (most : Nat) (r : Rd) : List UInt8 × Rd :=
  if most < (r.num 2).1 then ([], (r.num 2).2.fail 11) else (r.num 2).2.take (r.num 2).1
def fin (r : Rd) : Rd := if 0 < r.l.length then r.fail 11 else r
/-- an error leaves no bytes -/
def ok (r : Rd) : Prop := r.e ≠ 0 → r.l = []
theorem take_len (r : Rd) (n : Nat) : (r.take n).1.length ≤ r.l.length ∧ (r.take n).1.length ≤ n ∧ (r.take n).2.l.length ≤ r.l.length := by
  unfold take
  split
  · simp
  · split
    · simp
    · simp
      omega
theorem num_len (r : Rd) (w : Nat) : (r.num w).2.l.length ≤ r.l.length := (take_len r w).2.2
theorem fail_len (r : Rd) (x : Nat) : (r.fail x).l.length ≤ r.l.length := by
  unfold fail
  split
  · simp
  · exact Nat.le_refl _
theorem num_lt (r : Rd) (w : Nat) : (r.num w).1 < 256 ^ w := by
  have h := nb_lt (r.take w).1
  exact Nat.lt_of_lt_of_le h (Nat.pow_le_pow_right (by decide) (take_len r w).2.1)
theorem blob_len (r : Rd) (m : Nat) : (r.blob m).1.length ≤ m ∧ (r.blob m).2.l.length ≤ r.l.length := by
  unfold blob
  split
  · exact ⟨by simp, Nat.le_trans (fail_len _ _) (num_len r 2)⟩
  · have h := take_len (r.num 2).2 (r.num 2).1
    exact ⟨by omega, Nat.le_trans h.2.2 (num_len r 2)⟩
theorem num_be (w n : Nat) (l : List UInt8) (hn : n < 256 ^ w) : num w ⟨be w n ++ l, 0⟩ = (n, ⟨l, 0⟩) := by
  unfold num take
  have hl : ¬ (be w n ++ l).length < w := by simp [be_length]
  simp only [ne_eq, not_true_eq_false, if_false, hl]
  rw [List.take_left' (be_length w n), List.drop_left' (be_length w n), nb_be, Nat.mod_eq_of_lt hn]
theorem blob_be (m : Nat) (x l : List UInt8) (hx : x.length ≤ m) (hm : x.length < 65536) : blob m ⟨be 2 x.length ++ (x ++ l), 0⟩ = (x, ⟨l, 0⟩) := by
  unfold blob
  rw [num_be 2 _ _ (by simpa using hm)]
  rw [if_neg (by simpa using hx)]
  unfold take
  simp
end Rd
end Go.Proofs.YtlekdfajcpmolaaGreatDoor
