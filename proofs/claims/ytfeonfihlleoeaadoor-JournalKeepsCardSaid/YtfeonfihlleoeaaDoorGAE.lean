/- Numbers as bytes of fixed width, most significant first; both ways. No program is named. The sum of bytes: the table's four-bit steps are the definition's single steps; each step is one to one. No program is named. Frames and readers of bytes: the plain law. No program is named. -/
import Derived.Test.YtfeonfihlleoeaaDoorGAA
namespace Go.Proofs.YtfeonfihlleoeaaDoor

/-- a number's w last bytes -/
def be : Nat → Nat → List UInt8
  | 0, _ => []
  | w + 1, n => be w (n / 256) ++ [UInt8.ofNat n]
/-- the number that bytes say -/
def nb (l : List UInt8) : Nat := l.foldl (fun a b => a * 256 + b.toNat) 0
theorem be_length (w n : Nat) : (be w n).length = w := by
  induction w generalizing n with
  | zero => rfl
  | succ w ih => simp [be, ih]
theorem nb_snoc (l : List UInt8) (b : UInt8) : nb (l ++ [b]) = nb l * 256 + b.toNat := by simp [nb]
theorem nb_nil : nb [] = 0 := rfl
theorem byte_of (n : Nat) : (UInt8.ofNat n).toNat = n % 256 := by simp
theorem rev_ind {P : List UInt8 → Prop} (h0 : P []) (h1 : ∀ l b, P l → P (l ++ [b])) : ∀ l, P l := by
  have key : ∀ (n : Nat) (l : List UInt8), l.length = n → P l := by
    intro n
    induction n with
    | zero => intro l h; rw [List.length_eq_zero_iff.1 h]; exact h0
    | succ n ih =>
      intro l h
      have hne : l ≠ [] := by intro e; subst e; simp at h
      rw [← List.dropLast_concat_getLast hne]
      exact h1 _ _ (ih _ (by simp [h]))
  exact fun l => key _ l rfl
theorem nb_be (w n : Nat) : nb (be w n) = n % 256 ^ w := by
  induction w generalizing n with
  | zero => simp [be, nb, Nat.mod_one]
  | succ w ih =>
    rw [be, nb_snoc, ih, byte_of, Nat.pow_succ, Nat.mul_comm (256 ^ w) 256, Nat.mod_mul]
    omega
theorem nb_lt (l : List UInt8) : nb l < 256 ^ l.length := by
  refine rev_ind (P := fun l => nb l < 256 ^ l.length) (by simp [nb]) (fun l b ih => ?_) l
  · show nb (l ++ [b]) < 256 ^ (l ++ [b]).length
    rw [nb_snoc, List.length_append, List.length_singleton, Nat.pow_succ]
    have := b.toNat_lt
    have h2 : (nb l + 1) * 256 ≤ 256 ^ l.length * 256 := Nat.mul_le_mul_right _ ih
    omega
theorem be_nb (l : List UInt8) : be l.length (nb l) = l := by
  refine rev_ind (P := fun l => be l.length (nb l) = l) rfl (fun l b ih => ?_) l
  · show be (l ++ [b]).length (nb (l ++ [b])) = l ++ [b]
    rw [List.length_append, List.length_singleton, be, nb_snoc]
    have hb := b.toNat_lt
    have h1 : (nb l * 256 + b.toNat) / 256 = nb l := by omega
    have h2 : UInt8.ofNat (nb l * 256 + b.toNat) = b := by
      apply UInt8.toNat_inj.1
      rw [byte_of]
      omega
    rw [h1, h2, ih]
/-- byte i of w -/
theorem be_at (w n i : Nat) (h : i < w) : (be w n)[i]'(by rw [be_length]; exact h) = UInt8.ofNat (n / 256 ^ (w - 1 - i)) := by
  induction w generalizing n with
  | zero => omega
  | succ w ih =>
    simp only [be]
    rcases Nat.lt_or_ge i w with g | g
    · rw [List.getElem_append_left (by rw [be_length]; exact g), ih (n / 256) g, Nat.div_div_eq_div_mul]
      have : 256 * 256 ^ (w - 1 - i) = 256 ^ (w + 1 - 1 - i) := by
        rw [show w + 1 - 1 - i = (w - 1 - i) + 1 by omega, Nat.pow_succ, Nat.mul_comm]
      rw [this]
    · obtain rfl : i = w := by omega
      rw [List.getElem_append_right (by rw [be_length]; exact Nat.le_refl _)]
      simp [be_length]
theorem be_take_succ (w n k : Nat) (h : k < w) : (be w n).take (k + 1) = (be w n).take k ++ [UInt8.ofNat (n / 256 ^ (w - 1 - k))] := by
  rw [List.take_succ_eq_append_getElem (by rw [be_length]; exact h), be_at w n k h]
end Go.Proofs.YtfeonfihlleoeaaDoor
namespace Go.Proofs.YtfeonfihlleoeaaDoor

namespace Crc
def poly : BitVec 32 := 2197175160#32
def s1 (r : BitVec 32) : BitVec 32 := if r.getLsbD 0 then (r >>> 1) ^^^ poly else r >>> 1
def s4 (r : BitVec 32) : BitVec 32 := s1 (s1 (s1 (s1 r)))
def tab : List Nat := [0, 274646895, 549293790, 820201905, 1098587580, 1361435347, 1640403810, 1905808397, 2197175160, 2460548119, 2722870694, 2987750089, 3280807620, 3553878443, 3811616794, 4084100981]
theorem s1_xor (a b : BitVec 32) : s1 (a ^^^ b) = s1 a ^^^ s1 b := by
  unfold s1
  rw [BitVec.getLsbD_xor, BitVec.ushiftRight_xor_distrib]
  cases a.getLsbD 0 <;> cases b.getLsbD 0 <;> simp
  · rw [BitVec.xor_assoc]
  · rw [BitVec.xor_assoc, BitVec.xor_assoc, BitVec.xor_comm (b >>> 1)]
  · rw [BitVec.xor_assoc, ← BitVec.xor_assoc poly, BitVec.xor_comm poly, BitVec.xor_assoc (b >>> 1), BitVec.xor_self, BitVec.xor_zero]
theorem s4_xor (a b : BitVec 32) : s4 (a ^^^ b) = s4 a ^^^ s4 b := by unfold s4; rw [s1_xor, s1_xor, s1_xor, s1_xor]
theorem s1_even {r : BitVec 32} (h : r.getLsbD 0 = false) : s1 r = r >>> 1 := by unfold s1; rw [h]; rfl
theorem s4_high (r : BitVec 32) (h : ∀ i, i < 4 → r.getLsbD i = false) : s4 r = r >>> 4 := by
  have k : ∀ (j : Nat), j < 4 → (r >>> j).getLsbD 0 = false := fun j hj => by rw [BitVec.getLsbD_ushiftRight]; exact h _ (by omega)
  have e1 : s1 r = r >>> 1 := s1_even (h 0 (by omega))
  have e2 : s1 (r >>> 1) = r >>> 2 := by rw [s1_even (k 1 (by omega)), ← BitVec.shiftRight_add]
  have e3 : s1 (r >>> 2) = r >>> 3 := by rw [s1_even (k 2 (by omega)), ← BitVec.shiftRight_add]
  have e4 : s1 (r >>> 3) = r >>> 4 := by rw [s1_even (k 3 (by omega)), ← BitVec.shiftRight_add]
  unfold s4
  rw [e1, e2, e3, e4]
theorem tab_s4 : ∀ t : Fin 16, s4 (BitVec.ofNat 32 t.val) = BitVec.ofNat 32 (tab.getD t.val 0) := by decide +kernel
theorem split (r : BitVec 32) : r = (r >>> 4 <<< 4) ^^^ BitVec.ofNat 32 (r.toNat % 16) := by
  apply BitVec.eq_of_getLsbD_eq
  intro i hi
  have e : (BitVec.ofNat 32 (r.toNat % 16)).getLsbD i = (decide (i < 4) && r.getLsbD i) := by
    rw [BitVec.getLsbD_ofNat]
    have : r.toNat % 16 = r.toNat % 2 ^ 4 := rfl
    rw [this, Nat.testBit_mod_two_pow]
    simp only [hi, decide_true, Bool.true_and]
    rfl
  rw [BitVec.getLsbD_xor, BitVec.getLsbD_shiftLeft, BitVec.getLsbD_ushiftRight, e]
  by_cases h : i < 4
  · simp [h]
  · simp [h, hi, show 4 + (i - 4) = i by omega]
theorem high_low (r : BitVec 32) : ∀ i, i < 4 → (r >>> 4 <<< 4).getLsbD i = false := fun i hi => by rw [BitVec.getLsbD_shiftLeft]; simp [hi]
theorem high_shift (r : BitVec 32) : (r >>> 4 <<< 4) >>> 4 = r >>> 4 := by
  apply BitVec.eq_of_getLsbD_eq
  intro i hi
  rw [BitVec.getLsbD_ushiftRight, BitVec.getLsbD_shiftLeft, BitVec.getLsbD_ushiftRight]
  by_cases h : 4 + i < 32
  · simp [h]
  · have : r.getLsbD (4 + i) = false := BitVec.getLsbD_of_ge r _ (by omega)
    simp [h, this]
/-- four single steps are one look into the table -/
theorem nib (r : BitVec 32) : (r >>> 4) ^^^ BitVec.ofNat 32 (tab.getD (r.toNat % 16) 0) = s4 r := by
  have h := tab_s4 ⟨r.toNat % 16, Nat.mod_lt _ (by decide)⟩
  conv => rhs; rw [split r]
  rw [s4_xor, s4_high _ (high_low r), high_shift, h]

theorem s1_inj {a b : BitVec 32} (h : s1 a = s1 b) : a = b := by
  have top : ∀ r : BitVec 32, (s1 r).getLsbD 31 = r.getLsbD 0 := fun r => by
    unfold s1
    have hz : (r >>> 1).getLsbD 31 = false := by rw [BitVec.getLsbD_ushiftRight]; exact BitVec.getLsbD_of_ge r _ (by omega)
    cases h0 : r.getLsbD 0
    · simp only [Bool.false_eq_true, if_false]; exact hz
    · simp only [if_true]
      rw [BitVec.getLsbD_xor, hz]
      decide
  have h0 : a.getLsbD 0 = b.getLsbD 0 := by rw [← top, ← top, h]
  have hs : a >>> 1 = b >>> 1 := by
    unfold s1 at h
    rw [h0] at h
    cases hb : b.getLsbD 0
    · rw [hb] at h; simpa using h
    · rw [hb] at h
      simp only [if_true] at h
      have h2 := congrArg (· ^^^ poly) h
      simpa [BitVec.xor_assoc] using h2
  apply BitVec.eq_of_getLsbD_eq
  intro i hi
  cases i with
  | zero => exact h0
  | succ i =>
    have := congrArg (fun x => x.getLsbD i) hs
    simp only [BitVec.getLsbD_ushiftRight] at this
    rwa [Nat.add_comm] at this
theorem s4_inj {a b : BitVec 32} (h : s4 a = s4 b) : a = b := s1_inj (s1_inj (s1_inj (s1_inj h)))

/-- what becomes of the register by one byte -/
def stepB (r : BitVec 32) (c : UInt8) : BitVec 32 := s4 (s4 (r ^^^ BitVec.ofNat 32 c.toNat))
def reg (r : BitVec 32) (l : List UInt8) : BitVec 32 := l.foldl stepB r
def sum (l : List UInt8) : BitVec 32 := ~~~ reg (BitVec.allOnes 32) l
theorem xor_right_inj {a b c : BitVec 32} (h : a ^^^ c = b ^^^ c) : a = b := by
  have := congrArg (· ^^^ c) h
  simpa [BitVec.xor_assoc] using this
theorem step_inj {a b : BitVec 32} {c : UInt8} (h : stepB a c = stepB b c) : a = b := xor_right_inj (s4_inj (s4_inj h))
theorem step_byte {r : BitVec 32} {c d : UInt8} (h : stepB r c = stepB r d) : c = d := by
  have h1 := s4_inj (s4_inj h)
  rw [BitVec.xor_comm, BitVec.xor_comm r] at h1
  have h2 := xor_right_inj h1
  have h3 := congrArg BitVec.toNat h2
  simp only [BitVec.toNat_ofNat] at h3
  have hc : c.toNat < 256 := c.toNat_lt
  have hd : d.toNat < 256 := d.toNat_lt
  have : c.toNat = d.toNat := by omega
  exact UInt8.toNat_inj.1 this
theorem reg_inj {l : List UInt8} : ∀ {a b : BitVec 32}, reg a l = reg b l → a = b := by
  induction l with
  | nil => intro a b h; exact h
  | cons c l ih => intro a b h; exact step_inj (ih h)
/-- one byte that turns turns the sum -/
theorem sum_turn {a b : List UInt8} {c d : UInt8} (h : sum (a ++ c :: b) = sum (a ++ d :: b)) : c = d := by
  have h1 : reg (BitVec.allOnes 32) (a ++ c :: b) = reg (BitVec.allOnes 32) (a ++ d :: b) := by
    have := congrArg (fun x => ~~~ x) h
    simpa [sum] using this
  unfold reg at h1
  simp only [List.foldl_append, List.foldl_cons] at h1
  exact step_byte (reg_inj (l := b) h1)
end Crc
end Go.Proofs.YtfeonfihlleoeaaDoor
namespace Go.Proofs.YtfeonfihlleoeaaDoor

def le4 (s : Nat) : List UInt8 := [UInt8.ofNat s, UInt8.ofNat (s / 256), UInt8.ofNat (s / 65536), UInt8.ofNat (s / 16777216)]
def tailB (l : List UInt8) : List UInt8 := le4 (Crc.sum l).toNat
def hdr (k n : Nat) : List UInt8 := 90 :: UInt8.ofNat k :: be 2 n
def frm (k : Nat) (b : List UInt8) : List UInt8 := hdr k b.length ++ tailB (hdr k b.length) ++ b ++ tailB b
def byteAt (l : List UInt8) (i : Nat) : Nat := (l.getD i 0).toNat
structure NextR where
  kind : Nat
  body : List UInt8
  rest : List UInt8
  e : Nat
def nextB (b : List UInt8) : NextR :=
  if b.length < 8 then ⟨0, [], [], 10⟩
  else if byteAt b 0 ≠ 90 then ⟨0, [], [], 11⟩
  else if tailB (b.take 4) ≠ (b.drop 4).take 4 then ⟨0, [], [], 20⟩
  else if 8192 < byteAt b 2 * 256 + byteAt b 3 then ⟨0, [], [], 11⟩
  else if b.length < byteAt b 2 * 256 + byteAt b 3 + 12 then ⟨0, [], [], 10⟩
  else if tailB ((b.drop 8).take (byteAt b 2 * 256 + byteAt b 3)) ≠ (b.drop (8 + (byteAt b 2 * 256 + byteAt b 3))).take 4 then ⟨0, [], [], 20⟩
  else ⟨byteAt b 1, (b.drop 8).take (byteAt b 2 * 256 + byteAt b 3), b.drop (8 + (byteAt b 2 * 256 + byteAt b 3) + 4), 0⟩

theorem le4_length (s : Nat) : (le4 s).length = 4 := rfl
theorem tailB_length (l : List UInt8) : (tailB l).length = 4 := rfl
theorem hdr_length (k n : Nat) : (hdr k n).length = 4 := by simp [hdr, be_length]
theorem frm_length (k : Nat) (b : List UInt8) : (frm k b).length = b.length + 12 := by
  simp only [frm, List.length_append, hdr_length, tailB_length]; omega
theorem le4_inj {s t : Nat} (hs : s < 4294967296) (ht : t < 4294967296) (h : le4 s = le4 t) : s = t := by
  simp only [le4, List.cons.injEq, and_true] at h
  have e : ∀ a b : Nat, UInt8.ofNat a = UInt8.ofNat b → a % 256 = b % 256 := fun a b hh => by
    have := congrArg UInt8.toNat hh
    simpa using this
  have h0 := e _ _ h.1
  have h1 := e _ _ h.2.1
  have h2 := e _ _ h.2.2.1
  have h3 := e _ _ h.2.2.2
  omega
theorem tailB_inj {a b : List UInt8} (h : tailB a = tailB b) : Crc.sum a = Crc.sum b :=
  BitVec.eq_of_toNat_eq (le4_inj (Crc.sum a).isLt (Crc.sum b).isLt h)
theorem be2 (n : Nat) : be 2 n = [UInt8.ofNat (n / 256), UInt8.ofNat n] := rfl
theorem hdr_eq (k n : Nat) : hdr k n = [90, UInt8.ofNat k, UInt8.ofNat (n / 256), UInt8.ofNat n] := rfl

theorem next_frm_gen (k : Nat) (b r : List UInt8) (hk : k < 256) (hb : b.length ≤ 8192) : nextB (frm k b ++ r) = ⟨k, b, r, 0⟩ := by
  have hn : byteAt (frm k b ++ r) 2 * 256 + byteAt (frm k b ++ r) 3 = b.length := by
    simp [byteAt, frm, hdr_eq]
    omega
  have h0 : byteAt (frm k b ++ r) 0 = 90 := by simp [byteAt, frm, hdr_eq]
  have h1 : byteAt (frm k b ++ r) 1 = k := by simp [byteAt, frm, hdr_eq]; omega
  have hl : (frm k b ++ r).length = b.length + 12 + r.length := by simp [frm_length]
  have t4 : (frm k b ++ r).take 4 = hdr k b.length := by
    simp only [frm, List.append_assoc]
    exact List.take_left' (hdr_length k _)
  have d4 : (frm k b ++ r).drop 4 = tailB (hdr k b.length) ++ (b ++ (tailB b ++ r)) := by
    simp only [frm, List.append_assoc]
    exact List.drop_left' (hdr_length k _)
  have t44 : ((frm k b ++ r).drop 4).take 4 = tailB (hdr k b.length) := by
    rw [d4]
    exact List.take_left' (tailB_length _)
  have d8 : (frm k b ++ r).drop 8 = b ++ (tailB b ++ r) := by
    rw [show (8 : Nat) = 4 + 4 from rfl, ← List.drop_drop, d4]
    exact List.drop_left' (tailB_length _)
  have db : (frm k b ++ r).drop (8 + b.length) = tailB b ++ r := by
    rw [← List.drop_drop, d8]
    exact List.drop_left' rfl
  have db4 : (frm k b ++ r).drop (8 + b.length + 4) = r := by
    rw [← List.drop_drop, db]
    exact List.drop_left' (tailB_length _)
  unfold nextB
  rw [hn, h0, h1, hl, t4, t44, d8, db, db4, if_neg (by omega), if_neg (by omega), if_neg (by simp), if_neg (by omega), if_neg (by omega), if_neg]
  · rw [List.take_left' rfl]
  · rw [List.take_left' rfl, List.take_left' (tailB_length _)]
    simp
theorem next_frm (k : Nat) (b : List UInt8) (hk : k < 256) (hb : b.length ≤ 8192) : nextB (frm k b) = ⟨k, b, [], 0⟩ := by
  have := next_frm_gen k b [] hk hb
  simpa using this

/-! A reader of bytes: what is left, and the first error (0: none). -/
structure Rd where
  l : List UInt8
  e : Nat
namespace Rd
def take (n : Nat) (r : Rd) : List UInt8 × Rd := if r.e ≠ 0 then ([], r) else if r.l.length < n then ([], ⟨[], 10⟩) else (r.l.take n, ⟨r.l.drop n, 0⟩)
def num (w : Nat) (r : Rd) : Nat × Rd := (nb (r.take w).1, (r.take w).2)
def fail (x : Nat) (r : Rd) : Rd := if r.e = 0 ∧ x ≠ 0 then ⟨[], x⟩ else r
def blob (most : Nat) (r : Rd) : List UInt8 × Rd :=
  if most < (r.num 2).1 then ([], (r.num 2).2.fail 11) else (r.num 2).2.take (r.num 2).1
def fin (r : Rd) : Rd := if 0 < r.l.length then r.fail 11 else r
/-- an error leaves no bytes -/
def ok (r : Rd) : Prop := r.e ≠ 0 → r.l = []
theorem ok_mk (l : List UInt8) : ok ⟨l, 0⟩ := fun h => absurd rfl h
theorem take_ok {r : Rd} (h : r.ok) (n : Nat) : (r.take n).2.ok := by
  unfold take
  split
  · exact h
  · split
    · exact fun _ => rfl
    · exact fun h => absurd rfl h
theorem fail_ok {r : Rd} (h : r.ok) (x : Nat) : (r.fail x).ok := by
  unfold fail
  split
  · exact fun _ => rfl
  · exact h
theorem num_ok {r : Rd} (h : r.ok) (w : Nat) : (r.num w).2.ok := take_ok h w
theorem blob_ok {r : Rd} (h : r.ok) (m : Nat) : (r.blob m).2.ok := by
  unfold blob
  split
  · exact fail_ok (num_ok h 2) 11
  · exact take_ok (num_ok h 2) _
theorem take_len (r : Rd) (n : Nat) : (r.take n).1.length ≤ r.l.length ∧ (r.take n).1.length ≤ n ∧ (r.take n).2.l.length ≤ r.l.length := by
  unfold take
  split
  · simp
  · split
    · simp
    · simp
      omega
theorem num_len (r : Rd) (w : Nat) : (r.num w).2.l.length ≤ r.l.length := (take_len r w).2.2
theorem fail_len (r : Rd) (x : Nat) : (r.fail x).l.length ≤ r.l.length := by
  unfold fail
  split
  · simp
  · exact Nat.le_refl _
theorem num_lt (r : Rd) (w : Nat) : (r.num w).1 < 256 ^ w := by
  have h := nb_lt (r.take w).1
  exact Nat.lt_of_lt_of_le h (Nat.pow_le_pow_right (by decide) (take_len r w).2.1)
theorem blob_len (r : Rd) (m : Nat) : (r.blob m).1.length ≤ m ∧ (r.blob m).2.l.length ≤ r.l.length := by
  unfold blob
  split
  · exact ⟨by simp, Nat.le_trans (fail_len _ _) (num_len r 2)⟩
  · have h := take_len (r.num 2).2 (r.num 2).1
    exact ⟨by omega, Nat.le_trans h.2.2 (num_len r 2)⟩
theorem num_be (w n : Nat) (l : List UInt8) (hn : n < 256 ^ w) : num w ⟨be w n ++ l, 0⟩ = (n, ⟨l, 0⟩) := by
  unfold num take
  have hl : ¬ (be w n ++ l).length < w := by simp [be_length]
  simp only [ne_eq, not_true_eq_false, if_false, hl]
  rw [List.take_left' (be_length w n), List.drop_left' (be_length w n), nb_be, Nat.mod_eq_of_lt hn]
theorem blob_be (m : Nat) (x l : List UInt8) (hx : x.length ≤ m) (hm : x.length < 65536) : blob m ⟨be 2 x.length ++ (x ++ l), 0⟩ = (x, ⟨l, 0⟩) := by
  unfold blob
  rw [num_be 2 _ _ (by simpa using hm)]
  rw [if_neg (by simpa using hx)]
  unfold take
  simp
end Rd
end Go.Proofs.YtfeonfihlleoeaaDoor
