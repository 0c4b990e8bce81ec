/- Frames and readers of bytes: the plain law. No program is named. -/
import Derived.Test.YtidikciankcopaaDoorNum
import Derived.Test.YtidikciankcopaaDoorCrc
namespace Go.Proofs.YtidikciankcopaaDoor

def le4 (s : Nat) : List UInt8 := [UInt8.ofNat s, UInt8.ofNat (s / 256), UInt8.ofNat (s / 65536), UInt8.ofNat (s / 16777216)]
def tailB (l : List UInt8) : List UInt8 := le4 (Crc.sum l).toNat
def hdr (k n : Nat) : List UInt8 := 90 :: UInt8.ofNat k :: be 2 n
def frm (k : Nat) (b : List UInt8) : List UInt8 := hdr k b.length ++ tailB (hdr k b.length) ++ b ++ tailB b
def byteAt (l : List UInt8) (i : Nat) : Nat := (l.getD i 0).toNat
structure NextR where
  kind : Nat
  body : List UInt8
  rest : List UInt8
  e : Nat
def nextB (b : List UInt8) : NextR :=
  if b.length < 8 then ⟨0, [], [], 10⟩
  else if byteAt b 0 ≠ 90 then ⟨0, [], [], 11⟩
  else if tailB (b.take 4) ≠ (b.drop 4).take 4 then ⟨0, [], [], 20⟩
  else if 8192 < byteAt b 2 * 256 + byteAt b 3 then ⟨0, [], [], 11⟩
  else if b.length < byteAt b 2 * 256 + byteAt b 3 + 12 then ⟨0, [], [], 10⟩
  else if tailB ((b.drop 8).take (byteAt b 2 * 256 + byteAt b 3)) ≠ (b.drop (8 + (byteAt b 2 * 256 + byteAt b 3))).take 4 then ⟨0, [], [], 20⟩
  else ⟨byteAt b 1, (b.drop 8).take (byteAt b 2 * 256 + byteAt b 3), b.drop (8 + (byteAt b 2 * 256 + byteAt b 3) + 4), 0⟩

theorem le4_length (s : Nat) : (le4 s).length = 4 := rfl
theorem tailB_length (l : List UInt8) : (tailB l).length = 4 := rfl
theorem hdr_length (k n : Nat) : (hdr k n).length = 4 := by simp [hdr, be_length]
theorem frm_length (k : Nat) (b : List UInt8) : (frm k b).length = b.length + 12 := by
  simp only [frm, List.length_append, hdr_length, tailB_length]; omega
theorem le4_inj {s t : Nat} (hs : s < 4294967296) (ht : t < 4294967296) (h : le4 s = le4 t) : s = t := by
  simp only [le4, List.cons.injEq, and_true] at h
  have e : ∀ a b : Nat, UInt8.ofNat a = UInt8.ofNat b → a % 256 = b % 256 := fun a b hh => by
    have := congrArg UInt8.toNat hh
    simpa using this
  have h0 := e _ _ h.1
  have h1 := e _ _ h.2.1
  have h2 := e _ _ h.2.2.1
  have h3 := e _ _ h.2.2.2
  omega
theorem tailB_inj {a b : List UInt8} (h : tailB a = tailB b) : Crc.sum a = Crc.sum b :=
  BitVec.eq_of_toNat_eq (le4_inj (Crc.sum a).isLt (Crc.sum b).isLt h)
theorem be2 (n : Nat) : be 2 n = [UInt8.ofNat (n / 256), UInt8.ofNat n] := rfl
theorem hdr_eq (k n : Nat) : hdr k n = [90, UInt8.ofNat k, UInt8.ofNat (n / 256), UInt8.ofNat n] := rfl

theorem next_frm_gen (k : Nat) (b r : List UInt8) (hk : k < 256) (hb : b.length ≤ 8192) : nextB (frm k b ++ r) = ⟨k, b, r, 0⟩ := by
  have hn : byteAt (frm k b ++ r) 2 * 256 + byteAt (frm k b ++ r) 3 = b.length := by
    simp [byteAt, frm, hdr_eq]
    omega
  have h0 : byteAt (frm k b ++ r) 0 = 90 := by simp [byteAt, frm, hdr_eq]
  have h1 : byteAt (frm k b ++ r) 1 = k := by simp [byteAt, frm, hdr_eq]; omega
  have hl : (frm k b ++ r).length = b.length + 12 + r.length := by simp [frm_length]
  have t4 : (frm k b ++ r).take 4 = hdr k b.length := by
    simp only [frm, List.append_assoc]
    exact List.take_left' (hdr_length k _)
  have d4 : (frm k b ++ r).drop 4 = tailB (hdr k b.length) ++ (b ++ (tailB b ++ r)) := by
    simp only [frm, List.append_assoc]
    exact List.drop_left' (hdr_length k _)
  have t44 : ((frm k b ++ r).drop 4).take 4 = tailB (hdr k b.length) := by
    rw [d4]
    exact List.take_left' (tailB_length _)
  have d8 : (frm k b ++ r).drop 8 = b ++ (tailB b ++ r) := by
    rw [show (8 : Nat) = 4 + 4 from rfl, ← List.drop_drop, d4]
    exact List.drop_left' (tailB_length _)
  have db : (frm k b ++ r).drop (8 + b.length) = tailB b ++ r := by
    rw [← List.drop_drop, d8]
    exact List.drop_left' rfl
  have db4 : (frm k b ++ r).drop (8 + b.length + 4) = r := by
    rw [← List.drop_drop, db]
    exact List.drop_left' (tailB_length _)
  unfold nextB
  rw [hn, h0, h1, hl, t4, t44, d8, db, db4, if_neg (by omega), if_neg (by omega), if_neg (by simp), if_neg (by omega), if_neg (by omega), if_neg]
  · rw [List.take_left' rfl]
  · rw [List.take_left' rfl, List.take_left' (tailB_length _)]
    simp
theorem next_frm (k : Nat) (b : List UInt8) (hk : k < 256) (hb : b.length ≤ 8192) : nextB (frm k b) = ⟨k, b, [], 0⟩ := by
  have := next_frm_gen k b [] hk hb
  simpa using this

/-! A reader of bytes: what is left, and the first error (0: none). -/
structure Rd where
  l : List UInt8
  e : Nat
namespace Rd
def take (n : Nat) (r : Rd) : List UInt8 × Rd := if r.e ≠ 0 then ([], r) else if r.l.length < n then ([], ⟨[], 10⟩) else (r.l.take n, ⟨r.l.drop n, 0⟩)
def num (w : Nat) (r : Rd) : Nat × Rd := (nb (r.take w).1, (r.take w).2)
def fail (x : Nat) (r : Rd) : Rd := if r.e = 0 ∧ x ≠ 0 then ⟨[], x⟩ else r
def blob (most : Nat) (r : Rd) : List UInt8 × Rd :=
  if most < (r.num 2).1 then ([], (r.num 2).2.fail 11) else (r.num 2).2.take (r.num 2).1
def fin (r : Rd) : Rd := if 0 < r.l.length then r.fail 11 else r
/-- an error leaves no bytes -/
def ok (r : Rd) : Prop := r.e ≠ 0 → r.l = []
theorem ok_mk (l : List UInt8) : ok ⟨l, 0⟩ := fun h => absurd rfl h
theorem take_ok {r : Rd} (h : r.ok) (n : Nat) : (r.take n).2.ok := by
  unfold take
  split
  · exact h
  · split
    · exact fun _ => rfl
    · exact fun h => absurd rfl h
theorem fail_ok {r : Rd} (h : r.ok) (x : Nat) : (r.fail x).ok := by
  unfold fail
  split
  · exact fun _ => rfl
  · exact h
theorem num_ok {r : Rd} (h : r.ok) (w : Nat) : (r.num w).2.ok := take_ok h w
theorem blob_ok {r : Rd} (h : r.ok) (m : Nat) : (r.blob m).2.ok := by
  unfold blob
  split
  · exact fail_ok (num_ok h 2) 11
  · exact take_ok (num_ok h 2) _
theorem take_len (r : Rd) (n : Nat) : (r.take n).1.length ≤ r.l.length ∧ (r.take n).1.length ≤ n ∧ (r.take n).2.l.length ≤ r.l.length := by
  unfold take
  split
  · simp
  · split
    · simp
    · simp
      omega
theorem num_len (r : Rd) (w : Nat) : (r.num w).2.l.length ≤ r.l.length := (take_len r w).2.2
theorem fail_len (r : Rd) (x : Nat) : (r.fail x).l.length ≤ r.l.length := by
  unfold fail
  split
  · simp
  · exact Nat.le_refl _
theorem num_lt (r : Rd) (w : Nat) : (r.num w).1 < 256 ^ w := by
  have h := nb_lt (r.take w).1
  exact Nat.lt_of_lt_of_le h (Nat.pow_le_pow_right (by decide) (take_len r w).2.1)
theorem blob_len (r : Rd) (m : Nat) : (r.blob m).1.length ≤ m ∧ (r.blob m).2.l.length ≤ r.l.length := by
  unfold blob
  split
  · exact ⟨by simp, Nat.le_trans (fail_len _ _) (num_len r 2)⟩
  · have h := take_len (r.num 2).2 (r.num 2).1
    exact ⟨by omega, Nat.le_trans h.2.2 (num_len r 2)⟩
theorem num_be (w n : Nat) (l : List UInt8) (hn : n < 256 ^ w) : num w ⟨be w n ++ l, 0⟩ = (n, ⟨l, 0⟩) := by
  unfold num take
  have hl : ¬ (be w n ++ l).length < w := by simp [be_length]
  simp only [ne_eq, not_true_eq_false, if_false, hl]
  rw [List.take_left' (be_length w n), List.drop_left' (be_length w n), nb_be, Nat.mod_eq_of_lt hn]
theorem blob_be (m : Nat) (x l : List UInt8) (hx : x.length ≤ m) (hm : x.length < 65536) : blob m ⟨be 2 x.length ++ (x ++ l), 0⟩ = (x, ⟨l, 0⟩) := by
  unfold blob
  rw [num_be 2 _ _ (by simpa using hm)]
  rw [if_neg (by simpa using hx)]
  unfold take
  simp
end Rd
end Go.Proofs.YtidikciankcopaaDoor
