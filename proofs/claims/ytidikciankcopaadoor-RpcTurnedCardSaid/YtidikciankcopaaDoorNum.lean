/- Numbers as bytes of fixed width, most significant first; both ways. No program is named. -/
import Derived.Test.YtidikciankcopaaDoorLib
namespace Go.Proofs.YtidikciankcopaaDoor

/-- a number's w last bytes -/
def be : Nat → Nat → List UInt8
  | 0, _ => []
  | w + 1, n => be w (n / 256) ++ [UInt8.ofNat n]
/-- the number that bytes say -/
def nb (l : List UInt8) : Nat := l.foldl (fun a b => a * 256 + b.toNat) 0
theorem be_length (w n : Nat) : (be w n).length = w := by
  induction w generalizing n with
  | zero => rfl
  | succ w ih => simp [be, ih]
theorem nb_snoc (l : List UInt8) (b : UInt8) : nb (l ++ [b]) = nb l * 256 + b.toNat := by simp [nb]
theorem nb_nil : nb [] = 0 := rfl
theorem byte_of (n : Nat) : (UInt8.ofNat n).toNat = n % 256 := by simp
theorem rev_ind {P : List UInt8 → Prop} (h0 : P []) (h1 : ∀ l b, P l → P (l ++ [b])) : ∀ l, P l := by
  have key : ∀ (n : Nat) (l : List UInt8), l.length = n → P l := by
    intro n
    induction n with
    | zero => intro l h; rw [List.length_eq_zero_iff.1 h]; exact h0
    | succ n ih =>
      intro l h
      have hne : l ≠ [] := by intro e; subst e; simp at h
      rw [← List.dropLast_concat_getLast hne]
      exact h1 _ _ (ih _ (by simp [h]))
  exact fun l => key _ l rfl
theorem nb_be (w n : Nat) : nb (be w n) = n % 256 ^ w := by
  induction w generalizing n with
  | zero => simp [be, nb, Nat.mod_one]
  | succ w ih =>
    rw [be, nb_snoc, ih, byte_of, Nat.pow_succ, Nat.mul_comm (256 ^ w) 256, Nat.mod_mul]
    omega
theorem nb_lt (l : List UInt8) : nb l < 256 ^ l.length := by
  refine rev_ind (P := fun l => nb l < 256 ^ l.length) (by simp [nb]) (fun l b ih => ?_) l
  · show nb (l ++ [b]) < 256 ^ (l ++ [b]).length
    rw [nb_snoc, List.length_append, List.length_singleton, Nat.pow_succ]
    have := b.toNat_lt
    have h2 : (nb l + 1) * 256 ≤ 256 ^ l.length * 256 := Nat.mul_le_mul_right _ ih
    omega
theorem be_nb (l : List UInt8) : be l.length (nb l) = l := by
  refine rev_ind (P := fun l => be l.length (nb l) = l) rfl (fun l b ih => ?_) l
  · show be (l ++ [b]).length (nb (l ++ [b])) = l ++ [b]
    rw [List.length_append, List.length_singleton, be, nb_snoc]
    have hb := b.toNat_lt
    have h1 : (nb l * 256 + b.toNat) / 256 = nb l := by omega
    have h2 : UInt8.ofNat (nb l * 256 + b.toNat) = b := by
      apply UInt8.toNat_inj.1
      rw [byte_of]
      omega
    rw [h1, h2, ih]
/-- byte i of w -/
theorem be_at (w n i : Nat) (h : i < w) : (be w n)[i]'(by rw [be_length]; exact h) = UInt8.ofNat (n / 256 ^ (w - 1 - i)) := by
  induction w generalizing n with
  | zero => omega
  | succ w ih =>
    simp only [be]
    rcases Nat.lt_or_ge i w with g | g
    · rw [List.getElem_append_left (by rw [be_length]; exact g), ih (n / 256) g, Nat.div_div_eq_div_mul]
      have : 256 * 256 ^ (w - 1 - i) = 256 ^ (w + 1 - 1 - i) := by
        rw [show w + 1 - 1 - i = (w - 1 - i) + 1 by omega, Nat.pow_succ, Nat.mul_comm]
      rw [this]
    · obtain rfl : i = w := by omega
      rw [List.getElem_append_right (by rw [be_length]; exact Nat.le_refl _)]
      simp [be_length]
theorem be_take_succ (w n k : Nat) (h : k < w) : (be w n).take (k + 1) = (be w n).take k ++ [UInt8.ofNat (n / 256 ^ (w - 1 - k))] := by
  rw [List.take_succ_eq_append_getElem (by rw [be_length]; exact h), be_at w n k h]
end Go.Proofs.YtidikciankcopaaDoor
