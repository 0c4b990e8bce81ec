/- What the references of layer 8 compute, plainly: it is what object's functions compute. No program is named. -/
import Derived.Test.YtgdilkhaopnhaaaGreatDoorKeyP
namespace Go.Proofs.YtgdilkhaopnhaaaGreatDoor
open Go.RowKit

def nmI (x : Int) : Bool := decide (x = 46) || (decide (97 ≤ x) && decide (x ≤ 122)) || (decide (48 ≤ x) && decide (x ≤ 57))
theorem signs_nmI (c : UInt8) : nameSigns.contains c = nmI c.toNat := by
  have h : ∀ n : Fin 256, nameSigns.contains (UInt8.ofNat n.1) = nmI (n.1 : Int) := by decide +kernel
  have := h ⟨c.toNat, c.toNat_lt⟩
  simpa using this
theorem dw_nil {α : Type} (p : α → Bool) : ∀ l : List α, l.dropWhile p = [] ↔ ∀ x ∈ l, p x = true
  | [] => by simp
  | a :: l => by
    rw [List.dropWhile_cons]
    cases h : p a with
    | true => simp [h, dw_nil p l]
    | false => simp [h]
theorem trimS_nil (l cs : List UInt8) : Lib.trimS l cs = [] ↔ ∀ x ∈ l, cs.contains x = true := by
  unfold Lib.trimS Lib.trimLeftS Lib.trimRightS
  rw [dw_nil]
  constructor
  · intro h
    have h0 : l.reverse.dropWhile (cs.contains ·) = [] := by
      cases he : l.reverse.dropWhile (cs.contains ·) with
      | nil => rfl
      | cons a t =>
        have h1 := h a (by rw [he]; simp)
        have h2 := tw_stop (cs.contains ·) l.reverse a (by
          have := List.takeWhile_append_dropWhile (p := (cs.contains ·)) (l := l.reverse)
          rw [he] at this
          conv => lhs; arg 1; rw [← this]
          simp)
        rw [h2] at h1
        cases h1
    rw [dw_nil] at h0
    exact fun x hx => h0 x (by simpa using hx)
  · intro h x hx
    have := (List.dropWhile_sublist (cs.contains ·) (l := l.reverse)).subset (List.mem_reverse.1 hx)
    exact h x (by simpa using this)
def nmTo (s : ByteArray) (k : Nat) : Bool := (s.data.toList.take k).all fun c => nmI c.toNat
theorem nmTo_succ (s : ByteArray) (k : Nat) (h : k < s.size) : nmTo s (k + 1) = (nmTo s k && nmI s[k].toNat) := by
  unfold nmTo
  have e : s.data.toList.take (k + 1) = s.data.toList.take k ++ [s[k]] := by
    rw [List.take_succ_eq_append_getElem (by simpa using h)]; rfl
  rw [e, List.all_append]
  simp
theorem nameB_to (s : ByteArray) : nameB s = (decide (1 ≤ s.size) && decide (s.size ≤ 12) && nmTo s s.size) := by
  unfold nameB
  congr 1
  rw [Bool.eq_iff_iff, decide_eq_true_eq, trimS_nil]
  unfold nmTo
  rw [List.take_of_length_le (by show s.data.toList.length ≤ s.data.size; simp), List.all_eq_true]
  constructor
  · intro h x hx
    rw [← signs_nmI]
    exact h x hx
  · intro h x hx
    rw [signs_nmI]
    exact h x hx
theorem nmTo_no {s : ByteArray} {k : Nat} (hk : k < s.size) (h : nmI s[k].toNat = false) : nameB s = false := by
  have h1 : nmTo s (k + 1) = false := by rw [nmTo_succ s k hk, h, Bool.and_false]
  have h2 : nmTo s s.size = false := by
    unfold nmTo at h1 ⊢
    rw [List.all_eq_false] at h1 ⊢
    obtain ⟨x, hx, h3⟩ := h1
    exact ⟨x, by rw [List.take_of_length_le (by show s.data.toList.length ≤ s.data.size; simp)]; exact List.mem_of_mem_take hx, h3⟩
  rw [nameB_to, h2, Bool.and_false]

/-! put, key by key -/
def putStep (nm : ByteArray) (v : List UInt8) (s : List KyD × Bool) (k : KyD) : List KyD × Bool :=
  let t := if !ltS k.name nm && !s.2 then (s.1 ++ [⟨nm, v⟩], true) else s
  if decide (k.name = nm) then t else (t.1 ++ [k], t.2)
def putTo (nm : ByteArray) (v : List UInt8) (ks : List KyD) (k : Nat) : List KyD × Bool := (ks.take k).foldl (putStep nm v) ([], false)
theorem putTo_succ {nm : ByteArray} {v : List UInt8} {ks : List KyD} {k : Nat} (h : k < ks.length) : putTo nm v ks (k + 1) = putStep nm v (putTo nm v ks k) ks[k] := by
  unfold putTo
  rw [List.take_succ_eq_append_getElem h, List.foldl_append]
  rfl
theorem put_done (nm : ByteArray) (v : List UInt8) : ∀ (ks : List KyD) (o : List KyD), ks.foldl (putStep nm v) (o, true) = (o ++ ks.filter fun k => !decide (k.name = nm), true)
  | [], o => by simp
  | k :: ks, o => by
    rw [List.foldl_cons]
    by_cases h : k.name = nm
    · have : putStep nm v (o, true) k = (o, true) := by simp [putStep, h]
      rw [this, put_done nm v ks o]
      simp [h]
    · have : putStep nm v (o, true) k = (o ++ [k], true) := by simp [putStep, h]
      rw [this, put_done nm v ks]
      simp [h]
theorem put_all (nm : ByteArray) (v : List UInt8) : ∀ (ks : List KyD) (o : List KyD), (let s := ks.foldl (putStep nm v) (o, false); if s.2 then s.1 else s.1 ++ [⟨nm, v⟩]) = o ++ putK ks nm v
  | [], o => by simp [putK]
  | k :: ks, o => by
    rw [List.foldl_cons]
    cases hl : ltS k.name nm with
    | true =>
      have hn : ¬ k.name = nm := fun e => by rw [e, ltS_irrefl] at hl; cases hl
      have : putStep nm v (o, false) k = (o ++ [k], false) := by simp [putStep, hn, hl]
      rw [this, put_all nm v ks]
      simp [putK, hl]
    | false =>
      by_cases h : k.name = nm
      · have : putStep nm v (o, false) k = (o ++ [⟨nm, v⟩], true) := by simp [putStep, h, ltS_irrefl]
        rw [this, put_done]
        simp [putK, h, ltS_irrefl]
      · have : putStep nm v (o, false) k = (o ++ [⟨nm, v⟩] ++ [k], true) := by simp [putStep, h, hl]
        rw [this, put_done]
        simp [putK, hl, h]
theorem putTo_end {nm : ByteArray} {v : List UInt8} {ks : List KyD} : putK ks nm v = if (putTo nm v ks ks.length).2 then (putTo nm v ks ks.length).1 else (putTo nm v ks ks.length).1 ++ [⟨nm, v⟩] := by
  have := put_all nm v ks []
  unfold putTo
  rw [List.take_length]
  simpa using this.symm
def dropTo (nm : ByteArray) (ks : List KyD) (k : Nat) : List KyD := (ks.take k).filter fun k => !decide (k.name = nm)
theorem dropTo_succ {nm : ByteArray} {ks : List KyD} {k : Nat} (h : k < ks.length) : dropTo nm ks (k + 1) = if decide ((ks[k]).name = nm) then dropTo nm ks k else dropTo nm ks k ++ [ks[k]] := by
  unfold dropTo
  rw [List.take_succ_eq_append_getElem h, List.filter_append]
  by_cases e : (ks[k]).name = nm <;> simp [e]
theorem dropTo_end (nm : ByteArray) (ks : List KyD) : dropTo nm ks ks.length = dropK ks nm := by
  unfold dropTo dropK
  rw [List.take_length]
end Go.Proofs.YtgdilkhaopnhaaaGreatDoor
