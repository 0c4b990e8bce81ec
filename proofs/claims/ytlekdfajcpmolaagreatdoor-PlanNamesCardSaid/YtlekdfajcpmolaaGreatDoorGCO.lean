/- The walks of object.find: where a key stands, or would. What a row of keys becomes: one put, one dropped; plainly, and in cells. No program is named. copy between rows whose elements have two cells; lists that are spliced. The walk of slices.Insert at keys: one key into a row of the call's own. The walk of slices.Delete at keys: one key out of a row of the call's own. errors.As at the refusals of object: Go's own text is walked. -/
import Derived.Test.YtlekdfajcpmolaaGreatDoorGCN
import Derived.Test.YtlekdfajcpmolaaGreatDoorGAC
import Derived.Laws.CopyOwn
import Derived.Laws.CopyRow
import Derived.Laws.IdiomCopy
import Derived.Lib.Overlaps
import Derived.Lib.AppendZerosOnto
import Derived.Laws.NewBlocks
import Derived.Laws.Externs
import Derived.Deep.RegionLaw
import Derived.ArgAppend
import Derived.LaidEql
import Derived.Stop.Asserts
import Derived.RowKitTokens
namespace Go.Proofs.YtlekdfajcpmolaaGreatDoor
open Go.RowKit Go.WideShapes

/-! The place, in a rising row -/
theorem pos_of {ks : List KyD} {nm : ByteArray} {i : Nat} (hi : i ≤ ks.length) (h1 : ∀ (j : Nat) k, j < i → ks[j]? = some k → ltS k.name nm = true) (h2 : ∀ k, ks[i]? = some k → ltS k.name nm = false) : posK ks nm = i := by
  have hle := tw_le (fun k => ltS k.name nm) ks
  unfold posK
  rcases Nat.lt_trichotomy (ks.takeWhile fun k => ltS k.name nm).length i with h | h | h
  · have hlt : (ks.takeWhile fun k => ltS k.name nm).length < ks.length := by omega
    have a := tw_stop (fun k => ltS k.name nm) ks _ (List.getElem?_eq_getElem hlt)
    have b := h1 _ _ h (List.getElem?_eq_getElem hlt)
    rw [show ltS _ nm = false from a] at b
    cases b
  · exact h
  · have hlt : i < ks.length := by omega
    have a := tw_get (fun k => ltS k.name nm) ks i _ h (List.getElem?_eq_getElem hlt)
    have b := h2 _ (List.getElem?_eq_getElem hlt)
    rw [show ltS _ nm = true from a] at b
    cases b
theorem has_of {ks : List KyD} {nm : ByteArray} (hf : Fine ks) {i : Nat} (h1 : ∀ (j : Nat) k, j < i → ks[j]? = some k → ltS k.name nm = true) (h2 : ∀ k, ks[i]? = some k → ltS k.name nm = false) :
    hasK ks nm = match ks[i]? with | some k => decide (k.name = nm) | none => false := by
  have key : ∀ (j : Nat) k, ks[j]? = some k → k.name = nm → j = i := by
    intro j k hj hk
    rcases Nat.lt_trichotomy j i with h | h | h
    · have := h1 j k h hj
      rw [hk, ltS_irrefl] at this
      cases this
    · exact h
    · have hlt : i < ks.length := by have := (List.getElem?_eq_some_iff.1 hj).1; omega
      have hi : ks[i]? = some ks[i] := List.getElem?_eq_getElem hlt
      have a := hf.up i j _ k h hi hj
      rw [hk, h2 _ hi] at a
      cases a
  unfold hasK
  rw [Bool.eq_iff_iff, List.any_eq_true]
  constructor
  · rintro ⟨k, hk, he⟩
    obtain ⟨j, hj, rfl⟩ := List.getElem_of_mem hk
    have e := key j _ (List.getElem?_eq_getElem hj) (by simpa using he)
    subst e
    rw [List.getElem?_eq_getElem hj]
    exact he
  · intro h
    cases hi : ks[i]? with
    | none => rw [hi] at h; cases h
    | some k =>
      rw [hi] at h
      exact ⟨k, List.mem_of_getElem? hi, h⟩
/-- what stands ahead of i is less; what stands from j on is not -/
def Bse (ks : List KyD) (nm : ByteArray) (i j : Nat) : Prop := i ≤ j ∧ j ≤ ks.length ∧ (∀ (t : Nat) k, t < i → ks[t]? = some k → ltS k.name nm = true) ∧ (∀ (t : Nat) k, j ≤ t → ks[t]? = some k → ltS k.name nm = false)
theorem Bse.up {ks : List KyD} {nm : ByteArray} (hf : Fine ks) {i j h : Nat} (b : Bse ks nm i j) (h2 : h < j) (hx : ∀ k, ks[h]? = some k → ltS k.name nm = true) : Bse ks nm (h + 1) j := by
  obtain ⟨b1, b2, b3, b4⟩ := b
  refine ⟨by omega, b2, fun t k ht hk => ?_, b4⟩
  have hlt : h < ks.length := by omega
  have hh : ks[h]? = some ks[h] := List.getElem?_eq_getElem hlt
  rcases Nat.lt_or_ge t h with h3 | h3
  · exact ltS_trans (hf.up t h k _ h3 hk hh) (hx _ hh)
  · obtain rfl : t = h := by omega
    exact hx k hk
theorem Bse.end_ {ks : List KyD} {nm : ByteArray} (hf : Fine ks) {i : Nat} (b : Bse ks nm i i) : posK ks nm = i ∧ hasK ks nm = match ks[i]? with | some k => decide (k.name = nm) | none => false :=
  ⟨pos_of b.2.1 b.2.2.1 fun k hk => b.2.2.2 i k (Nat.le_refl _) hk, has_of hf b.2.2.1 fun k hk => b.2.2.2 i k (Nat.le_refl _) hk⟩
end Go.Proofs.YtlekdfajcpmolaaGreatDoor
namespace Go.Proofs.YtlekdfajcpmolaaGreatDoor
open Go.RowKit

theorem tw_take {α : Type} (q : α → Bool) (l : List α) : l.takeWhile q = l.take (l.takeWhile q).length := by
  have h := List.takeWhile_append_dropWhile (p := q) (l := l)
  have := List.take_left (l₁ := l.takeWhile q) (l₂ := l.dropWhile q)
  rw [h] at this
  exact this.symm
theorem dw_drop {α : Type} (q : α → Bool) (l : List α) : l.dropWhile q = l.drop (l.takeWhile q).length := by
  have h := List.takeWhile_append_dropWhile (p := q) (l := l)
  have := List.drop_left (l₁ := l.takeWhile q) (l₂ := l.dropWhile q)
  rw [h] at this
  exact this.symm
theorem posK_le (ks : List KyD) (nm : ByteArray) : posK ks nm ≤ ks.length := tw_le _ _
theorem filter_all {α : Type} {p : α → Bool} {l : List α} (h : ∀ x ∈ l, p x = true) : l.filter p = l := List.filter_eq_self.2 h
theorem hasK_no {ks : List KyD} {nm : ByteArray} (h : hasK ks nm = false) : ∀ k ∈ ks, (!decide (k.name = nm)) = true := by
  intro k hk
  unfold hasK at h
  rw [List.any_eq_false] at h
  simpa using h k hk
theorem putK_new {ks : List KyD} {nm : ByteArray} {v : List UInt8} (h : hasK ks nm = false) : putK ks nm v = ks.take (posK ks nm) ++ ⟨nm, v⟩ :: ks.drop (posK ks nm) := by
  unfold putK
  rw [filter_all fun k hk => hasK_no h k (List.mem_of_mem_drop (by rw [dw_drop] at hk; exact hk)), tw_take, dw_drop]
  rfl
theorem putK_old {ks : List KyD} {nm : ByteArray} {v : List UInt8} (hf : Fine ks) (h : hasK ks nm = true) :
    ∃ hp : posK ks nm < ks.length, (ks[posK ks nm]).name = nm ∧ putK ks nm v = ks.take (posK ks nm) ++ ⟨nm, v⟩ :: ks.drop (posK ks nm + 1) ∧ dropK ks nm = ks.take (posK ks nm) ++ ks.drop (posK ks nm + 1) := by
  have h1 : ∀ (j : Nat) k, j < posK ks nm → ks[j]? = some k → ltS k.name nm = true := fun j k hj hk => tw_get (fun k : KyD => ltS k.name nm) ks j k hj hk
  have h2 : ∀ k, ks[posK ks nm]? = some k → ltS k.name nm = false := fun k hk => tw_stop (fun k : KyD => ltS k.name nm) ks k hk
  rw [has_of hf h1 h2] at h
  have hp : posK ks nm < ks.length := by
    rcases Nat.lt_or_ge (posK ks nm) ks.length with h3 | h3
    · exact h3
    · rw [List.getElem?_eq_none h3] at h; cases h
  have hg : ks[posK ks nm]? = some ks[posK ks nm] := List.getElem?_eq_getElem hp
  rw [hg] at h
  have hn : (ks[posK ks nm]).name = nm := by simpa using h
  have hd : ks.drop (posK ks nm) = ks[posK ks nm] :: ks.drop (posK ks nm + 1) := List.drop_eq_getElem_cons hp
  have hrest : ∀ k ∈ ks.drop (posK ks nm + 1), (!decide (k.name = nm)) = true := by
    intro k hk
    obtain ⟨j, hj, rfl⟩ := List.getElem_of_mem hk
    have hj2 : posK ks nm + 1 + j < ks.length := by simp at hj; omega
    have hup := hf.up (posK ks nm) (posK ks nm + 1 + j) _ _ (by omega) hg (List.getElem?_eq_getElem hj2)
    rw [List.getElem_drop]
    rw [hn] at hup
    have hne : ¬ (ks[posK ks nm + 1 + j]).name = nm := fun e => by rw [e, ltS_irrefl] at hup; cases hup
    simpa using hne
  have hfront : ∀ k ∈ ks.take (posK ks nm), (!decide (k.name = nm)) = true := by
    intro k hk
    obtain ⟨j, hj, rfl⟩ := List.getElem_of_mem hk
    have hj2 : j < posK ks nm := by simp at hj; omega
    rw [List.getElem_take]
    have hl := h1 j _ hj2 (List.getElem?_eq_getElem (by omega))
    have hne : ¬ (ks[j]).name = nm := fun e => by rw [e, ltS_irrefl] at hl; cases hl
    simpa using hne
  refine ⟨hp, hn, ?_, ?_⟩
  · unfold putK
    rw [tw_take, dw_drop]
    show ks.take (posK ks nm) ++ _ :: (ks.drop (posK ks nm)).filter _ = _
    rw [hd, List.filter_cons]
    simp only [hn, decide_true, Bool.not_true, Bool.false_eq_true, if_false]
    rw [filter_all hrest]
  · unfold dropK
    conv => lhs; rw [← List.take_append_drop (posK ks nm) ks, List.filter_append, hd, List.filter_cons]
    simp only [hn, decide_true, Bool.not_true, Bool.false_eq_true, if_false]
    rw [filter_all hrest, filter_all hfront]
/-! Cells -/
theorem get_cut {α : Type} {l : List α} {y : α} {p q : Nat} (hp : p ≤ l.length) (i : Nat) (x : α) (h : (l.take p ++ y :: l.drop q)[i]? = some x) : (i < p ∧ l[i]? = some x) ∨ (i = p ∧ x = y) ∨ (p < i ∧ l[q + (i - p - 1)]? = some x) := by
  have hl : (l.take p).length = p := by simp; omega
  rcases Nat.lt_trichotomy i p with h1 | h1 | h1
  · rw [List.getElem?_append_left (by omega), List.getElem?_take, if_pos h1] at h
    exact .inl ⟨h1, h⟩
  · subst h1
    rw [List.getElem?_append_right (by omega), hl, Nat.sub_self, List.getElem?_cons_zero] at h
    exact .inr (.inl ⟨rfl, (Option.some.inj h).symm⟩)
  · rw [List.getElem?_append_right (by omega), hl, show i - p = (i - p - 1) + 1 by omega, List.getElem?_cons_succ, List.getElem?_drop] at h
    exact .inr (.inr ⟨h1, h⟩)
section
variable {α : Type} {F : Fb α} {S : Nat → Prop} {w : World} {cs : List (List Value)} {l : List α}
/-- one element in the place of those from p to q -/
theorem CI.cut (h : CI F (fun _ => S) w cs l) {p q : Nat} (hp : p ≤ l.length) {x : α} {v : Value} (hv : RB S w v (F.bytes x)) :
    CI F (fun _ => S) w (cs.take p ++ (F.front x ++ [v]) :: cs.drop q) (l.take p ++ x :: l.drop q) := by
  refine ⟨by simp [h.len], fun i y c hy hc => ?_⟩
  have hp' : p ≤ cs.length := by rw [h.len]; exact hp
  rcases get_cut hp i y hy with ⟨h1, h2⟩ | ⟨h1, h2⟩ | ⟨h1, h2⟩
  · rcases get_cut hp' i c hc with ⟨h3, h4⟩ | ⟨h3, h4⟩ | ⟨h3, h4⟩
    · exact h.at_ i y c h2 h4
    · omega
    · omega
  · rcases get_cut hp' i c hc with ⟨h3, h4⟩ | ⟨h3, h4⟩ | ⟨h3, h4⟩
    · omega
    · subst h2 h4; exact ⟨v, rfl, hv⟩
    · omega
  · rcases get_cut hp' i c hc with ⟨h3, h4⟩ | ⟨h3, h4⟩ | ⟨h3, h4⟩
    · omega
    · omega
    · exact h.at_ _ y c h2 h4
end
end Go.Proofs.YtlekdfajcpmolaaGreatDoor
namespace Go.Proofs.YtlekdfajcpmolaaGreatDoor
open Go.RowKit

section
variable {P : Program}
variable {w : World} {ops : Array Oper} {rest : List Oper} {o : Oper} {a : Act} {Q : Exit → Act → World → Prop}
end
/-! Lists -/
end Go.Proofs.YtlekdfajcpmolaaGreatDoor
namespace Go.Proofs.YtlekdfajcpmolaaGreatDoor
open Go.RowKit Go.WideShapes Go.Lib

end Go.Proofs.YtlekdfajcpmolaaGreatDoor
namespace Go.Proofs.YtlekdfajcpmolaaGreatDoor
open Go.RowKit Go.WideShapes Go.Lib

section
variable {P : Program}
end
end Go.Proofs.YtlekdfajcpmolaaGreatDoor
namespace Go.Proofs.YtlekdfajcpmolaaGreatDoor
open Go.RowKit Go.Extern.Stop Go.Stop Go.Extern

end Go.Proofs.YtlekdfajcpmolaaGreatDoor
