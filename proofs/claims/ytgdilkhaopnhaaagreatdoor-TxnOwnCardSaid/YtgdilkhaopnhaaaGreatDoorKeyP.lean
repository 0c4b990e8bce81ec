/- What a row of keys becomes: one put, one dropped; plainly, and in cells. No program is named. -/
import Derived.Test.YtgdilkhaopnhaaaGreatDoorObE
import Derived.Test.YtgdilkhaopnhaaaGreatDoorFnd8
namespace Go.Proofs.YtgdilkhaopnhaaaGreatDoor
open Go.RowKit

theorem tw_take {α : Type} (q : α → Bool) (l : List α) : l.takeWhile q = l.take (l.takeWhile q).length := by
  have h := List.takeWhile_append_dropWhile (p := q) (l := l)
  have := List.take_left (l₁ := l.takeWhile q) (l₂ := l.dropWhile q)
  rw [h] at this
  exact this.symm
theorem dw_drop {α : Type} (q : α → Bool) (l : List α) : l.dropWhile q = l.drop (l.takeWhile q).length := by
  have h := List.takeWhile_append_dropWhile (p := q) (l := l)
  have := List.drop_left (l₁ := l.takeWhile q) (l₂ := l.dropWhile q)
  rw [h] at this
  exact this.symm
theorem posK_le (ks : List KyD) (nm : ByteArray) : posK ks nm ≤ ks.length := tw_le _ _
theorem filter_all {α : Type} {p : α → Bool} {l : List α} (h : ∀ x ∈ l, p x = true) : l.filter p = l := List.filter_eq_self.2 h
theorem hasK_no {ks : List KyD} {nm : ByteArray} (h : hasK ks nm = false) : ∀ k ∈ ks, (!decide (k.name = nm)) = true := by
  intro k hk
  unfold hasK at h
  rw [List.any_eq_false] at h
  simpa using h k hk
theorem putK_new {ks : List KyD} {nm : ByteArray} {v : List UInt8} (h : hasK ks nm = false) : putK ks nm v = ks.take (posK ks nm) ++ ⟨nm, v⟩ :: ks.drop (posK ks nm) := by
  unfold putK
  rw [filter_all fun k hk => hasK_no h k (List.mem_of_mem_drop (by rw [dw_drop] at hk; exact hk)), tw_take, dw_drop]
  rfl
theorem putK_old {ks : List KyD} {nm : ByteArray} {v : List UInt8} (hf : Fine ks) (h : hasK ks nm = true) :
    ∃ hp : posK ks nm < ks.length, (ks[posK ks nm]).name = nm ∧ putK ks nm v = ks.take (posK ks nm) ++ ⟨nm, v⟩ :: ks.drop (posK ks nm + 1) ∧ dropK ks nm = ks.take (posK ks nm) ++ ks.drop (posK ks nm + 1) := by
  have h1 : ∀ (j : Nat) k, j < posK ks nm → ks[j]? = some k → ltS k.name nm = true := fun j k hj hk => tw_get (fun k : KyD => ltS k.name nm) ks j k hj hk
  have h2 : ∀ k, ks[posK ks nm]? = some k → ltS k.name nm = false := fun k hk => tw_stop (fun k : KyD => ltS k.name nm) ks k hk
  rw [has_of hf h1 h2] at h
  have hp : posK ks nm < ks.length := by
    rcases Nat.lt_or_ge (posK ks nm) ks.length with h3 | h3
    · exact h3
    · rw [List.getElem?_eq_none h3] at h; cases h
  have hg : ks[posK ks nm]? = some ks[posK ks nm] := List.getElem?_eq_getElem hp
  rw [hg] at h
  have hn : (ks[posK ks nm]).name = nm := by simpa using h
  have hd : ks.drop (posK ks nm) = ks[posK ks nm] :: ks.drop (posK ks nm + 1) := List.drop_eq_getElem_cons hp
  have hrest : ∀ k ∈ ks.drop (posK ks nm + 1), (!decide (k.name = nm)) = true := by
    intro k hk
    obtain ⟨j, hj, rfl⟩ := List.getElem_of_mem hk
    have hj2 : posK ks nm + 1 + j < ks.length := by simp at hj; omega
    have hup := hf.up (posK ks nm) (posK ks nm + 1 + j) _ _ (by omega) hg (List.getElem?_eq_getElem hj2)
    rw [List.getElem_drop]
    rw [hn] at hup
    have hne : ¬ (ks[posK ks nm + 1 + j]).name = nm := fun e => by rw [e, ltS_irrefl] at hup; cases hup
    simpa using hne
  have hfront : ∀ k ∈ ks.take (posK ks nm), (!decide (k.name = nm)) = true := by
    intro k hk
    obtain ⟨j, hj, rfl⟩ := List.getElem_of_mem hk
    have hj2 : j < posK ks nm := by simp at hj; omega
    rw [List.getElem_take]
    have hl := h1 j _ hj2 (List.getElem?_eq_getElem (by omega))
    have hne : ¬ (ks[j]).name = nm := fun e => by rw [e, ltS_irrefl] at hl; cases hl
    simpa using hne
  refine ⟨hp, hn, ?_, ?_⟩
  · unfold putK
    rw [tw_take, dw_drop]
    show ks.take (posK ks nm) ++ _ :: (ks.drop (posK ks nm)).filter _ = _
    rw [hd, List.filter_cons]
    simp only [hn, decide_true, Bool.not_true, Bool.false_eq_true, if_false]
    rw [filter_all hrest]
  · unfold dropK
    conv => lhs; rw [← List.take_append_drop (posK ks nm) ks, List.filter_append, hd, List.filter_cons]
    simp only [hn, decide_true, Bool.not_true, Bool.false_eq_true, if_false]
    rw [filter_all hrest, filter_all hfront]
theorem dropK_none {ks : List KyD} {nm : ByteArray} (h : hasK ks nm = false) : dropK ks nm = ks := filter_all (hasK_no h)

/-! Cells -/
theorem flat_take {s : Nat} : ∀ (m : List (List Value)) (p : Nat), (∀ c ∈ m, c.length = s) → (m.take p).flatten = m.flatten.take (p * s)
  | [], p, _ => by simp
  | c :: m, 0, _ => by simp
  | c :: m, p + 1, h => by
    have hc := h c (by simp)
    have e : c.take ((p + 1) * s) = c := List.take_of_length_le (by rw [hc, Nat.add_mul]; omega)
    have e2 : (p + 1) * s - c.length = p * s := by rw [hc, Nat.add_mul]; omega
    rw [List.take_succ_cons, List.flatten_cons, flat_take m p fun c hc => h c (by simp [hc]), List.flatten_cons, List.take_append, e, e2]
theorem flat_drop {s : Nat} : ∀ (m : List (List Value)) (p : Nat), (∀ c ∈ m, c.length = s) → (m.drop p).flatten = m.flatten.drop (p * s)
  | [], p, _ => by simp
  | c :: m, 0, _ => by simp
  | c :: m, p + 1, h => by
    have hc := h c (by simp)
    have e : c.drop ((p + 1) * s) = [] := List.drop_of_length_le (by rw [hc, Nat.add_mul]; omega)
    have e2 : (p + 1) * s - c.length = p * s := by rw [hc, Nat.add_mul]; omega
    rw [List.drop_succ_cons, flat_drop m p fun c hc => h c (by simp [hc]), List.flatten_cons, List.drop_append, e, e2, List.nil_append]
theorem get_cut {α : Type} {l : List α} {y : α} {p q : Nat} (hp : p ≤ l.length) (i : Nat) (x : α) (h : (l.take p ++ y :: l.drop q)[i]? = some x) : (i < p ∧ l[i]? = some x) ∨ (i = p ∧ x = y) ∨ (p < i ∧ l[q + (i - p - 1)]? = some x) := by
  have hl : (l.take p).length = p := by simp; omega
  rcases Nat.lt_trichotomy i p with h1 | h1 | h1
  · rw [List.getElem?_append_left (by omega), List.getElem?_take, if_pos h1] at h
    exact .inl ⟨h1, h⟩
  · subst h1
    rw [List.getElem?_append_right (by omega), hl, Nat.sub_self, List.getElem?_cons_zero] at h
    exact .inr (.inl ⟨rfl, (Option.some.inj h).symm⟩)
  · rw [List.getElem?_append_right (by omega), hl, show i - p = (i - p - 1) + 1 by omega, List.getElem?_cons_succ, List.getElem?_drop] at h
    exact .inr (.inr ⟨h1, h⟩)
section
variable {α : Type} {F : Fb α} {S : Nat → Prop} {w : World} {cs : List (List Value)} {l : List α}
/-- one element in the place of those from p to q -/
theorem CI.cut (h : CI F (fun _ => S) w cs l) {p q : Nat} (hp : p ≤ l.length) {x : α} {v : Value} (hv : RB S w v (F.bytes x)) :
    CI F (fun _ => S) w (cs.take p ++ (F.front x ++ [v]) :: cs.drop q) (l.take p ++ x :: l.drop q) := by
  refine ⟨by simp [h.len], fun i y c hy hc => ?_⟩
  have hp' : p ≤ cs.length := by rw [h.len]; exact hp
  rcases get_cut hp i y hy with ⟨h1, h2⟩ | ⟨h1, h2⟩ | ⟨h1, h2⟩
  · rcases get_cut hp' i c hc with ⟨h3, h4⟩ | ⟨h3, h4⟩ | ⟨h3, h4⟩
    · exact h.at_ i y c h2 h4
    · omega
    · omega
  · rcases get_cut hp' i c hc with ⟨h3, h4⟩ | ⟨h3, h4⟩ | ⟨h3, h4⟩
    · omega
    · subst h2 h4; exact ⟨v, rfl, hv⟩
    · omega
  · rcases get_cut hp' i c hc with ⟨h3, h4⟩ | ⟨h3, h4⟩ | ⟨h3, h4⟩
    · omega
    · omega
    · exact h.at_ _ y c h2 h4
/-- those from p to q are gone -/
theorem CI.gap (h : CI F (fun _ => S) w cs l) {p q : Nat} (hp : p ≤ l.length) : CI F (fun _ => S) w (cs.take p ++ cs.drop q) (l.take p ++ l.drop q) := by
  refine ⟨by simp [h.len], fun i y c hy hc => ?_⟩
  have hp' : p ≤ cs.length := by rw [h.len]; exact hp
  rcases Nat.lt_or_ge i p with h1 | h1
  · rw [List.getElem?_append_left (by simp; omega), List.getElem?_take, if_pos h1] at hy hc
    exact h.at_ i y c hy hc
  · rw [List.getElem?_append_right (by simp; omega), List.getElem?_drop] at hy hc
    have e1 : (l.take p).length = p := by simp; omega
    have e2 : (cs.take p).length = p := by simp; omega
    rw [e1] at hy
    rw [e2] at hc
    exact h.at_ _ y c hy hc
end
theorem set_mid {α : Type} (A B : List α) (s u v : α) {p : Nat} (hA : A.length = p) : (A ++ [s, u] ++ B).set (p + 1) v = A ++ [s, v] ++ B := by
  subst hA
  rw [List.append_assoc, List.set_append_right _ _ (by omega), List.append_assoc]
  congr 1
  rw [show A.length + 1 - A.length = 1 by omega]
  rfl
end Go.Proofs.YtgdilkhaopnhaaaGreatDoor
