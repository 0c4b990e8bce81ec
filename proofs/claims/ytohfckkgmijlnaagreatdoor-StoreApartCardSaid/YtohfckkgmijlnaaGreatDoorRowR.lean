/- Rows of the call's own whose data are the call's own too and stand apart from the row; append of one datum. No program is named. -/
import Derived.Test.YtohfckkgmijlnaaGreatDoorPA
import Derived.Maps.AppendAt
namespace Go.Proofs.YtohfckkgmijlnaaGreatDoor
open Go.RowKit Go.WideShapes

/-- a row of the call's own; what its data lead to lies in blocks from base on, apart from the row's own -/
structure EnR {α : Type} (E : Enc α) (t : TypeId) (base : Nat) (w : World) (v : Value) (l : List α) : Prop where
  mk ::
  ex : ∃ cs : List (List Value), cs.length = l.length ∧ (∀ (i : Nat) (x : α) (c : List Value), l[i]? = some x → cs[i]? = some c → E.rd (fun b => base ≤ b ∧ v.ownBlock ≠ some b) w c x) ∧ w.ownsRow base t E.size v l.length cs.flatten
section
variable {α : Type} {E : Enc α} {t : TypeId} {base : Nat} {w w' : World} {v v' : Value} {l : List α}
theorem EnR.nil (E : Enc α) (t : TypeId) (base : Nat) (w : World) : EnR E t base w (.slice none 0 0) [] := ⟨⟨[], rfl, fun i x c h => by simp at h, World.ownsRow_nil _ _ _ _⟩⟩
theorem owns_same {n size : Nat} {e : TypeId} {xs : List Value} (h : w.ownsRow base e size v n xs) (hs : Same (fun b => base ≤ b) w w') : w'.ownsRow base e size v n xs := by
  refine ⟨h.1, h.2.imp id ?_⟩
  rintro ⟨g, cap, cur, rfl, h1, h2, h3⟩
  exact ⟨g, cap, cur, rfl, h1, by rw [hs.block g h1 (Array.getElem?_eq_some_iff.1 h2).1]; exact h2, h3⟩
theorem EnR.same (h : EnR E t base w v l) (hs : Same (fun b => base ≤ b) w w') : EnR E t base w' v l := by
  obtain ⟨cs, h1, h2, h3⟩ := h.ex
  exact ⟨⟨cs, h1, fun i x c hi hc => E.mono (h2 i x c hi hc) (hs.weak fun b hb => hb.1), owns_same h3 hs⟩⟩
theorem EnR.same2 (h : EnR E t base w v l) (hs : Same (fun b => base ≤ b ∧ b < w.heap.size) w w') : EnR E t base w' v l := by
  obtain ⟨cs, h1, h2, h3⟩ := h.ex
  refine ⟨⟨cs, h1, fun i x c hi hc => ?_, ?_⟩⟩
  · exact E.weak (E.mono (E.weak (h2 i x c hi hc) (A' := fun b => (base ≤ b ∧ v.ownBlock ≠ some b) ∧ b < w.heap.size) fun b hl hb => ⟨hb, hl⟩) (hs.weak fun b hb => ⟨hb.1.1, hb.2⟩)) fun b _ hb => hb.1
  · refine ⟨h3.1, h3.2.imp id ?_⟩
    rintro ⟨g, cap, cur, rfl, h4, h5, h6⟩
    exact ⟨g, cap, cur, rfl, h4, by rw [hs.block g ⟨h4, (Array.getElem?_eq_some_iff.1 h5).1⟩ (Array.getElem?_eq_some_iff.1 h5).1]; exact h5, h6⟩
theorem EnR.ext (h : EnR E t base w v l) (hb : Below w.heap.size w w') : EnR E t base w' v l := h.same (Same.of_ext hb)
theorem EnR.shape (h : EnR E t base w v l) : ∃ a c, v = .slice a l.length c := by
  obtain ⟨cs, h1, h2, h3⟩ := h.ex
  exact owns_shape h3
theorem EnR.sle (h : EnR E t base w v l) : SlE E (fun b => base ≤ b) w v l := by
  obtain ⟨cs, h1, h2, h3⟩ := h.ex
  exact SlE.of_flat h1 (fun i x c hi hc => E.weak (h2 i x c hi hc) fun b _ hb => hb.1) (SlA.of_owns h3)
theorem EnR.lt (h : EnR E t base w v l) : ∀ g, v.ownBlock = some g → base ≤ g ∧ g < w.heap.size := by
  obtain ⟨cs, h1, h2, h3⟩ := h.ex
  exact fun g hg => h3.lt g hg
end
section
variable {P : Program} {ops : Array Oper} {rest : List Oper} {o : Oper} {a : Act} {Q : Exit → Act → World → Prop}
/-- 'append(out, x)': out of the call's own, x one datum that leads to the call's own memory -/
theorem wpList_pushR {α : Type} (W : World) (hgd : o.guard = none) (s x : Operand) (t : TypeId) (ho : o.op = .call { callee := .builtin .append, args := #[s, x], argTypes := #[t, t] })
    (E : Enc α) (base : Nat) (e : TypeId) (i : TypeInfo) (z : Value) (bytes : Nat) (ht : P.underlying t = some (.slice e)) (hi : P.info? e = some i) (hz : i.zero = some z)
    (hsize : i.size = E.size) (hby : i.bytes = bytes) (hzs : z.cells.size = E.size) (hsz : 0 < E.size) (hbb : bytes ≤ 1000)
    (v : Value) (l : List α) (hs : a.eval s = v) (hown : EnR E e base W v l) (c : List Value) (tt : TypeId) (y : α)
    (hx : a.eval x = .slice (some ⟨W.heap.size, 0, none⟩) 1 1) (hrd : E.rd (fun b => base ≤ b ∧ v.ownBlock ≠ some b) W c y)
    (hl : l.length ≤ 1000000) (hbase : base ≤ W.heap.size)
    (h : ∀ v' w', EnR E e base w' v' (l ++ [y]) → Below base W w' → wpList P ops Q rest (a.put o.dst v') w') : wpList P ops Q (o :: rest) a (W.alloc (.cells c.toArray tt)) := by
  obtain ⟨cs, h1, h2, h3⟩ := hown.ex
  have hal : Below W.heap.size W (W.alloc (.cells c.toArray tt)) := (Below.refl _ _).alloc (Nat.le_refl _) _
  refine wpList_append_own_at _ hgd s x t ho base e i z E.size bytes ht hi hz hsize hby hzs hsz v l.length cs.flatten hs (owns_ext h3 hal) ⟨W.heap.size, 0, none⟩ 1 1 c hx (by rw [Nat.one_mul]; exact E.len hrd) (cells_new W c tt) (E.one hrd) (by unfold maxLen; omega) ?_ (Nat.le_trans hbase hal.size) ?_
  · exact Nat.le_trans (Nat.mul_le_mul (show l.length + 1 ≤ 1000001 by omega) hbb) (by decide)
  · intro v' w' h4 h5 _ h6
    have hb : Below base W w' := ((Below.refl base W).alloc hbase _).grown h5 (by simp; omega) fun j hj => (h3.lt j hj).1
    have hsame : Same (fun b => base ≤ b ∧ v.ownBlock ≠ some b) W w' := by
      refine ⟨hb.size, fun b hb hl => ?_⟩
      rw [h5.block b (by simp; omega) fun e => hb.2 e.symm, Below.heap_alloc _ _ _ hl]
    have hmv : ∀ b, b < W.heap.size → (base ≤ b ∧ v.ownBlock ≠ some b) → (base ≤ b ∧ v'.ownBlock ≠ some b) := fun b hl hb => by
      refine ⟨hb.1, ?_⟩
      rcases h6 with e | e
      · rw [e]; exact hb.2
      · rw [e]
        simp only [World.size_alloc, ne_eq, Option.some.injEq]
        omega
    have key : ∀ c y, E.rd (fun b => base ≤ b ∧ v.ownBlock ≠ some b) W c y → E.rd (fun b => base ≤ b ∧ v'.ownBlock ≠ some b) w' c y := fun c y h =>
      E.weak (E.mono (E.weak h (A' := fun b => (base ≤ b ∧ v.ownBlock ≠ some b) ∧ b < W.heap.size) fun b hl hb => ⟨hb, hl⟩) (hsame.weak fun b hb => hb.1)) fun b _ hb => hmv b hb.2 hb.1
    refine h v' w' ⟨⟨cs ++ [c], by simp [h1], fun i y d hi hd => ?_, by simpa using h4⟩⟩ hb
    by_cases hlt : i < l.length
    · rw [List.getElem?_append_left hlt] at hi
      rw [List.getElem?_append_left (by omega)] at hd
      exact key _ _ (h2 i y d hi hd)
    · have hil := (List.getElem?_eq_some_iff.1 hi).1
      simp only [List.length_append, List.length_singleton] at hil
      have : i = l.length := by omega
      subst this
      rw [List.getElem?_append_right (by omega)] at hi hd
      simp [h1] at hi hd
      subst hi hd
      exact key _ _ hrd
end
end Go.Proofs.YtohfckkgmijlnaaGreatDoor
