/- Rows of bytes of the call's own: append of one byte, append of a row, a byte written. No function is named. -/
import Derived.Test.YtlgefkaafoidmaaDoorGL
import Derived.Test.YtlgefkaafoidmaaDoorGF
namespace Go.Proofs.YtlgefkaafoidmaaDoor
open Go.RowKit Go.WideShapes

section
variable {ops : Array Oper} {rest : List Oper} {o : Oper} {a : Act} {Q : Exit → Act → World → Prop}
/-- 'append(out, b)' -/
theorem wpList_pushB (W : World) (hgd : o.guard = none) (s x : Operand) (ho : o.op = .call { callee := .builtin .append, args := #[s, x], argTypes := #[28, 28] })
    (base : Nat) (v : Value) (l : List UInt8) (hs : a.eval s = v) (hown : OB base W v l) (c : List Value) (tt : TypeId) (y : UInt8) (hc : c = [bv y])
    (hx : a.eval x = .slice (some ⟨W.heap.size, 0, none⟩) 1 1) (hl : l.length ≤ 1000000) (hbase : base ≤ W.heap.size)
    (h : ∀ v' w', OB base w' v' (l ++ [y]) → Below base W w' → wpList Tryd.prog ops Q rest (a.put o.dst v') w') : wpList Tryd.prog ops Q (o :: rest) a (W.alloc (.cells c.toArray tt)) := by
  obtain ⟨i0, hi, hz0, hz1, hz2⟩ := info_parts infoByte
  subst hc
  have hal : Below W.heap.size W (W.alloc (.cells [bv y].toArray tt)) := (Below.refl _ _).alloc (Nat.le_refl _) _
  refine wpList_append_own _ hgd s x 28 ho base 5 i0 (.int .u8 0) 1 1 Tryd.underlying28 hi hz0 hz1 hz2 rfl (by decide) v l.length (l.map bv) hs (owns_ext hown hal) ⟨W.heap.size, 0, none⟩ 1 1 [bv y] hx rfl (cells_new W [bv y] tt) (one_bytes [y]) (by unfold maxLen; omega) (by omega) (Nat.le_trans hbase hal.size) ?_
  intro v' w' h4 h5 _
  exact h v' w' (OB.cast h4 (by simp) (by simp)) (((Below.refl base W).alloc hbase _).grown h5 (by simp; omega) fun j hj => (hown.lt j hj).1)
/-- 'append(out, src...)' -/
theorem wpList_appB (w : World) (hgd : o.guard = none) (s x : Operand) (ho : o.op = .call { callee := .builtin .append, args := #[s, x], argTypes := #[28, 28] })
    (base : Nat) (v : Value) (l : List UInt8) (hs : a.eval s = v) (hown : OB base w v l) (A : Nat → Prop) (sv : Value) (m : List UInt8)
    (hx : a.eval x = sv) (hsl : RB A w sv m) (hl : l.length + m.length ≤ 1000000) (hbase : base ≤ w.heap.size)
    (h : ∀ v' w', OB base w' v' (l ++ m) → Below base w w' → wpList Tryd.prog ops Q rest (a.put o.dst v') w') : wpList Tryd.prog ops Q (o :: rest) a w := by
  obtain ⟨i0, hi, hz0, hz1, hz2⟩ := info_parts infoByte
  refine wpList_append_sl hgd s x 28 ho base 5 i0 (.int .u8 0) 1 1 Tryd.underlying28 hi hz0 hz1 hz2 rfl (by decide) v l.length (l.map bv) hs hown A sv m.length (m.map bv) hx hsl (one_bytes m) (by unfold maxLen; omega) (by omega) hbase ?_
  intro v' w' h4 h5
  exact h v' w' (OB.cast h4 (by simp) (by simp)) ((Below.refl base w).grown h5 hbase fun j hj => (hown.lt j hj).1)
end
/-- a byte of a row of the call's own is written -/
theorem OB.set {base g n c : Nat} {w : World} {l : List UInt8} (h : OB base w (.slice (some ⟨g, 0, none⟩) n c) l) (j : Nat) (b : UInt8) : OB base (w.setCell ⟨g, j, none⟩ (bv b)) (.slice (some ⟨g, 0, none⟩) n c) (l.set j b) := by
  have hn : n = l.length := by
    rcases h.2 with ⟨e, -⟩ | ⟨g', c', u', e, -⟩
    · simp at e
    · simp only [Value.slice.injEq] at e; exact e.2.1
  subst hn
  exact OB.cast (owns_set h j (bv b)) (by simp) (by rw [List.map_set])
/-- where a row of the call's own that has bytes lies -/
theorem OB.lies {base : Nat} {w : World} {v : Value} {l : List UInt8} (h : OB base w v l) (h0 : 0 < l.length) : ∃ g c, v = .slice (some ⟨g, 0, none⟩) l.length c ∧ base ≤ g ∧ g < w.heap.size ∧ l.length ≤ c ∧ (∀ k, k < l.length → w.cell? ⟨g, k, none⟩ = (l.map bv)[k]?) ∧ ∀ k, w.frozen? ⟨g, k, none⟩ = false := by
  have h' := h
  rcases h.2 with ⟨_, e⟩ | ⟨g, c, cur, rfl, hb, hg, hn, -⟩
  · omega
  · refine ⟨g, c, rfl, hb, (Array.getElem?_eq_some_iff.1 hg).1, hn, fun k hk => ?_, fun k => (blk_cell hg).2⟩
    have := World.ownsRow.cellAt h' k (by omega)
    simpa using this
end Go.Proofs.YtlgefkaafoidmaaDoor
