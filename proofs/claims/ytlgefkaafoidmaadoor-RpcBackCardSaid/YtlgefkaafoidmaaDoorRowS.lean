/- Rows of the call's own that hold data: append of one datum at a step of a region that draws its order; append of a row. No program is named. -/
import Derived.Test.YtlgefkaafoidmaaDoorGL
import Derived.Deep.AppendLies
import Derived.Deep.RegionHeldLaw
namespace Go.Proofs.YtlgefkaafoidmaaDoor
open Go.RowKit Go.WideShapes

section
variable {P : Program} {ops : Array Oper} {o : Oper} {a : Act} {K : Act → World → Prop} {Q : Exit → Act → World → Prop} {Z : Prop}
/-- 'append(out, x)': out of the call's own, x one datum that lies in a block of its own -/
theorem step_push {α : Type} (w : World) (hgd : o.guard = none) (s x : Operand) (t : TypeId) (ho : o.op = .call { callee := .builtin .append, args := #[s, x], argTypes := #[t, t] })
    (E : Enc α) (A : Nat → Prop) (base : Nat) (e : TypeId) (i : TypeInfo) (z : Value) (bytes : Nat) (ht : P.underlying t = some (.slice e)) (hi : P.info? e = some i) (hz : i.zero = some z)
    (hsize : i.size = E.size) (hby : i.bytes = bytes) (hzs : z.cells.size = E.size) (hsz : 0 < E.size) (hbb : bytes ≤ 1000)
    (v : Value) (l : List α) (hs : a.eval s = v) (hown : EnRow E e A base w v l) (B : Nat) (c : List Value) (tt : TypeId) (y : α)
    (hx : a.eval x = .slice (some ⟨B, 0, none⟩) 1 1) (hB : w.heap[B]? = some (.cells c.toArray tt (0, 0))) (hrd : E.rd A w c y)
    (hl : l.length ≤ 1000000) (hbase : base ≤ w.heap.size) (hA : ∀ b, A b → b < base)
    (h : ∀ g cap w', EnRow E e A base w' (.slice (some ⟨g, 0, none⟩) (l.length + 1) cap) (l ++ [y]) → w.grownBy w' v.ownBlock → Below base w w' → (v.ownBlock = some g ∨ g = w.heap.size) → K (a.put o.dst (.slice (some ⟨g, 0, none⟩) (l.length + 1) cap)) w') :
    if Region.wanted o (yielded ops a.tmps) = true then Oper.wp P o a w K Q else Z := by
  obtain ⟨cs, h1, h2, h3⟩ := hown.ex
  refine step_append_lies w hgd s x t ho base e i z E.size bytes ht hi hz hsize hby hzs hsz v l.length cs.flatten hs h3 ⟨B, 0, none⟩ 1 1 c hx (by rw [Nat.one_mul]; exact E.len hrd) (fun j u hj => World.news_of_block hB j u (by simpa using hj)) (E.one hrd) (by decide) (by unfold maxLen; omega) ?_ hbase w.heap.size rfl ?_
  · exact Nat.le_trans (Nat.mul_le_mul (show l.length + 1 ≤ 1000001 by omega) hbb) (by decide)
  · intro g cap w' h4 h5 h6 _
    have hb : Below base w w' := (Below.refl base w).grown h5 hbase fun j hj => (h3.lt j hj).1
    exact h g cap w' (EnRow.push h1 h2 (Same.of_below hb hA) hrd (by simpa using h4)) h5 hb h6
end
section
variable {P : Program} {ops : Array Oper} {rest : List Oper} {o : Oper} {a : Act} {Q : Exit → Act → World → Prop}
/-- 'append(out, x)' at a list of operations, with where the new row lies -/
theorem wpList_pushG {α : Type} (w : World) (hgd : o.guard = none) (s x : Operand) (t : TypeId) (ho : o.op = .call { callee := .builtin .append, args := #[s, x], argTypes := #[t, t] })
    (E : Enc α) (A : Nat → Prop) (base : Nat) (e : TypeId) (i : TypeInfo) (z : Value) (bytes : Nat) (ht : P.underlying t = some (.slice e)) (hi : P.info? e = some i) (hz : i.zero = some z)
    (hsize : i.size = E.size) (hby : i.bytes = bytes) (hzs : z.cells.size = E.size) (hsz : 0 < E.size) (hbb : bytes ≤ 1000)
    (v : Value) (l : List α) (hs : a.eval s = v) (hown : EnRow E e A base w v l) (B : Nat) (c : List Value) (tt : TypeId) (y : α)
    (hx : a.eval x = .slice (some ⟨B, 0, none⟩) 1 1) (hB : w.heap[B]? = some (.cells c.toArray tt (0, 0))) (hrd : E.rd A w c y)
    (hl : l.length ≤ 1000000) (hbase : base ≤ w.heap.size) (hA : ∀ b, A b → b < base)
    (h : ∀ g cap w', EnRow E e A base w' (.slice (some ⟨g, 0, none⟩) (l.length + 1) cap) (l ++ [y]) → w.grownBy w' v.ownBlock → Below base w w' → (v.ownBlock = some g ∨ g = w.heap.size) → wpList P ops Q rest (a.put o.dst (.slice (some ⟨g, 0, none⟩) (l.length + 1) cap)) w') :
    wpList P ops Q (o :: rest) a w := by
  obtain ⟨cs, h1, h2, h3⟩ := hown.ex
  refine wpList_append_lies w hgd s x t ho base e i z E.size bytes ht hi hz hsize hby hzs hsz v l.length cs.flatten hs h3 ⟨B, 0, none⟩ 1 1 c hx (by rw [Nat.one_mul]; exact E.len hrd) (fun j u hj => World.news_of_block hB j u (by simpa using hj)) (E.one hrd) (by decide) (by unfold maxLen; omega) ?_ hbase w.heap.size rfl ?_
  · exact Nat.le_trans (Nat.mul_le_mul (show l.length + 1 ≤ 1000001 by omega) hbb) (by decide)
  · intro g cap w' h4 h5 h6 _
    have hb : Below base w w' := (Below.refl base w).grown h5 hbase fun j hj => (h3.lt j hj).1
    exact h g cap w' (EnRow.push h1 h2 (Same.of_below hb hA) hrd (by simpa using h4)) h5 hb h6
/-- 'append(out, src...)': out of the call's own, src any row of data -/
theorem wpList_appE {α : Type} (w : World) (hgd : o.guard = none) (s x : Operand) (t : TypeId) (ho : o.op = .call { callee := .builtin .append, args := #[s, x], argTypes := #[t, t] })
    (E : Enc α) (A : Nat → Prop) (base : Nat) (e : TypeId) (i : TypeInfo) (z : Value) (bytes : Nat) (ht : P.underlying t = some (.slice e)) (hi : P.info? e = some i) (hz : i.zero = some z)
    (hsize : i.size = E.size) (hby : i.bytes = bytes) (hzs : z.cells.size = E.size) (hsz : 0 < E.size) (hbb : bytes ≤ 1000)
    (v : Value) (l : List α) (hs : a.eval s = v) (hown : EnRow E e A base w v l) (sv : Value) (m : List α)
    (hx : a.eval x = sv) (hsl : SlE E A w sv m) (hl : l.length + m.length ≤ 1000000) (hbase : base ≤ w.heap.size) (hA : ∀ b, A b → b < base)
    (h : ∀ v' w', EnRow E e A base w' v' (l ++ m) → Below base w w' → wpList P ops Q rest (a.put o.dst v') w') : wpList P ops Q (o :: rest) a w := by
  obtain ⟨cs, h1, h2, h3⟩ := hown.ex
  obtain ⟨ds, k1, k2, k3⟩ := hsl.flat
  have hone : ∀ u ∈ ds.flatten, u.oneCell' = true := by
    intro u hu
    obtain ⟨c, hc, hu⟩ := List.mem_flatten.1 hu
    obtain ⟨j, hj, rfl⟩ := List.getElem_of_mem hc
    exact E.one (k2 j _ _ (List.getElem?_eq_getElem (by omega)) (List.getElem?_eq_getElem hj)) u hu
  refine wpList_append_sl hgd s x t ho base e i z E.size bytes ht hi hz hsize hby hzs hsz v l.length cs.flatten hs h3 A sv m.length ds.flatten hx k3 hone (by unfold maxLen; omega) ?_ hbase ?_
  · exact Nat.le_trans (Nat.mul_le_mul (show l.length + m.length ≤ 1000001 by omega) hbb) (by decide)
  · intro v' w' h4 h5
    have hb : Below base w w' := (Below.refl base w).grown h5 hbase fun j hj => (h3.lt j hj).1
    refine h v' w' ⟨⟨cs ++ ds, by simp [h1, k1], fun i y d hi hd => ?_, by simpa using h4⟩⟩ hb
    by_cases hlt : i < l.length
    · rw [List.getElem?_append_left hlt] at hi
      rw [List.getElem?_append_left (by omega)] at hd
      exact E.mono (h2 i y d hi hd) (Same.of_below hb hA)
    · rw [List.getElem?_append_right (by omega)] at hi hd
      rw [h1] at hd
      exact E.mono (k2 _ y d hi hd) (Same.of_below hb hA)
end
theorem EnRow.set {α : Type} {E : Enc α} {t : TypeId} {A : Nat → Prop} {base p j : Nat} {w : World} {v x : Value} {l : List α} (h : EnRow E t A base w v l) (hv : v.ownBlock ≠ some p) (hA : ¬ A p) : EnRow E t A base (w.setCell ⟨p, j, none⟩ x) v l := by
  obtain ⟨cs, h1, h2, h3⟩ := h.ex
  refine ⟨⟨cs, h1, fun i y c hi hc => E.mono (h2 i y c hi hc) ⟨by simp [World.setCell], fun b hb _ => Below.heap_setCell _ _ _ _ (fun e => hA (by have e2 : b = p := e; rw [← e2]; exact hb))⟩, ?_⟩⟩
  refine ⟨h3.1, h3.2.imp id ?_⟩
  rintro ⟨g, cap, cur, rfl, h4, h5, h6⟩
  refine ⟨g, cap, cur, rfl, h4, (Below.heap_setCell _ _ _ _ (fun e => hv (by have e2 : g = p := e; rw [e2]; rfl))).trans h5, h6⟩
/-- a row of one datum that the call has made -/
theorem EnRow.one {α : Type} {E : Enc α} {t : TypeId} {A : Nat → Prop} {base g : Nat} {w : World} {c : List Value} {y : α} (hb : w.heap[g]? = some (.cells c.toArray t (0, 0))) (hr : E.rd A w c y) (hg : base ≤ g) : EnRow E t A base w (.slice (some ⟨g, 0, none⟩) 1 1) [y] := by
  have hlen := E.len hr
  refine ⟨⟨[c], rfl, fun i x d hi hd => ?_, by simp [hlen], .inr ⟨g, 1, c.toArray, rfl, hg, hb, Nat.le_refl _, by unfold maxLen; omega, by simp [hlen], ?_⟩⟩⟩
  · match i, hi, hd with
    | 0, hi, hd => cases hi; cases hd; exact hr
  · rw [List.take_of_length_le (by simp [hlen])]
    simp
end Go.Proofs.YtlgefkaafoidmaaDoor
