/- Stores of a whole struct: into a block that was made just now, into one that is known whole. No program is named. -/
import Derived.Test.YtidikciankcopaaDoorSla
import Derived.Deep.MidRow
namespace Go.Proofs.YtidikciankcopaaDoor
open Go.RowKit

/-- the cells vs laid over C from o on -/
def ovw (C : List Value) (o : Nat) : List Value → List Value
  | [] => C
  | v :: r => ovw (C.set o v) (o + 1) r
theorem ovw_len : ∀ (vs : List Value) (C : List Value) (o : Nat), (ovw C o vs).length = C.length
  | [], _, _ => rfl
  | v :: r, C, o => by rw [ovw, ovw_len r, List.length_set]
theorem ovw_at : ∀ (vs : List Value) (C : List Value) (o i : Nat), o + vs.length ≤ C.length → (ovw C o vs)[i]? = if o ≤ i ∧ i < o + vs.length then vs[i - o]? else C[i]?
  | [], C, o, i, _ => by
    rw [ovw, if_neg (by simp only [List.length_nil]; omega)]
  | v :: r, C, o, i, h => by
    simp only [List.length_cons] at h
    rw [ovw, ovw_at r (C.set o v) (o + 1) i (by rw [List.length_set]; omega)]
    by_cases h1 : o + 1 ≤ i ∧ i < o + 1 + r.length
    · rw [if_pos h1, if_pos (by simp only [List.length_cons]; omega)]
      rw [show i - o = (i - (o + 1)) + 1 by omega, List.getElem?_cons_succ]
    · rw [if_neg h1]
      by_cases h2 : i = o
      · subst h2
        rw [if_pos (by simp only [List.length_cons]; omega), Nat.sub_self, List.getElem?_cons_zero, List.getElem?_set_self (by omega)]
      · rw [if_neg (by simp only [List.length_cons]; omega), List.getElem?_set_ne (by omega)]
theorem ovw_all (C vs : List Value) (h : C.length = vs.length) : ovw C 0 vs = vs := by
  apply List.ext_getElem?
  intro i
  rw [ovw_at vs C 0 i (by omega)]
  by_cases hi : i < vs.length
  · rw [if_pos (by omega), Nat.sub_zero]
  · rw [if_neg (by omega), List.getElem?_eq_none (by omega), List.getElem?_eq_none (by omega)]
theorem setCells_blk {b : Nat} {t : TypeId} : ∀ (vs : List Value) (o : Nat) (w : World) (C : Array Value), w.heap[b]? = some (.cells C t (0, 0)) → (w.setCells b o vs).heap[b]? = some (.cells (ovw C.toList o vs).toArray t (0, 0))
  | [], o, w, C, h => by simpa [ovw, World.setCells] using h
  | v :: r, o, w, C, h => by
    have h1 : (w.setCell ⟨b, o, none⟩ v).heap[b]? = some (.cells (C.setIfInBounds o v) t (0, 0)) := by
      have hlt := (Array.getElem?_eq_some_iff.1 h).1
      simp [World.setCell, Array.getElem?_modify, h]
    have := setCells_blk r (o + 1) _ _ h1
    rw [World.setCells, this]
    simp [ovw]
/-- one block has turned -/
structure Put (w w' : World) (b : Nat) (o : Obj) : Prop where
  blk : w'.heap[b]? = some o
  other : ∀ k, k ≠ b → w'.heap[k]? = w.heap[k]?
  size : w'.heap.size = w.heap.size
  os : w'.os = w.os
  tape : w'.tape = w.tape
  output : w'.output = w.output
namespace Put
variable {w w' : World} {b : Nat} {o : Obj}
theorem same {A : Nat → Prop} (h : Put w w' b o) (hA : ¬ A b) : Same A w w' := ⟨by rw [h.size]; exact Nat.le_refl _, fun k hk _ => h.other k (fun e => by subst e; exact hA hk)⟩
theorem below {B : Nat} {w0 : World} (h : Put w w' b o) (hb : Below B w0 w) (hB : B ≤ b) : Below B w0 w' :=
  ⟨h.os.trans hb.os, h.tape.trans hb.tape, h.output.trans hb.output, by rw [h.size]; exact hb.size, fun k hk => (h.other k (by omega)).trans (hb.block k hk)⟩
theorem keep {k : Nat} {o' : Obj} (h : Put w w' b o) (hk : k ≠ b) (hb : w.heap[k]? = some o') : w'.heap[k]? = some o' := (h.other k hk).trans hb
end Put
theorem put_setCells {w : World} {b : Nat} {t : TypeId} {C cells : Array Value} (hb : w.heap[b]? = some (.cells C t (0, 0))) (hn : C.size = cells.size) : Put w (w.setCells b 0 cells.toList) b (.cells cells t (0, 0)) := by
  have hsz : ∀ (vs : List Value) (o : Nat) (w : World), (w.setCells b o vs).heap.size = w.heap.size ∧ (w.setCells b o vs).os = w.os ∧ (w.setCells b o vs).tape = w.tape ∧ (w.setCells b o vs).output = w.output ∧ ∀ k, k ≠ b → (w.setCells b o vs).heap[k]? = w.heap[k]? := by
    intro vs
    induction vs with
    | nil => intro o w; exact ⟨rfl, rfl, rfl, rfl, fun _ _ => rfl⟩
    | cons v r ih =>
      intro o w
      obtain ⟨h1, h2, h3, h4, h5⟩ := ih (o + 1) (w.setCell ⟨b, o, none⟩ v)
      rw [World.setCells]
      refine ⟨h1.trans (by simp [World.setCell]), h2.trans rfl, h3.trans rfl, h4.trans rfl, fun k hk => (h5 k hk).trans (Below.heap_setCell _ _ _ _ fun e => hk e)⟩
  obtain ⟨h1, h2, h3, h4, h5⟩ := hsz cells.toList 0 w
  exact ⟨by rw [setCells_blk cells.toList 0 w C hb, ovw_all _ _ (by simpa using hn)], h5, h1, h2, h3, h4⟩
section
variable {P : Program} {w : World} {ops : Array Oper} {rest : List Oper} {op : Oper} {a : Act} {Q : Exit → Act → World → Prop}
theorem wpList_store_put (hgd : op.guard = none) (ty : TypeId) (x y : Operand) (ho : op.op = .store ty x y) (b : Nat) (cells C : Array Value) (t : TypeId) (hx : a.eval x = .pointer (some ⟨b, 0, none⟩)) (hy : a.eval y = .agg cells)
    (hb : w.heap[b]? = some (.cells C t (0, 0))) (hn : C.size = cells.size) (hi : (P.info? ty).map (·.size) = some cells.size) (h1 : cells.all (·.oneCell') = true)
    (h : ∀ w', Put w w' b (.cells cells t (0, 0)) → wpList P ops Q rest (a.put op.dst undef) w') : wpList P ops Q (op :: rest) a w := by
  refine wpList_store_mid hgd ty x y ho b 0 cells hx hy (fun j hj => ?_) hi h1 (h _ (put_setCells hb hn))
  obtain ⟨e1, e2⟩ := blk_cell (i := 0 + j) hb
  refine ⟨?_, e2⟩
  rw [e1, Array.getElem?_eq_getElem (by omega)]
  rfl
theorem alloc_setCells (w0 : World) (Z cells : Array Value) (t : TypeId) (hn : Z.size = cells.size) : (w0.alloc (.cells Z t)).setCells w0.heap.size 0 cells.toList = w0.alloc (.cells cells t) := by
  have key : ∀ (vs : List Value) (o : Nat) (Z : Array Value), (w0.alloc (.cells Z t)).setCells w0.heap.size o vs = w0.alloc (.cells (ovw Z.toList o vs).toArray t) := by
    intro vs
    induction vs with
    | nil => intro o Z; simp [World.setCells, ovw]
    | cons v r ih =>
      intro o Z
      have e : (w0.alloc (.cells Z t)).setCell ⟨w0.heap.size, o, none⟩ v = w0.alloc (.cells (Z.setIfInBounds o v) t) := World.setCell_alloc_new Z t o v
      rw [World.setCells, e, ih]
      simp [ovw]
  rw [key, ovw_all _ _ (by simpa using hn)]
theorem wpList_store_new {w0 : World} {Z : Array Value} {t : TypeId} (hgd : op.guard = none) (ty : TypeId) (x y : Operand) (ho : op.op = .store ty x y) (cells : Array Value) (hx : a.eval x = .pointer (some ⟨w0.heap.size, 0, none⟩)) (hy : a.eval y = .agg cells)
    (hn : Z.size = cells.size) (hi : (P.info? ty).map (·.size) = some cells.size) (h1 : cells.all (·.oneCell') = true)
    (h : wpList P ops Q rest (a.put op.dst undef) (w0.alloc (.cells cells t))) : wpList P ops Q (op :: rest) a (w0.alloc (.cells Z t)) := by
  refine wpList_store_mid hgd ty x y ho w0.heap.size 0 cells hx hy (fun j hj => ?_) hi h1 (by rw [alloc_setCells w0 Z cells t hn]; exact h)
  obtain ⟨e1, e2⟩ := blk_cell (i := 0 + j) (heap_alloc_new w0 (.cells Z t))
  refine ⟨?_, e2⟩
  rw [e1, Array.getElem?_eq_getElem (by omega)]
  rfl
end
end Go.Proofs.YtidikciankcopaaDoor
