/- How a reply's cells stand while its numbers are read. -/
import Derived.Test.YtlgefkaafoidmaaGreatDoorUnqB
import Derived.Test.YtlgefkaafoidmaaGreatDoorMayP
namespace Go.Proofs.YtlgefkaafoidmaaGreatDoor
open Go.RowKit Go.WideShapes

def nf (ns : List Nat) (k i : Nat) : Value := .int .i64 ((if i < k then ns.getD i 0 else 0 : Nat) : Int)
/-- a reply's cells where so many of its numbers have been read -/
def rpq (ns : List Nat) (k : Nat) : Array Value := #[nf ns k 0, nf ns k 1, nf ns k 2, .int .i64 0, nf ns k 4, nf ns k 5, .bool false, .slice none 0 0, .slice none 0 0, nf ns k 7]
def bo (k : Nat) : Nat := if k = 3 then 1 else if k = 6 then 2 else 0
def co (k : Nat) : Nat := [0, 1, 2, 0, 4, 5, 0, 9].getD k 0
def pcells (q : Nat) : Array Value := #[.pointer (some ⟨q, 0, none⟩), .int .i64 1, .pointer (some ⟨q, 1, none⟩), .int .i64 4, .pointer (some ⟨q, 2, none⟩), .int .i64 6, .pointer (some ⟨q + 1, 0, none⟩), .int .i64 2,
  .pointer (some ⟨q, 4, none⟩), .int .i64 6, .pointer (some ⟨q, 5, none⟩), .int .i64 6, .pointer (some ⟨q + 1 + 1, 0, none⟩), .int .i64 1, .pointer (some ⟨q, 9, none⟩), .int .i64 6]
theorem pcells_at (q k : Nat) (hk : k < 8) : (pcells q)[k * 2]? = some (.pointer (some ⟨q + bo k, co k, none⟩)) ∧ (pcells q)[k * 2 + 1]? = some (.int .i64 (wsP[k]'(by simpa [wsP] using hk) : Nat)) := by
  obtain rfl | rfl | rfl | rfl | rfl | rfl | rfl | rfl : k = 0 ∨ k = 1 ∨ k = 2 ∨ k = 3 ∨ k = 4 ∨ k = 5 ∨ k = 6 ∨ k = 7 := by omega
  all_goals exact ⟨rfl, rfl⟩
theorem wsP_b (k : Nat) (hk : k < wsP.length) : 1 ≤ wsP[k] ∧ wsP[k] ≤ 7 := by
  have : k < 8 := hk
  obtain rfl | rfl | rfl | rfl | rfl | rfl | rfl | rfl : k = 0 ∨ k = 1 ∨ k = 2 ∨ k = 3 ∨ k = 4 ∨ k = 5 ∨ k = 6 ∨ k = 7 := by omega
  all_goals simp [wsP]
theorem bo_le (k : Nat) : bo k ≤ 2 := by
  unfold bo
  split
  · omega
  · split <;> omega
/-- the reply's box, the code's, whether there -/
structure RpL (q : Nat) (ns : List Nat) (k : Nat) (w : World) : Prop where
  mk ::
  a : w.heap[q]? = some (.cells (rpq ns k) 40 (0, 0))
  c : w.heap[q + 1]? = some (.cells #[nf ns k 3] 3 (0, 0))
  t : w.heap[q + 1 + 1]? = some (.cells #[nf ns k 6] 3 (0, 0))
  f : w.heap[q + 1 + 1 + 1]? = some (.cells (pcells q) 63 (0, 0))
section
variable {q k : Nat} {ns : List Nat} {w w' : World}
theorem RpL.lt (h : RpL q ns k w) : q + 3 < w.heap.size := (Array.getElem?_eq_some_iff.1 h.f).1
theorem RpL.keep (h : RpL q ns k w) (hk : ∀ b, q ≤ b → b ≤ q + 3 → w'.heap[b]? = w.heap[b]?) : RpL q ns k w' :=
  ⟨(hk _ (by omega) (by omega)).trans h.a, (hk _ (by omega) (by omega)).trans h.c, (hk _ (by omega) (by omega)).trans h.t, (hk _ (by omega) (by omega)).trans h.f⟩
theorem RpL.ext (h : RpL q ns k w) (hb : Below w.heap.size w w') : RpL q ns k w' := h.keep fun b _ h2 => hb.block b (by have := h.lt; omega)
theorem RpL.get (h : RpL q ns k w) (hk : k < 8) : w.cell? ⟨q + bo k, co k, none⟩ = some (.int .i64 0) ∧ w.frozen? ⟨q + bo k, co k, none⟩ = false := by
  obtain rfl | rfl | rfl | rfl | rfl | rfl | rfl | rfl : k = 0 ∨ k = 1 ∨ k = 2 ∨ k = 3 ∨ k = 4 ∨ k = 5 ∨ k = 6 ∨ k = 7 := by omega
  all_goals first
    | exact blk_cell h.a
    | exact blk_cell h.c
    | exact blk_cell h.t
theorem RpL.ptr (h : RpL q ns k w) (hk : k < 8) : w.cell? ⟨q + 1 + 1 + 1, k * 2, none⟩ = some (.pointer (some ⟨q + bo k, co k, none⟩)) ∧ w.cell? ⟨q + 1 + 1 + 1, k * 2 + 1, none⟩ = some (.int .i64 (wsP[k]'(by simpa [wsP] using hk) : Nat)) :=
  ⟨(blk_cell h.f).1.trans (pcells_at q k hk).1, (blk_cell h.f).1.trans (pcells_at q k hk).2⟩
theorem set_other {w : World} {p b j : Nat} {v : Value} {o : Option Obj} (hb : b ≠ p) (h : w.heap[b]? = o) : (w.setCell ⟨p, j, none⟩ v).heap[b]? = o := (Below.heap_setCell _ ⟨p, j, none⟩ _ _ hb).trans h
theorem RpL.set (h : RpL q ns k w) (hk : k < 8) : RpL q ns (k + 1) (w.setCell ⟨q + bo k, co k, none⟩ (.int .i64 ((ns.getD k 0 : Nat) : Int))) := by
  obtain rfl | rfl | rfl | rfl | rfl | rfl | rfl | rfl : k = 0 ∨ k = 1 ∨ k = 2 ∨ k = 3 ∨ k = 4 ∨ k = 5 ∨ k = 6 ∨ k = 7 := by omega
  all_goals
    first
    | exact ⟨set_blk3 (p := q) h.a, set_other (by show _ ≠ q; omega) h.c, set_other (by show _ ≠ q; omega) h.t, set_other (by show _ ≠ q; omega) h.f⟩
    | exact ⟨set_other (by show _ ≠ q + 1; omega) h.a, set_blk3 (p := q + 1) h.c, set_other (by show _ ≠ q + 1; omega) h.t, set_other (by show _ ≠ q + 1; omega) h.f⟩
    | exact ⟨set_other (by show _ ≠ q + 2; omega) h.a, set_other (by show _ ≠ q + 2; omega) h.c, set_blk3 (p := q + 2) h.t, set_other (by show _ ≠ q + 2; omega) h.f⟩
end
theorem eight {l : List Nat} (h : l.length = 8) : ∃ a b c d e f g i, l = [a, b, c, d, e, f, g, i] := by
  match l, h with
  | [a, b, c, d, e, f, g, i], _ => exact ⟨a, b, c, d, e, f, g, i, rfl⟩
/-- the four boxes are made -/
theorem RpL.new (w : World) (ns : List Nat) : RpL w.heap.size ns 0 ((((w.alloc (.cells (rpq ns 0) 40)).alloc (.cells #[nf ns 0 3] 3)).alloc (.cells #[nf ns 0 6] 3)).alloc (.cells (pcells w.heap.size) 63)) := by
  have s1 : ∀ (W : World) o, (W.alloc o).heap.size = W.heap.size + 1 := fun W o => World.size_alloc _ _
  refine ⟨?_, ?_, ?_, ?_⟩
  · refine (Below.heap_alloc _ _ _ (by simp only [s1]; omega)).trans ((Below.heap_alloc _ _ _ (by simp only [s1]; omega)).trans ((Below.heap_alloc _ _ _ (by simp only [s1]; omega)).trans (heap_alloc_new _ _)))
  · refine (Below.heap_alloc _ _ _ (by simp only [s1]; omega)).trans ((Below.heap_alloc _ _ _ (by simp only [s1]; omega)).trans ?_)
    simpa only [s1] using heap_alloc_new (w.alloc (.cells (rpq ns 0) 40)) (.cells #[nf ns 0 3] 3)
  · refine (Below.heap_alloc _ _ _ (by simp only [s1]; omega)).trans ?_
    simpa only [s1] using heap_alloc_new ((w.alloc (.cells (rpq ns 0) 40)).alloc (.cells #[nf ns 0 3] 3)) (.cells #[nf ns 0 6] 3)
  · simpa only [s1] using heap_alloc_new (((w.alloc (.cells (rpq ns 0) 40)).alloc (.cells #[nf ns 0 3] 3)).alloc (.cells #[nf ns 0 6] 3)) (.cells (pcells w.heap.size) 63)
end Go.Proofs.YtlgefkaafoidmaaGreatDoor
