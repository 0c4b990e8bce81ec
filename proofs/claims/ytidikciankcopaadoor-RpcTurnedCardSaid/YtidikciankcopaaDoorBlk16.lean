/- Small laws on blocks that a walk keeps in sight: behind calls and allocs; a request's and a reply's cells. -/
import Derived.Test.YtidikciankcopaaDoorSesB
namespace Go.Proofs.YtidikciankcopaaDoor
open Go.RowKit Go.WideShapes

theorem below_call {w W W' : World} (h : Below w.heap.size w W) (hb : Below W.heap.size W W') : Below w.heap.size w W' := h.trans (hb.mono h.size)
theorem below_new {w W : World} (h : Below w.heap.size w W) (o : Obj) : Below w.heap.size w (W.alloc o) := h.alloc h.size o
theorem blkk {W W' : World} {k : Nat} {o : Obj} (hb : Below W.heap.size W W') (h : W.heap[k]? = some o) : W'.heap[k]? = some o := (hb.block k (Array.getElem?_eq_some_iff.1 h).1).trans h
theorem blka {W : World} {k : Nat} {o : Obj} (h : W.heap[k]? = some o) (o' : Obj) : (W.alloc o').heap[k]? = some o := (Below.heap_alloc _ _ _ (Array.getElem?_eq_some_iff.1 h).1).trans h
theorem rq_cells {W : World} {k : Nat} {t : TypeId} {q : RqD} {ov : Value} (h : W.heap[k]? = some (.cells (rqC q ov) t (0, 0))) :
    W.cell? ⟨k, 0, none⟩ = some (.int .i64 q.client) ∧ W.cell? ⟨k, 1, none⟩ = some (.int .i64 q.life) ∧ W.cell? ⟨k, 2, none⟩ = some (.int .i64 q.seq) ∧ W.cell? ⟨k, 3, none⟩ = some (.int .i64 q.kind) ∧ W.cell? ⟨k, 4, none⟩ = some (.int .i64 q.image) ∧ W.cell? ⟨k, 5, none⟩ = some (.int .i64 q.who) ∧ W.cell? ⟨k, 6, none⟩ = some (.int .i64 q.n) ∧ W.cell? ⟨k, 7, none⟩ = some (.string q.txn.obj) ∧ W.cell? ⟨k, 8, none⟩ = some ov ∧ k < W.heap.size := by
  refine ⟨?_, ?_, ?_, ?_, ?_, ?_, ?_, ?_, ?_, (Array.getElem?_eq_some_iff.1 h).1⟩
  all_goals exact (blk_cell h).1
def rpC (p : RpD) (dv kv : Value) : Array Value := #[.int .i64 p.client, .int .i64 p.life, .int .i64 p.seq, .int .i64 p.e, .int .i64 p.n, .int .i64 p.index, .bool p.there, dv, kv, .int .i64 p.obj.seq]
theorem rp_cells {W : World} {k : Nat} {t : TypeId} {p : RpD} {dv kv : Value} (h : W.heap[k]? = some (.cells (rpC p dv kv) t (0, 0))) :
    W.cell? ⟨k, 0, none⟩ = some (.int .i64 p.client) ∧ W.cell? ⟨k, 1, none⟩ = some (.int .i64 p.life) ∧ W.cell? ⟨k, 2, none⟩ = some (.int .i64 p.seq) ∧ W.cell? ⟨k, 3, none⟩ = some (.int .i64 p.e) ∧ W.cell? ⟨k, 4, none⟩ = some (.int .i64 p.n) ∧ W.cell? ⟨k, 5, none⟩ = some (.int .i64 p.index) ∧ W.cell? ⟨k, 6, none⟩ = some (.bool p.there) ∧ W.cell? ⟨k, 7, none⟩ = some dv ∧ W.cell? ⟨k, 8, none⟩ = some kv ∧ W.cell? ⟨k, 9, none⟩ = some (.int .i64 p.obj.seq) ∧ k < W.heap.size := by
  refine ⟨?_, ?_, ?_, ?_, ?_, ?_, ?_, ?_, ?_, ?_, (Array.getElem?_eq_some_iff.1 h).1⟩
  all_goals exact (blk_cell h).1
end Go.Proofs.YtidikciankcopaaDoor
