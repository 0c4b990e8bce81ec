/- Small laws on blocks and worlds, for a seat without object.Do. No function is named. The walk of txn.Unpack. Small laws on blocks that a walk keeps in sight: behind calls and allocs. The walk of txn.Pack. Law 09's examples, awake. -/
import Derived.Test.YtlekdfajcpmolaaGreatDoorGCX
import Derived.Test.YtlekdfajcpmolaaGreatDoorGCS
import Derived.Test.YtlekdfajcpmolaaGreatDoorGCQ
import Derived.Test.YtlekdfajcpmolaaGreatDoorGAC
import Derived.Test.YtlekdfajcpmolaaGreatDoorGCF
import Derived.Test.YtlekdfajcpmolaaGreatDoorGAD
import Derived.Test.YtlekdfajcpmolaaGreatDoorGCH
import Derived.Test.YtlekdfajcpmolaaGreatDoorGAB
import Derived.Test.YtlekdfajcpmolaaGreatDoorPut
import Derived.Laws.IdiomStrings
import Derived.Test.YtlekdfajcpmolaaGreatDoorGCY
import Derived.Lib.SmallJoins
namespace Go.Proofs.YtlekdfajcpmolaaGreatDoor
open Go.RowKit Go.WideShapes

end Go.Proofs.YtlekdfajcpmolaaGreatDoor
namespace Go.Proofs.YtlekdfajcpmolaaGreatDoor
open Go.RowKit Go.WideShapes

def TunR (x : TxD × Int) (w : World) (e : Ending) (w' : World) : Prop := ∃ va, e = .returned (.tuple #[.agg #[.string x.1.obj, va], .int .i64 x.2]) ∧ SlE Enc.op (fun b => w.heap.size ≤ b) w' va x.1.ops ∧ Below w.heap.size w w'
theorem IsRd.set {A : Nat → Prop} {w : World} {p q j : Nat} {r : Rd} {x : Value} (h : IsRd A w p r) (hq : q ≠ p) (hA : ∀ b, A b → b ≠ q) : IsRd A (w.setCell ⟨q, j, none⟩ x) p r :=
  h.same (B := fun b => b ≠ q) ⟨by simp [World.setCell], fun b hb _ => Below.heap_setCell _ _ _ _ hb⟩ (fun e => hq e.symm) hA
section
variable {w : World} {p : Nat} {t : TypeId} {a b c d e x : Value}
theorem set2_blk (h : w.heap[p]? = some (.cells #[a, b] t (0, 0))) : ((w.setCell ⟨p, 0, none⟩ x).setCell ⟨p, 1, none⟩ c).heap[p]? = some (.cells #[x, c] t (0, 0)) := by simp [World.setCell, Array.getElem?_modify, h]
end
theorem infoOpT : (Tryz.prog.info? 47).map (fun i => (i.zero, i.size, i.bytes)) = some (some (.agg #[.int .i64 0, .int .i64 0, .int .i64 0, .string ⟨#[]⟩, .slice none 0 0]), 5, 64) := by kernel_rfl
theorem txUn_ok {l : List UInt8} (h : unpE l = 0) : txUn l = (unpT l, 0) := if_pos h
theorem unpE_chk {l : List UInt8} {y : List OpD × Rd} (hy : unpY l = y) (h : y.2.fin.e = 0) : unpE l = txE ⟨⟨(unpHead l).1.toArray⟩, y.1⟩ := by unfold unpE unpT; rw [hy, if_pos h]
theorem TunR.ok {l : List UInt8} {y : List OpD × Rd} {va : Value} {w w' : World} (hy : unpY l = y) (h : y.2.fin.e = 0) (hE : txE ⟨⟨(unpHead l).1.toArray⟩, y.1⟩ = 0) (hv : SlE Enc.op (fun b => w.heap.size ≤ b) w' va y.1) (hb : Below w.heap.size w w') :
    TunR (txUn l) w (.returned (.tuple #[.agg #[.string ⟨(unpHead l).1.toArray⟩, va], .int .i64 0])) w' := by
  rw [txUn_ok ((unpE_chk hy h).trans hE)]
  refine ⟨va, rfl, ?_, hb⟩
  show SlE _ _ _ _ (unpY l).1
  rw [hy]
  exact hv
end Go.Proofs.YtlekdfajcpmolaaGreatDoor
namespace Go.Proofs.YtlekdfajcpmolaaGreatDoor
open Go.RowKit Go.WideShapes

theorem below_call {w W W' : World} (h : Below w.heap.size w W) (hb : Below W.heap.size W W') : Below w.heap.size w W' := h.trans (hb.mono h.size)
theorem below_new {w W : World} (h : Below w.heap.size w W) (o : Obj) : Below w.heap.size w (W.alloc o) := h.alloc h.size o
theorem blkk {W W' : World} {k : Nat} {o : Obj} (hb : Below W.heap.size W W') (h : W.heap[k]? = some o) : W'.heap[k]? = some o := (hb.block k (Array.getElem?_eq_some_iff.1 h).1).trans h
theorem blka {W : World} {k : Nat} {o : Obj} (h : W.heap[k]? = some o) (o' : Obj) : (W.alloc o').heap[k]? = some o := (Below.heap_alloc _ _ _ (Array.getElem?_eq_some_iff.1 h).1).trans h
end Go.Proofs.YtlekdfajcpmolaaGreatDoor
namespace Go.Proofs.YtlekdfajcpmolaaGreatDoor
open Go.RowKit Go.WideShapes

end Go.Proofs.YtlekdfajcpmolaaGreatDoor
namespace Go.Proofs.YtlekdfajcpmolaaGreatDoor
open Go.RowKit Go.WideShapes

theorem SlE.of_blk {α : Type} {E : Enc α} {A : Nat → Prop} {w : World} {g cap : Nat} {t : TypeId} {l : List α} (cs : List (List Value)) (h1 : cs.length = l.length) (h2 : ∀ (i : Nat) (x : α) (c : List Value), l[i]? = some x → cs[i]? = some c → E.rd A w c x)
    (hb : w.heap[g]? = some (.cells cs.flatten.toArray t (0, 0))) (hl : cs.flatten.length = l.length * E.size) (hA : A g) (hc : l.length ≤ cap) : SlE E A w (.slice (some ⟨g, 0, none⟩) l.length cap) l := by
  refine ⟨⟨cs, h1, h2, hl, .inr ⟨g, 0, cap, rfl, hc, hA, (Array.getElem?_eq_some_iff.1 hb).1, fun j hj => ?_⟩⟩⟩
  rw [(blk_cell hb).1]
  simp
def l9 : List OpD := [⟨4, 0, 3, ⟨#[]⟩, []⟩, ⟨5, 0, 0, ⟨#[]⟩, [97]⟩, ⟨12, 0, 3, ⟨#[]⟩, []⟩]
def t9 : TxD := ⟨⟨#[100, 48, 46, 49]⟩, l9⟩
theorem TDoOut.ways {x : TDoR} {w w' : World} {e : Ending} (h : TDoOut x w e w') : ∃ a c u q, e = .returned (.tuple #[.agg #[.slice a x.o.data.length c, .slice u x.o.keys.length q, .int .i64 x.o.seq], .bool x.there, .int .i64 x.e]) ∧
    Own8 w.heap.size w' (.slice a x.o.data.length c) (.slice u x.o.keys.length q) x.o ∧ Below w.heap.size w w' := by
  obtain ⟨dv, kv, rfl, hv, hb⟩ := h
  obtain ⟨⟨a, c, rfl⟩, u, q, rfl⟩ := own8_shape hv
  exact ⟨_, _, _, _, rfl, hv, hb⟩
theorem rb1 {w : World} {b : Nat} {x : UInt8} {cap : Nat} (h : w.cell? ⟨b, 0, none⟩ = some (.int .u8 x.toNat)) (hc : 1 ≤ cap) : RB (fun _ => True) w (.slice (some ⟨b, 0, none⟩) 1 cap) [x] :=
  ⟨rfl, .inr ⟨b, 0, cap, rfl, World.block_lt_of_cell? w _ h, trivial, hc, fun j hj => by
    have hj2 : j < 1 := hj
    obtain rfl : j = 0 := by omega
    exact h⟩⟩
def c9 (g : Nat) : List (List Value) := [[.int .i64 4, .int .i64 0, .int .i64 3, .string ⟨#[]⟩, .slice none 0 0], [.int .i64 5, .int .i64 0, .int .i64 0, .string ⟨#[]⟩, .slice (some ⟨g, 0, none⟩) 1 1], [.int .i64 12, .int .i64 0, .int .i64 3, .string ⟨#[]⟩, .slice none 0 0]]
end Go.Proofs.YtlekdfajcpmolaaGreatDoor
