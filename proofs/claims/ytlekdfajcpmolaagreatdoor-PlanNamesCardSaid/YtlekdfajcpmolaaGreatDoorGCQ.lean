/- The walk of object.Do. What the references of layer 8 compute, plainly: it is what object's functions compute. No program is named. The walks of terrazzoref08.Name, May, Get, At: what the reference asks and reads. -/
import Derived.Test.YtlekdfajcpmolaaGreatDoorGCP
import Derived.Test.YtlekdfajcpmolaaGreatDoorGAC
import Derived.Test.YtlekdfajcpmolaaGreatDoorGCO
import Derived.Test.YtlekdfajcpmolaaGreatDoorGCN
namespace Go.Proofs.YtlekdfajcpmolaaGreatDoor
open Go.RowKit Go.WideShapes

theorem dcall {w W W' : World} (h : Below w.heap.size w W) (hb : Below W.heap.size W W') : Below w.heap.size w W' := h.trans (hb.mono h.size)
theorem dblk {W W' : World} {k : Nat} {o : Obj} (hb : Below W.heap.size W W') (h : W.heap[k]? = some o) : W'.heap[k]? = some o := (hb.block k (Array.getElem?_eq_some_iff.1 h).1).trans h
theorem dnew {W : World} {k : Nat} {o : Obj} (h : W.heap[k]? = some o) (o' : Obj) : (W.alloc o').heap[k]? = some o := (Below.heap_alloc _ _ _ (Array.getElem?_eq_some_iff.1 h).1).trans h
theorem obv_none (A : Nat → Prop) (w : World) : ObV A w (.agg #[.slice none 0 0, .slice none 0 0, .int .i64 0]) ObD.none := ⟨_, _, rfl, RB.nil _ _, SlE.nil _ _ _⟩
/-- what object.Do leaves -/
def DoOut (x : DoR) (w : World) (e : Ending) (w' : World) : Prop := ∃ dv kv, e = .returned (.tuple #[.agg #[dv, kv, .int .i64 x.o.seq], .bool x.there, .bool x.on, .int .i64 x.e]) ∧ Own8 w.heap.size w' dv kv x.o ∧ Below w.heap.size w w'
theorem DoOut.no {c : Int} {x : DoR} {w w' : World} (hx : x = DoR.no c) (hb : Below w.heap.size w w') : DoOut x w (.returned (.tuple #[.agg #[.slice none 0 0, .slice none 0 0, .int .i64 0], .bool false, .bool false, .int .i64 c])) w' := by
  subst hx
  exact ⟨_, _, rfl, Own8.none _ _, hb⟩
theorem DoOut.ok {x : DoR} {dv kv : Value} {o : ObD} {b : Bool} {th : Bool} {w w' : World} (hx : x = ⟨o, th, b, 0⟩) (hv : Own8 w.heap.size w' dv kv o) (hb : Below w.heap.size w w') : DoOut x w (.returned (.tuple #[.agg #[dv, kv, .int .i64 o.seq], .bool th, .bool b, .int .i64 0])) w' := by
  subst hx
  exact ⟨_, _, rfl, hv, hb⟩
theorem ObV.weak {A A' : Nat → Prop} {w : World} {v : Value} {o : ObD} (h : ObV A w v o) (hs : ∀ b, b < w.heap.size → A b → A' b) : ObV A' w v o := by
  obtain ⟨dv, kv, rfl, hd, hk⟩ := h
  exact ⟨dv, kv, rfl, hd.weak hs, hk.weak hs⟩
theorem Own8.base_le {base base' : Nat} {w : World} {dv kv : Value} {o : ObD} (h : Own8 base w dv kv o) (hb : base' ≤ base) : Own8 base' w dv kv o := by
  obtain ⟨hd, cs, hk, hc⟩ := h
  refine ⟨hd.base_le hb, cs, ⟨hk.1, hk.2.imp id ?_⟩, hc.weak fun i b _ _ h => ⟨Nat.le_trans hb h.1, h.2⟩⟩
  rintro ⟨g, cap, cur, h0, h1, h2⟩
  exact ⟨g, cap, cur, h0, Nat.le_trans hb h1, h2⟩
theorem doB_bad {o : ObD} {th : Bool} {op : OpD} (h : mayB o = false ∨ ¬ 1 ≤ op.kind ∨ ¬ op.kind ≤ 14) : doB o th op = DoR.no 1 := by
  unfold doB
  have : (mayB o && decide (1 ≤ op.kind) && decide (op.kind ≤ 14)) = false := by
    rcases h with h | h | h <;> simp [h]
  rw [this]
  rfl
theorem mayB_none : mayB ObD.none = true := by decide
/-- what is done to an object that may be, by an op of a kind -/
def doG (o1 : ObD) (th : Bool) (op : OpD) : DoR := if (guardB o1 th op).1 = 0 then (match changeB o1 op with
      | none => DoR.no 2
      | some o2 => ⟨if thereB th op.kind then o2 else ObD.none, thereB th op.kind, (guardB o1 th op).2, 0⟩) else DoR.no (guardB o1 th op).1
theorem doB_good {o : ObD} {th : Bool} {op : OpD} (hm : mayB o = true) (h1 : 1 ≤ op.kind) (h2 : op.kind ≤ 14) : doB o th op = doG (if th then o else ObD.none) th op := by
  unfold doB doG
  simp [hm, h1, h2]
  rfl
theorem doG_g {o1 : ObD} {th : Bool} {op : OpD} (h : (guardB o1 th op).1 ≠ 0) : doG o1 th op = DoR.no (guardB o1 th op).1 := by unfold doG; rw [if_neg h]
theorem doG_n {o1 : ObD} {th : Bool} {op : OpD} (h : (guardB o1 th op).1 = 0) (hc : changeB o1 op = none) : doG o1 th op = DoR.no 2 := by unfold doG; rw [if_pos h, hc]
theorem doG_s {o1 o2 : ObD} {th : Bool} {op : OpD} (h : (guardB o1 th op).1 = 0) (hc : changeB o1 op = some o2) : doG o1 th op = ⟨if thereB th op.kind then o2 else ObD.none, thereB th op.kind, (guardB o1 th op).2, 0⟩ := by unfold doG; rw [if_pos h, hc]
theorem own8_shape {base : Nat} {w : World} {dv kv : Value} {o : ObD} (h : Own8 base w dv kv o) : (∃ a c, dv = .slice a o.data.length c) ∧ ∃ a c, kv = .slice a o.keys.length c := by
  refine ⟨h.data.rb.shape, ?_⟩
  obtain ⟨cs, h1, -⟩ := h.ex
  exact owns_shape h1
end Go.Proofs.YtlekdfajcpmolaaGreatDoor
namespace Go.Proofs.YtlekdfajcpmolaaGreatDoor
open Go.RowKit

/-! put, key by key -/
end Go.Proofs.YtlekdfajcpmolaaGreatDoor
namespace Go.Proofs.YtlekdfajcpmolaaGreatDoor
open Go.RowKit Go.WideShapes

/-- what a call that finds a row of bytes answers: the row lies anywhere -/
def GetRR (A : Nat → Prop) (x : Option (List UInt8)) (w : World) (e : Ending) (w' : World) : Prop := ∃ a n c, e = .returned (.tuple #[.slice a n c, .bool x.isSome]) ∧ RB (UpA A w) w' (.slice a n c) (x.getD []) ∧ n = (x.getD []).length ∧ Below w.heap.size w w'
end Go.Proofs.YtlekdfajcpmolaaGreatDoor
