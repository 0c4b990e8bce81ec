/- The walk of terrazzoref08.key. terrazzoref08.Do: what its walks need. -/
import Derived.Test.YtlekdfajcpmolaaGreatDoorGCT
import Derived.Test.YtlekdfajcpmolaaGreatDoorGCP
import Derived.Deep.DeepCutAuto
namespace Go.Proofs.YtlekdfajcpmolaaGreatDoor
open Go.RowKit Go.WideShapes

end Go.Proofs.YtlekdfajcpmolaaGreatDoor
namespace Go.Proofs.YtlekdfajcpmolaaGreatDoor
open Go.RowKit Go.WideShapes

/-- what the reference's Do leaves -/
def DoRR (x : DoR) (w : World) (e : Ending) (w' : World) : Prop := ∃ dv kv, e = .returned (.tuple #[.agg #[dv, kv, .int .i64 x.o.seq], .bool x.there, .bool x.on, .int .i64 x.e]) ∧ ObV (fun _ => True) w' (.agg #[dv, kv, .int .i64 x.o.seq]) x.o ∧ Below w.heap.size w w'
theorem DoRR.no {c : Int} {x : DoR} {w w' : World} (hx : x = DoR.no c) (hb : Below w.heap.size w w') : DoRR x w (.returned (.tuple #[.agg #[.slice none 0 0, .slice none 0 0, .int .i64 0], .bool false, .bool false, .int .i64 c])) w' := by
  subst hx
  exact ⟨_, _, rfl, obv_none _ _, hb⟩
theorem DoRR.ok {x : DoR} {dv kv : Value} {o : ObD} {s : Int} {b : Bool} {th : Bool} {w w' : World} (hx : x = ⟨o, th, b, 0⟩) (hv : ObV (fun _ => True) w' (.agg #[dv, kv, .int .i64 s]) o) (hb : Below w.heap.size w w') : DoRR x w (.returned (.tuple #[.agg #[dv, kv, .int .i64 s], .bool th, .bool b, .int .i64 0])) w' := by
  subst hx
  have hs : s = o.seq := by
    obtain ⟨_, _, e, _⟩ := hv
    simp at e
    exact e.2.2
  subst hs
  exact ⟨_, _, rfl, hv, hb⟩
theorem guardB_hi {o : ObD} {th : Bool} {op : OpD} (hk : 5 ≤ op.kind) : guardB o th op = (0, true) := by
  simp [guardB, show ¬ op.kind = 1 by omega, show ¬ op.kind = 2 by omega, show ¬ op.kind = 3 by omega, show ¬ op.kind = 4 by omega]
theorem doG_some {o o2 : ObD} {th : Bool} {op : OpD} (hk : 5 ≤ op.kind) (hc : changeB o op = some o2) : doG o th op = ⟨if thereB th op.kind then o2 else ObD.none, thereB th op.kind, true, 0⟩ := by
  have := doG_s (o1 := o) (th := th) (op := op) (by rw [guardB_hi hk]) hc
  rw [guardB_hi hk] at this
  exact this
theorem changeB_lo {o : ObD} {op : OpD} (h1 : 1 ≤ op.kind) (h2 : op.kind ≤ 4) : changeB o op = some o := by
  simp [changeB, show ¬ op.kind = 5 by omega, show ¬ op.kind = 6 by omega, show ¬ op.kind = 7 by omega, show ¬ op.kind = 8 by omega, show ¬ op.kind = 9 by omega, show ¬ op.kind = 10 by omega, show ¬ op.kind = 11 by omega, show ¬ op.kind = 12 by omega, show ¬ op.kind = 14 by omega]
theorem thereB_lo {th : Bool} {k : Int} (h : k ≤ 4) : thereB th k = th := by
  simp [thereB, show ¬ k = 5 by omega, show ¬ k = 8 by omega, show ¬ k = 9 by omega, show ¬ k = 11 by omega, show ¬ k = 12 by omega, show ¬ k = 13 by omega]
end Go.Proofs.YtlekdfajcpmolaaGreatDoor
