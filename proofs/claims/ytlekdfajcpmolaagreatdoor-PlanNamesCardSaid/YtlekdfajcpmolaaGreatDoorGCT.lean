/- The walks of terrazzoref08.data: noughts, a cut; of terrazzoref08.Read. The walks of terrazzoref08.guard and key. -/
import Derived.Test.YtlekdfajcpmolaaGreatDoorGCS
import Derived.Test.YtlekdfajcpmolaaGreatDoorGCN
import Derived.Test.YtlekdfajcpmolaaGreatDoorGCP
import Derived.Test.YtlekdfajcpmolaaGreatDoorRefE8
namespace Go.Proofs.YtlekdfajcpmolaaGreatDoor
open Go.RowKit Go.WideShapes

end Go.Proofs.YtlekdfajcpmolaaGreatDoor
namespace Go.Proofs.YtlekdfajcpmolaaGreatDoor
open Go.RowKit Go.WideShapes

def GrdRR (x : Int × Bool) (w : World) (e : Ending) (w' : World) : Prop := e = .returned (.tuple #[.bool x.2, .int .i64 x.1]) ∧ Below w.heap.size w w'
theorem GrdRR.mk {x : Int × Bool} {b : Bool} {e : Int} {w w' : World} (hx : x = (e, b)) (h : Below w.heap.size w w') : GrdRR x w (.returned (.tuple #[.bool b, .int .i64 e])) w' := by
  subst hx; exact ⟨rfl, h⟩
/-- what a call that gives a key a value answers -/
def RKeyR (A : Nat → Prop) (o : ObD) (x : Option ObD) (w : World) (e : Ending) (w' : World) : Prop := ∃ dv kv, e = .returned (.tuple #[.agg #[dv, kv, .int .i64 (x.getD o).seq], .int .i64 (if x.isSome then 0 else 2)]) ∧ ObV (UpA A w) w' (.agg #[dv, kv, .int .i64 (x.getD o).seq]) (x.getD o) ∧ Below w.heap.size w w'
theorem ObV.cut {A : Nat → Prop} {w : World} {v : Value} {o : ObD} (h : ObV A w v o) : ObV (fun b => A b ∧ b < w.heap.size) w v o := h.weak fun _b hb h => ⟨h, hb⟩
theorem ObV.mono {A : Nat → Prop} {w w' : World} {v : Value} {o : ObD} (h : ObV A w v o) (hs : Same A w w') : ObV A w' v o := by
  obtain ⟨dv, kv, rfl, hd, hk⟩ := h
  exact ⟨dv, kv, rfl, hd.mono hs, hk.mono hs⟩
theorem RKeyR.no {A : Nat → Prop} {o : ObD} {dv kv : Value} {x : Option ObD} {w w' : World} (hx : x = none) (h : ObV (UpA A w) w' (.agg #[dv, kv, .int .i64 o.seq]) o) (hb : Below w.heap.size w w') : RKeyR A o x w (.returned (.tuple #[.agg #[dv, kv, .int .i64 o.seq], .int .i64 2])) w' := by
  subst hx
  exact ⟨_, _, rfl, h, hb⟩
theorem RKeyR.ok {A : Nat → Prop} {o o' : ObD} {dv kv : Value} {x : Option ObD} {w w' : World} (hx : x = some o') (h : ObV (UpA A w) w' (.agg #[dv, kv, .int .i64 o'.seq]) o') (hb : Below w.heap.size w w') : RKeyR A o x w (.returned (.tuple #[.agg #[dv, kv, .int .i64 o'.seq], .int .i64 0])) w' := by
  subst hx
  exact ⟨_, _, rfl, h, hb⟩
end Go.Proofs.YtlekdfajcpmolaaGreatDoor
