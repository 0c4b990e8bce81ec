/- The walks of terrazzoref08.May and At. The walk of terrazzoref08.data: a write. -/
import Derived.Test.YtlekdfajcpmolaaGreatDoorGCQ
import Derived.Test.YtlekdfajcpmolaaGreatDoorGCR
import Derived.Test.YtlekdfajcpmolaaGreatDoorGAD
import Derived.Test.YtlekdfajcpmolaaGreatDoorGCP
namespace Go.Proofs.YtlekdfajcpmolaaGreatDoor
open Go.RowKit Go.WideShapes

end Go.Proofs.YtlekdfajcpmolaaGreatDoor
namespace Go.Proofs.YtlekdfajcpmolaaGreatDoor
open Go.RowKit Go.WideShapes

theorem GetRR.ok {A : Nat → Prop} {base n c : Nat} {a : Option Addr} {l : List UInt8} {w w' : World} (hle : w.heap.size ≤ base) (h : OB base w' (.slice a n c) l) (hb : Below w.heap.size w w') : GetRR A (some l) w (.returned (.tuple #[.slice a n c, .bool true])) w' := by
  refine ⟨_, _, _, rfl, h.rb.weak fun _ _ h => .inr (Nat.le_trans hle h), ?_, hb⟩
  obtain ⟨a', c', e⟩ := h.rb.shape
  simp only [Value.slice.injEq] at e
  exact e.2.1
theorem GetRR.no {A : Nat → Prop} {w w' : World} (hb : Below w.heap.size w w') : GetRR A none w (.returned (.tuple #[.slice none 0 0, .bool false])) w' := ⟨_, _, _, rfl, RB.nil _ _, rfl, hb⟩
end Go.Proofs.YtlekdfajcpmolaaGreatDoor
