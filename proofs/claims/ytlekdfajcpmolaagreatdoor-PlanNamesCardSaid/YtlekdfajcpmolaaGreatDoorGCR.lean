/- The walk of terrazzoref08.At. The walk of terrazzoref08.Same at any two objects. -/
import Derived.Test.YtlekdfajcpmolaaGreatDoorGCQ
namespace Go.Proofs.YtlekdfajcpmolaaGreatDoor
open Go.RowKit Go.WideShapes

end Go.Proofs.YtlekdfajcpmolaaGreatDoor
namespace Go.Proofs.YtlekdfajcpmolaaGreatDoor
open Go.RowKit Go.WideShapes

end Go.Proofs.YtlekdfajcpmolaaGreatDoor
