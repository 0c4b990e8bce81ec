/- The walk of terrazzoref08.Do: what asks. The walk of terrazzoref08.Do: what changes the data. -/
import Derived.Test.YtlekdfajcpmolaaGreatDoorGCU
namespace Go.Proofs.YtlekdfajcpmolaaGreatDoor
open Go.RowKit Go.WideShapes

end Go.Proofs.YtlekdfajcpmolaaGreatDoor
namespace Go.Proofs.YtlekdfajcpmolaaGreatDoor
open Go.RowKit Go.WideShapes

end Go.Proofs.YtlekdfajcpmolaaGreatDoor
