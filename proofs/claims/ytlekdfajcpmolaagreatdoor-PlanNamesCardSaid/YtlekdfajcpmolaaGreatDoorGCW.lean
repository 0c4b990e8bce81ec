/- The walk of terrazzoref08.Do: what sets. The walk of terrazzoref08.Do: keys. -/
import Derived.Test.YtlekdfajcpmolaaGreatDoorGCU
namespace Go.Proofs.YtlekdfajcpmolaaGreatDoor
open Go.RowKit Go.WideShapes

end Go.Proofs.YtlekdfajcpmolaaGreatDoor
namespace Go.Proofs.YtlekdfajcpmolaaGreatDoor
open Go.RowKit Go.WideShapes

end Go.Proofs.YtlekdfajcpmolaaGreatDoor
