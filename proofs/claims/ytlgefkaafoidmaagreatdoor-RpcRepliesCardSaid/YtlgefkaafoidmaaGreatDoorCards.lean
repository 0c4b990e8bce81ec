/-
  DERIVED. GIVEN WITH THE SEED: THE CARDS: each row of YtlgefkaafoidmaaGreatDoorRows.lean that lists a variable, with what it lists TIED to the program's text (the seventh form; the later family's looks); each row that meets fmt, with fmt's text TOLD by the authors' own Lean function (tested against real Go, not proved from fmt's source: count such statements apart). THE CARD IS WHAT COUNTS. Prove the row's statement (the work); the ties are given (YtlgefkaafoidmaaGreatDoorTie.lean); close each card by the builder's one call (the guide's Derived/Test/ToyasCard.lean, 'card_holds'). Laid BY PROGRAM, IN A SANDBOX (cutbox-door.mjs). By AI agents, Wed Nov 11 2026. No macro, syntax, notation, axiom, sorry.
-/
import Derived.Test.YtlgefkaafoidmaaGreatDoorRows
import GoSem.ClaimSeven
namespace Go.Proofs.YtlgefkaafoidmaaGreatDoor
namespace Rows

/-- THE TIED CARD OF 'terrazzolaw16.RpcRequests'. -/
def rpcRequestsCard : Claim7 := { stood := { row := rpcRequestsRow, standIns := [], harness := (true, "f6cb1860ec1ea056a12c1ccb6468546a48d9509450e46b7dcc70b5847e73a808"), looks := true }, kinds := [], alts := [], laidByText := true, laidKinds := [.data, .data, .pinned], laidTests := true, laidLooks := .later }
def RpcRequestsCardSaid : Prop := Claim7.holds Tryz.pinned (.plain (OpenSpec.ofChange rpcRequestsSpec)) rpcRequestsCard

/-- THE TIED CARD OF 'terrazzolaw16.RpcReplies'. -/
def rpcRepliesCard : Claim7 := { stood := { row := rpcRepliesRow, standIns := [], harness := (true, "f6cb1860ec1ea056a12c1ccb6468546a48d9509450e46b7dcc70b5847e73a808"), looks := true }, kinds := [], alts := [], laidByText := true, laidKinds := [.data, .data, .pinned], laidTests := true, laidLooks := .later }
def RpcRepliesCardSaid : Prop := Claim7.holds Tryz.pinned (.plain (OpenSpec.ofChange rpcRepliesSpec)) rpcRepliesCard

/-- THE SECOND FORM's CARD OF 'terrazzolaw16.RpcRequests'. -/
def rpcRequestsUptoCard : Claim7 := { stood := { row := rpcRequestsUptoRow, standIns := [], harness := (true, "f6cb1860ec1ea056a12c1ccb6468546a48d9509450e46b7dcc70b5847e73a808"), looks := true }, kinds := [], alts := [], laidByText := true, laidKinds := [.data, .data, .pinned], laidTests := true, laidLooks := .later }
def RpcRequestsUptoCardSaid : Prop := Claim7.holds Tryz.pinned (.plain (OpenSpec.upto rpcRequestsSpec)) rpcRequestsUptoCard

/-- THE SECOND FORM's CARD OF 'terrazzolaw16.RpcReplies'. -/
def rpcRepliesUptoCard : Claim7 := { stood := { row := rpcRepliesUptoRow, standIns := [], harness := (true, "f6cb1860ec1ea056a12c1ccb6468546a48d9509450e46b7dcc70b5847e73a808"), looks := true }, kinds := [], alts := [], laidByText := true, laidKinds := [.data, .data, .pinned], laidTests := true, laidLooks := .later }
def RpcRepliesUptoCardSaid : Prop := Claim7.holds Tryz.pinned (.plain (OpenSpec.upto rpcRepliesSpec)) rpcRepliesUptoCard
end Rows
end Go.Proofs.YtlgefkaafoidmaaGreatDoor
