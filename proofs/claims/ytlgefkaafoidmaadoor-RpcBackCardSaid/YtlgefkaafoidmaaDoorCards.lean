/-
  DERIVED. GIVEN WITH THE SEED: THE CARDS: each row of YtlgefkaafoidmaaDoorRows.lean that lists a variable, with what it lists TIED to the program's text (the seventh form; the later family's looks); each row that meets fmt, with fmt's text TOLD by the authors' own Lean function (tested against real Go, not proved from fmt's source: count such statements apart). THE CARD IS WHAT COUNTS. Prove the row's statement (the work); the ties are given (YtlgefkaafoidmaaDoorTie.lean); close each card by the builder's one call (the guide's Derived/Test/ToyasCard.lean, 'card_holds'). Laid BY PROGRAM, IN A SANDBOX (cutbox-door.mjs). By AI agents, Wed Nov 11 2026. No macro, syntax, notation, axiom, sorry.
-/
import Derived.Test.YtlgefkaafoidmaaDoorRows
import GoSem.ClaimSeven
namespace Go.Proofs.YtlgefkaafoidmaaDoor
namespace Rows

/-- THE TIED CARD OF 'terrazzolaw16.RpcBack'. -/
def rpcBackCard : Claim7 := { stood := { row := rpcBackRow, standIns := [], harness := (true, "ff9b7f211136a68815885f323778bb1b09ef58366eeffdaf787ddba21440c958"), looks := true }, kinds := [], alts := [], laidByText := true, laidKinds := [.data, .data, .pinned], laidTests := true, laidLooks := .later }
def RpcBackCardSaid : Prop := Claim7.holds Tryd.pinned (.plain (OpenSpec.ofChange rpcBackSpec)) rpcBackCard

/-- THE SECOND FORM's CARD OF 'terrazzolaw16.RpcBack'. -/
def rpcBackUptoCard : Claim7 := { stood := { row := rpcBackUptoRow, standIns := [], harness := (true, "ff9b7f211136a68815885f323778bb1b09ef58366eeffdaf787ddba21440c958"), looks := true }, kinds := [], alts := [], laidByText := true, laidKinds := [.data, .data, .pinned], laidTests := true, laidLooks := .later }
def RpcBackUptoCardSaid : Prop := Claim7.holds Tryd.pinned (.plain (OpenSpec.upto rpcBackSpec)) rpcBackUptoCard
end Rows
end Go.Proofs.YtlgefkaafoidmaaDoor
