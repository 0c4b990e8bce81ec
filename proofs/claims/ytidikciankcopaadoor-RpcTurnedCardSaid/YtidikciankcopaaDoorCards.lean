/-
  DERIVED. GIVEN WITH THE SEED: THE CARDS: each row of YtidikciankcopaaDoorRows.lean that lists a variable, with what it lists TIED to the program's text (the seventh form; the later family's looks); each row that meets fmt, with fmt's text TOLD by the authors' own Lean function (tested against real Go, not proved from fmt's source: count such statements apart). THE CARD IS WHAT COUNTS. Prove the row's statement (the work); the ties are given (YtidikciankcopaaDoorTie.lean); close each card by the builder's one call (the guide's Derived/Test/ToyasCard.lean, 'card_holds'). Laid BY PROGRAM, IN A SANDBOX (cutbox-door.mjs). By AI agents, Wed Nov 11 2026. No macro, syntax, notation, axiom, sorry.
-/
import Derived.Test.YtidikciankcopaaDoorRows
import GoSem.ClaimSeven
namespace Go.Proofs.YtidikciankcopaaDoor
namespace Rows

/-- THE TIED CARD OF 'terrazzolaw16.RpcSessions'. -/
def rpcSessionsCard : Claim7 := { stood := { row := rpcSessionsRow, standIns := [], harness := (true, "7f9a4c32da41915d5c96ab085384fbea57c06600070d94d9e4b5cb0ac43421fc"), looks := true }, kinds := [], alts := [], laidByText := true, laidKinds := [.data, .data, .pinned], laidTests := true, laidLooks := .later }
def RpcSessionsCardSaid : Prop := Claim7.holds Tryd.pinned (.plain (OpenSpec.ofChange rpcSessionsSpec)) rpcSessionsCard

/-- THE TIED CARD OF 'terrazzolaw16.RpcTurned'. -/
def rpcTurnedCard : Claim7 := { stood := { row := rpcTurnedRow, standIns := [], harness := (true, "7f9a4c32da41915d5c96ab085384fbea57c06600070d94d9e4b5cb0ac43421fc"), looks := true }, kinds := [], alts := [], laidByText := true, laidKinds := [.data, .data, .pinned], laidTests := true, laidLooks := .later }
def RpcTurnedCardSaid : Prop := Claim7.holds Tryd.pinned (.plain (OpenSpec.ofChange rpcTurnedSpec)) rpcTurnedCard

/-- THE TIED CARD OF 'terrazzolaw16.RpcCaches'. -/
def rpcCachesCard : Claim7 := { stood := { row := rpcCachesRow, standIns := [], harness := (true, "7f9a4c32da41915d5c96ab085384fbea57c06600070d94d9e4b5cb0ac43421fc"), looks := true }, kinds := [], alts := [], laidByText := true, laidKinds := [.data, .data, .pinned], laidTests := true, laidLooks := .later }
def RpcCachesCardSaid : Prop := Claim7.holds Tryd.pinned (.plain (OpenSpec.ofChange rpcCachesSpec)) rpcCachesCard

/-- THE TIED CARD OF 'terrazzolaw16.RpcOnce'. -/
def rpcOnceCard : Claim7 := { stood := { row := rpcOnceRow, standIns := [], harness := (true, "7f9a4c32da41915d5c96ab085384fbea57c06600070d94d9e4b5cb0ac43421fc"), looks := true }, kinds := [], alts := [], laidByText := true, laidKinds := [.data, .data, .pinned], laidTests := true, laidLooks := .later }
def RpcOnceCardSaid : Prop := Claim7.holds Tryd.pinned (.plain (OpenSpec.ofChange rpcOnceSpec)) rpcOnceCard

/-- THE TIED CARD OF 'terrazzolaw16.RpcNone'. -/
def rpcNoneCard : Claim7 := { stood := { row := rpcNoneRow, standIns := [], harness := (true, "7f9a4c32da41915d5c96ab085384fbea57c06600070d94d9e4b5cb0ac43421fc"), looks := true }, kinds := [], alts := [], laidByText := true, laidKinds := [.data, .data, .pinned], laidTests := true, laidLooks := .later }
def RpcNoneCardSaid : Prop := Claim7.holds Tryd.pinned (.plain (OpenSpec.ofChange rpcNoneSpec)) rpcNoneCard

/-- THE SECOND FORM's CARD OF 'terrazzolaw16.RpcSessions'. -/
def rpcSessionsUptoCard : Claim7 := { stood := { row := rpcSessionsUptoRow, standIns := [], harness := (true, "7f9a4c32da41915d5c96ab085384fbea57c06600070d94d9e4b5cb0ac43421fc"), looks := true }, kinds := [], alts := [], laidByText := true, laidKinds := [.data, .data, .pinned], laidTests := true, laidLooks := .later }
def RpcSessionsUptoCardSaid : Prop := Claim7.holds Tryd.pinned (.plain (OpenSpec.upto rpcSessionsSpec)) rpcSessionsUptoCard

/-- THE SECOND FORM's CARD OF 'terrazzolaw16.RpcTurned'. -/
def rpcTurnedUptoCard : Claim7 := { stood := { row := rpcTurnedUptoRow, standIns := [], harness := (true, "7f9a4c32da41915d5c96ab085384fbea57c06600070d94d9e4b5cb0ac43421fc"), looks := true }, kinds := [], alts := [], laidByText := true, laidKinds := [.data, .data, .pinned], laidTests := true, laidLooks := .later }
def RpcTurnedUptoCardSaid : Prop := Claim7.holds Tryd.pinned (.plain (OpenSpec.upto rpcTurnedSpec)) rpcTurnedUptoCard

/-- THE SECOND FORM's CARD OF 'terrazzolaw16.RpcCaches'. -/
def rpcCachesUptoCard : Claim7 := { stood := { row := rpcCachesUptoRow, standIns := [], harness := (true, "7f9a4c32da41915d5c96ab085384fbea57c06600070d94d9e4b5cb0ac43421fc"), looks := true }, kinds := [], alts := [], laidByText := true, laidKinds := [.data, .data, .pinned], laidTests := true, laidLooks := .later }
def RpcCachesUptoCardSaid : Prop := Claim7.holds Tryd.pinned (.plain (OpenSpec.upto rpcCachesSpec)) rpcCachesUptoCard

/-- THE SECOND FORM's CARD OF 'terrazzolaw16.RpcOnce'. -/
def rpcOnceUptoCard : Claim7 := { stood := { row := rpcOnceUptoRow, standIns := [], harness := (true, "7f9a4c32da41915d5c96ab085384fbea57c06600070d94d9e4b5cb0ac43421fc"), looks := true }, kinds := [], alts := [], laidByText := true, laidKinds := [.data, .data, .pinned], laidTests := true, laidLooks := .later }
def RpcOnceUptoCardSaid : Prop := Claim7.holds Tryd.pinned (.plain (OpenSpec.upto rpcOnceSpec)) rpcOnceUptoCard

/-- THE SECOND FORM's CARD OF 'terrazzolaw16.RpcNone'. -/
def rpcNoneUptoCard : Claim7 := { stood := { row := rpcNoneUptoRow, standIns := [], harness := (true, "7f9a4c32da41915d5c96ab085384fbea57c06600070d94d9e4b5cb0ac43421fc"), looks := true }, kinds := [], alts := [], laidByText := true, laidKinds := [.data, .data, .pinned], laidTests := true, laidLooks := .later }
def RpcNoneUptoCardSaid : Prop := Claim7.holds Tryd.pinned (.plain (OpenSpec.upto rpcNoneSpec)) rpcNoneUptoCard
end Rows
end Go.Proofs.YtidikciankcopaaDoor
