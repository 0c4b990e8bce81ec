/-
  DERIVED. GIVEN WITH THE SEED: THE CARDS: each row of YtgdilkhaopnhaaaGreatDoorRows.lean that lists a variable, with what it lists TIED to the program's text (the seventh form; the later family's looks); each row that meets fmt, with fmt's text TOLD by the authors' own Lean function (tested against real Go, not proved from fmt's source: count such statements apart). THE CARD IS WHAT COUNTS. Prove the row's statement (the work); the ties are given (YtgdilkhaopnhaaaGreatDoorTie.lean); close each card by the builder's one call (the guide's Derived/Test/ToyasCard.lean, 'card_holds'). Laid BY PROGRAM, IN A SANDBOX (cutbox-door.mjs). By AI agents, Wed Nov 11 2026. No macro, syntax, notation, axiom, sorry.
-/
import Derived.Test.YtgdilkhaopnhaaaGreatDoorRows
import GoSem.ClaimSeven
namespace Go.Proofs.YtgdilkhaopnhaaaGreatDoor
namespace Rows

/-- THE TIED CARD OF 'terrazzolaw09.TxnDoes'. -/
def txnDoesCard : Claim7 := { stood := { row := txnDoesRow, standIns := [], harness := (true, "0a41fd0c01c50b010a4ba01cc9919ad9a077c60bed7356e89cd27b6b6dbd7dae"), looks := true }, kinds := [], alts := [], laidByText := true, laidKinds := [.data, .handle, .pinned], laidTests := true, laidLooks := .later }
def TxnDoesCardSaid : Prop := Claim7.holds Tryz.pinned (.plain (OpenSpec.ofChange txnDoesSpec)) txnDoesCard

/-- THE TIED CARD OF 'terrazzolaw09.TxnPacks'. -/
def txnPacksCard : Claim7 := { stood := { row := txnPacksRow, standIns := [], harness := (true, "0a41fd0c01c50b010a4ba01cc9919ad9a077c60bed7356e89cd27b6b6dbd7dae"), looks := true }, kinds := [], alts := [], laidByText := true, laidKinds := [.data, .handle, .pinned], laidTests := true, laidLooks := .later }
def TxnPacksCardSaid : Prop := Claim7.holds Tryz.pinned (.plain (OpenSpec.ofChange txnPacksSpec)) txnPacksCard

/-- THE TIED CARD OF 'terrazzolaw09.TxnBack'. -/
def txnBackCard : Claim7 := { stood := { row := txnBackRow, standIns := [], harness := (true, "0a41fd0c01c50b010a4ba01cc9919ad9a077c60bed7356e89cd27b6b6dbd7dae"), looks := true }, kinds := [], alts := [], laidByText := true, laidKinds := [.data, .handle, .pinned], laidTests := true, laidLooks := .later }
def TxnBackCardSaid : Prop := Claim7.holds Tryz.pinned (.plain (OpenSpec.ofChange txnBackSpec)) txnBackCard

/-- THE TIED CARD OF 'terrazzolaw09.TxnTwice'. -/
def txnTwiceCard : Claim7 := { stood := { row := txnTwiceRow, standIns := [], harness := (true, "0a41fd0c01c50b010a4ba01cc9919ad9a077c60bed7356e89cd27b6b6dbd7dae"), looks := true }, kinds := [], alts := [], laidByText := true, laidKinds := [.data, .handle, .pinned], laidTests := true, laidLooks := .later }
def TxnTwiceCardSaid : Prop := Claim7.holds Tryz.pinned (.plain (OpenSpec.ofChange txnTwiceSpec)) txnTwiceCard

/-- THE TIED CARD OF 'terrazzolaw09.TxnAll'. -/
def txnAllCard : Claim7 := { stood := { row := txnAllRow, standIns := [], harness := (true, "0a41fd0c01c50b010a4ba01cc9919ad9a077c60bed7356e89cd27b6b6dbd7dae"), looks := true }, kinds := [], alts := [], laidByText := true, laidKinds := [.data, .handle, .pinned], laidTests := true, laidLooks := .later }
def TxnAllCardSaid : Prop := Claim7.holds Tryz.pinned (.plain (OpenSpec.ofChange txnAllSpec)) txnAllCard

/-- THE TIED CARD OF 'terrazzolaw09.TxnOwn'. -/
def txnOwnCard : Claim7 := { stood := { row := txnOwnRow, standIns := [], harness := (true, "0a41fd0c01c50b010a4ba01cc9919ad9a077c60bed7356e89cd27b6b6dbd7dae"), looks := true }, kinds := [], alts := [], laidByText := true, laidKinds := [.data, .handle, .pinned], laidTests := true, laidLooks := .later }
def TxnOwnCardSaid : Prop := Claim7.holds Tryz.pinned (.plain (OpenSpec.ofChange txnOwnSpec)) txnOwnCard

/-- THE SECOND FORM's CARD OF 'terrazzolaw09.TxnDoes'. -/
def txnDoesUptoCard : Claim7 := { stood := { row := txnDoesUptoRow, standIns := [], harness := (true, "0a41fd0c01c50b010a4ba01cc9919ad9a077c60bed7356e89cd27b6b6dbd7dae"), looks := true }, kinds := [], alts := [], laidByText := true, laidKinds := [.data, .handle, .pinned], laidTests := true, laidLooks := .later }
def TxnDoesUptoCardSaid : Prop := Claim7.holds Tryz.pinned (.plain (OpenSpec.upto txnDoesSpec)) txnDoesUptoCard

/-- THE SECOND FORM's CARD OF 'terrazzolaw09.TxnPacks'. -/
def txnPacksUptoCard : Claim7 := { stood := { row := txnPacksUptoRow, standIns := [], harness := (true, "0a41fd0c01c50b010a4ba01cc9919ad9a077c60bed7356e89cd27b6b6dbd7dae"), looks := true }, kinds := [], alts := [], laidByText := true, laidKinds := [.data, .handle, .pinned], laidTests := true, laidLooks := .later }
def TxnPacksUptoCardSaid : Prop := Claim7.holds Tryz.pinned (.plain (OpenSpec.upto txnPacksSpec)) txnPacksUptoCard

/-- THE SECOND FORM's CARD OF 'terrazzolaw09.TxnBack'. -/
def txnBackUptoCard : Claim7 := { stood := { row := txnBackUptoRow, standIns := [], harness := (true, "0a41fd0c01c50b010a4ba01cc9919ad9a077c60bed7356e89cd27b6b6dbd7dae"), looks := true }, kinds := [], alts := [], laidByText := true, laidKinds := [.data, .handle, .pinned], laidTests := true, laidLooks := .later }
def TxnBackUptoCardSaid : Prop := Claim7.holds Tryz.pinned (.plain (OpenSpec.upto txnBackSpec)) txnBackUptoCard

/-- THE SECOND FORM's CARD OF 'terrazzolaw09.TxnTwice'. -/
def txnTwiceUptoCard : Claim7 := { stood := { row := txnTwiceUptoRow, standIns := [], harness := (true, "0a41fd0c01c50b010a4ba01cc9919ad9a077c60bed7356e89cd27b6b6dbd7dae"), looks := true }, kinds := [], alts := [], laidByText := true, laidKinds := [.data, .handle, .pinned], laidTests := true, laidLooks := .later }
def TxnTwiceUptoCardSaid : Prop := Claim7.holds Tryz.pinned (.plain (OpenSpec.upto txnTwiceSpec)) txnTwiceUptoCard

/-- THE SECOND FORM's CARD OF 'terrazzolaw09.TxnAll'. -/
def txnAllUptoCard : Claim7 := { stood := { row := txnAllUptoRow, standIns := [], harness := (true, "0a41fd0c01c50b010a4ba01cc9919ad9a077c60bed7356e89cd27b6b6dbd7dae"), looks := true }, kinds := [], alts := [], laidByText := true, laidKinds := [.data, .handle, .pinned], laidTests := true, laidLooks := .later }
def TxnAllUptoCardSaid : Prop := Claim7.holds Tryz.pinned (.plain (OpenSpec.upto txnAllSpec)) txnAllUptoCard

/-- THE SECOND FORM's CARD OF 'terrazzolaw09.TxnOwn'. -/
def txnOwnUptoCard : Claim7 := { stood := { row := txnOwnUptoRow, standIns := [], harness := (true, "0a41fd0c01c50b010a4ba01cc9919ad9a077c60bed7356e89cd27b6b6dbd7dae"), looks := true }, kinds := [], alts := [], laidByText := true, laidKinds := [.data, .handle, .pinned], laidTests := true, laidLooks := .later }
def TxnOwnUptoCardSaid : Prop := Claim7.holds Tryz.pinned (.plain (OpenSpec.upto txnOwnSpec)) txnOwnUptoCard
end Rows
end Go.Proofs.YtgdilkhaopnhaaaGreatDoor
