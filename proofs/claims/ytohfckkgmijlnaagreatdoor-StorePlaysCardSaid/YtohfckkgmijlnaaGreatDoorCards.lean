/-
  DERIVED. GIVEN WITH THE SEED: THE CARDS: each row of YtohfckkgmijlnaaGreatDoorRows.lean that lists a variable, with what it lists TIED to the program's text (the seventh form; the later family's looks); each row that meets fmt, with fmt's text TOLD by the authors' own Lean function (tested against real Go, not proved from fmt's source: count such statements apart). THE CARD IS WHAT COUNTS. Prove the row's statement (the work); the ties are given (YtohfckkgmijlnaaGreatDoorTie.lean); close each card by the builder's one call (the guide's Derived/Test/ToyasCard.lean, 'card_holds'). Laid BY PROGRAM, IN A SANDBOX (cutbox-door.mjs). By AI agents, Wed Nov 11 2026. No macro, syntax, notation, axiom, sorry.
-/
import Derived.Test.YtohfckkgmijlnaaGreatDoorRows
import GoSem.ClaimSeven
namespace Go.Proofs.YtohfckkgmijlnaaGreatDoor
namespace Rows

/-- THE TIED CARD OF 'terrazzolaw11.StorePlays'. -/
def storePlaysCard : Claim7 := { stood := { row := storePlaysRow, standIns := [], harness := (true, "64d0f2d97060bb015fba45bbef8507d08c55d15d5ff93301e22369d3ee609536"), looks := true }, kinds := [], alts := [], laidByText := true, laidKinds := [.data, .handle, .pinned], laidTests := true, laidLooks := .later }
def StorePlaysCardSaid : Prop := Claim7.holds Tryz.pinned (.plain (OpenSpec.ofChange storePlaysSpec)) storePlaysCard

/-- THE TIED CARD OF 'terrazzolaw11.StoreApart'. -/
def storeApartCard : Claim7 := { stood := { row := storeApartRow, standIns := [], harness := (true, "64d0f2d97060bb015fba45bbef8507d08c55d15d5ff93301e22369d3ee609536"), looks := true }, kinds := [], alts := [], laidByText := true, laidKinds := [.data, .handle, .pinned], laidTests := true, laidLooks := .later }
def StoreApartCardSaid : Prop := Claim7.holds Tryz.pinned (.plain (OpenSpec.ofChange storeApartSpec)) storeApartCard

/-- THE TIED CARD OF 'terrazzolaw11.StoreRoom'. -/
def storeRoomCard : Claim7 := { stood := { row := storeRoomRow, standIns := [], harness := (true, "64d0f2d97060bb015fba45bbef8507d08c55d15d5ff93301e22369d3ee609536"), looks := true }, kinds := [], alts := [], laidByText := true, laidKinds := [.data, .handle, .pinned], laidTests := true, laidLooks := .later }
def StoreRoomCardSaid : Prop := Claim7.holds Tryz.pinned (.plain (OpenSpec.ofChange storeRoomSpec)) storeRoomCard

/-- THE TIED CARD OF 'terrazzolaw11.StoreGone'. -/
def storeGoneCard : Claim7 := { stood := { row := storeGoneRow, standIns := [], harness := (true, "64d0f2d97060bb015fba45bbef8507d08c55d15d5ff93301e22369d3ee609536"), looks := true }, kinds := [], alts := [], laidByText := true, laidKinds := [.data, .handle, .pinned], laidTests := true, laidLooks := .later }
def StoreGoneCardSaid : Prop := Claim7.holds Tryz.pinned (.plain (OpenSpec.ofChange storeGoneSpec)) storeGoneCard

/-- THE TIED CARD OF 'terrazzolaw11.StoreOwn'. -/
def storeOwnCard : Claim7 := { stood := { row := storeOwnRow, standIns := [], harness := (true, "64d0f2d97060bb015fba45bbef8507d08c55d15d5ff93301e22369d3ee609536"), looks := true }, kinds := [], alts := [], laidByText := true, laidKinds := [.data, .handle, .pinned], laidTests := true, laidLooks := .later }
def StoreOwnCardSaid : Prop := Claim7.holds Tryz.pinned (.plain (OpenSpec.ofChange storeOwnSpec)) storeOwnCard

/-- THE TIED CARD OF 'terrazzolaw11.StoreNames'. -/
def storeNamesCard : Claim7 := { stood := { row := storeNamesRow, standIns := [], harness := (true, "64d0f2d97060bb015fba45bbef8507d08c55d15d5ff93301e22369d3ee609536"), looks := true }, kinds := [], alts := [], laidByText := true, laidKinds := [.data, .handle, .pinned], laidTests := true, laidLooks := .later }
def StoreNamesCardSaid : Prop := Claim7.holds Tryz.pinned (.plain (OpenSpec.ofChange storeNamesSpec)) storeNamesCard

/-- THE SECOND FORM's CARD OF 'terrazzolaw11.StorePlays'. -/
def storePlaysUptoCard : Claim7 := { stood := { row := storePlaysUptoRow, standIns := [], harness := (true, "64d0f2d97060bb015fba45bbef8507d08c55d15d5ff93301e22369d3ee609536"), looks := true }, kinds := [], alts := [], laidByText := true, laidKinds := [.data, .handle, .pinned], laidTests := true, laidLooks := .later }
def StorePlaysUptoCardSaid : Prop := Claim7.holds Tryz.pinned (.plain (OpenSpec.upto storePlaysSpec)) storePlaysUptoCard

/-- THE SECOND FORM's CARD OF 'terrazzolaw11.StoreApart'. -/
def storeApartUptoCard : Claim7 := { stood := { row := storeApartUptoRow, standIns := [], harness := (true, "64d0f2d97060bb015fba45bbef8507d08c55d15d5ff93301e22369d3ee609536"), looks := true }, kinds := [], alts := [], laidByText := true, laidKinds := [.data, .handle, .pinned], laidTests := true, laidLooks := .later }
def StoreApartUptoCardSaid : Prop := Claim7.holds Tryz.pinned (.plain (OpenSpec.upto storeApartSpec)) storeApartUptoCard

/-- THE SECOND FORM's CARD OF 'terrazzolaw11.StoreRoom'. -/
def storeRoomUptoCard : Claim7 := { stood := { row := storeRoomUptoRow, standIns := [], harness := (true, "64d0f2d97060bb015fba45bbef8507d08c55d15d5ff93301e22369d3ee609536"), looks := true }, kinds := [], alts := [], laidByText := true, laidKinds := [.data, .handle, .pinned], laidTests := true, laidLooks := .later }
def StoreRoomUptoCardSaid : Prop := Claim7.holds Tryz.pinned (.plain (OpenSpec.upto storeRoomSpec)) storeRoomUptoCard

/-- THE SECOND FORM's CARD OF 'terrazzolaw11.StoreGone'. -/
def storeGoneUptoCard : Claim7 := { stood := { row := storeGoneUptoRow, standIns := [], harness := (true, "64d0f2d97060bb015fba45bbef8507d08c55d15d5ff93301e22369d3ee609536"), looks := true }, kinds := [], alts := [], laidByText := true, laidKinds := [.data, .handle, .pinned], laidTests := true, laidLooks := .later }
def StoreGoneUptoCardSaid : Prop := Claim7.holds Tryz.pinned (.plain (OpenSpec.upto storeGoneSpec)) storeGoneUptoCard

/-- THE SECOND FORM's CARD OF 'terrazzolaw11.StoreOwn'. -/
def storeOwnUptoCard : Claim7 := { stood := { row := storeOwnUptoRow, standIns := [], harness := (true, "64d0f2d97060bb015fba45bbef8507d08c55d15d5ff93301e22369d3ee609536"), looks := true }, kinds := [], alts := [], laidByText := true, laidKinds := [.data, .handle, .pinned], laidTests := true, laidLooks := .later }
def StoreOwnUptoCardSaid : Prop := Claim7.holds Tryz.pinned (.plain (OpenSpec.upto storeOwnSpec)) storeOwnUptoCard

/-- THE SECOND FORM's CARD OF 'terrazzolaw11.StoreNames'. -/
def storeNamesUptoCard : Claim7 := { stood := { row := storeNamesUptoRow, standIns := [], harness := (true, "64d0f2d97060bb015fba45bbef8507d08c55d15d5ff93301e22369d3ee609536"), looks := true }, kinds := [], alts := [], laidByText := true, laidKinds := [.data, .handle, .pinned], laidTests := true, laidLooks := .later }
def StoreNamesUptoCardSaid : Prop := Claim7.holds Tryz.pinned (.plain (OpenSpec.upto storeNamesSpec)) storeNamesUptoCard
end Rows
end Go.Proofs.YtohfckkgmijlnaaGreatDoor
