/-
  DERIVED. GIVEN WITH THE SEED: THE CARDS: each row of YtfefnfgppgohgaaDoorRows.lean that lists a variable, with what it lists TIED to the program's text (the seventh form; the later family's looks); each row that meets fmt, with fmt's text TOLD by the authors' own Lean function (tested against real Go, not proved from fmt's source: count such statements apart). THE CARD IS WHAT COUNTS. Prove the row's statement (the work); the ties are given (YtfefnfgppgohgaaDoorTie.lean); close each card by the builder's one call (the guide's Derived/Test/ToyasCard.lean, 'card_holds'). Laid BY PROGRAM, IN A SANDBOX (cutbox-door.mjs). By AI agents, Wed Nov 11 2026. No macro, syntax, notation, axiom, sorry.
-/
import Derived.Test.YtfefnfgppgohgaaDoorRows
import GoSem.ClaimSeven
namespace Go.Proofs.YtfefnfgppgohgaaDoor
namespace Rows

/-- THE TIED CARD OF 'terrazzolaw08.ObjectDoes'. -/
def objectDoesCard : Claim7 := { stood := { row := objectDoesRow, standIns := [], harness := (true, "c9ef34a3b1430f3da7a58cf7d2a0dc219fc45413ae4df5d7fd5e8962be034946"), looks := true }, kinds := [], alts := [], laidByText := true, laidKinds := [.data, .handle, .pinned], laidTests := true, laidLooks := .later }
def ObjectDoesCardSaid : Prop := Claim7.holds Tryd.pinned (.plain (OpenSpec.ofChange objectDoesSpec)) objectDoesCard

/-- THE TIED CARD OF 'terrazzolaw08.ObjectStays'. -/
def objectStaysCard : Claim7 := { stood := { row := objectStaysRow, standIns := [], harness := (true, "c9ef34a3b1430f3da7a58cf7d2a0dc219fc45413ae4df5d7fd5e8962be034946"), looks := true }, kinds := [], alts := [], laidByText := true, laidKinds := [.data, .handle, .pinned], laidTests := true, laidLooks := .later }
def ObjectStaysCardSaid : Prop := Claim7.holds Tryd.pinned (.plain (OpenSpec.ofChange objectStaysSpec)) objectStaysCard

/-- THE TIED CARD OF 'terrazzolaw08.ObjectReads'. -/
def objectReadsCard : Claim7 := { stood := { row := objectReadsRow, standIns := [], harness := (true, "c9ef34a3b1430f3da7a58cf7d2a0dc219fc45413ae4df5d7fd5e8962be034946"), looks := true }, kinds := [], alts := [], laidByText := true, laidKinds := [.data, .handle, .pinned], laidTests := true, laidLooks := .later }
def ObjectReadsCardSaid : Prop := Claim7.holds Tryd.pinned (.plain (OpenSpec.ofChange objectReadsSpec)) objectReadsCard

/-- THE TIED CARD OF 'terrazzolaw08.ObjectClones'. -/
def objectClonesCard : Claim7 := { stood := { row := objectClonesRow, standIns := [], harness := (true, "c9ef34a3b1430f3da7a58cf7d2a0dc219fc45413ae4df5d7fd5e8962be034946"), looks := true }, kinds := [], alts := [], laidByText := true, laidKinds := [.data, .handle, .pinned], laidTests := true, laidLooks := .later }
def ObjectClonesCardSaid : Prop := Claim7.holds Tryd.pinned (.plain (OpenSpec.ofChange objectClonesSpec)) objectClonesCard

/-- THE TIED CARD OF 'terrazzolaw08.ObjectTells'. -/
def objectTellsCard : Claim7 := { stood := { row := objectTellsRow, standIns := [], harness := (true, "c9ef34a3b1430f3da7a58cf7d2a0dc219fc45413ae4df5d7fd5e8962be034946"), looks := true }, kinds := [], alts := [], laidByText := true, laidKinds := [.data, .handle, .pinned], laidTests := true, laidLooks := .later }
def ObjectTellsCardSaid : Prop := Claim7.holds Tryd.pinned (.plain (OpenSpec.ofChange objectTellsSpec)) objectTellsCard

/-- THE TIED CARD OF 'terrazzolaw08.ObjectSame'. -/
def objectSameCard : Claim7 := { stood := { row := objectSameRow, standIns := [], harness := (true, "c9ef34a3b1430f3da7a58cf7d2a0dc219fc45413ae4df5d7fd5e8962be034946"), looks := true }, kinds := [], alts := [], laidByText := true, laidKinds := [.data, .handle, .pinned], laidTests := true, laidLooks := .later }
def ObjectSameCardSaid : Prop := Claim7.holds Tryd.pinned (.plain (OpenSpec.ofChange objectSameSpec)) objectSameCard

/-- THE SECOND FORM's CARD OF 'terrazzolaw08.ObjectDoes'. -/
def objectDoesUptoCard : Claim7 := { stood := { row := objectDoesUptoRow, standIns := [], harness := (true, "c9ef34a3b1430f3da7a58cf7d2a0dc219fc45413ae4df5d7fd5e8962be034946"), looks := true }, kinds := [], alts := [], laidByText := true, laidKinds := [.data, .handle, .pinned], laidTests := true, laidLooks := .later }
def ObjectDoesUptoCardSaid : Prop := Claim7.holds Tryd.pinned (.plain (OpenSpec.upto objectDoesSpec)) objectDoesUptoCard

/-- THE SECOND FORM's CARD OF 'terrazzolaw08.ObjectStays'. -/
def objectStaysUptoCard : Claim7 := { stood := { row := objectStaysUptoRow, standIns := [], harness := (true, "c9ef34a3b1430f3da7a58cf7d2a0dc219fc45413ae4df5d7fd5e8962be034946"), looks := true }, kinds := [], alts := [], laidByText := true, laidKinds := [.data, .handle, .pinned], laidTests := true, laidLooks := .later }
def ObjectStaysUptoCardSaid : Prop := Claim7.holds Tryd.pinned (.plain (OpenSpec.upto objectStaysSpec)) objectStaysUptoCard

/-- THE SECOND FORM's CARD OF 'terrazzolaw08.ObjectReads'. -/
def objectReadsUptoCard : Claim7 := { stood := { row := objectReadsUptoRow, standIns := [], harness := (true, "c9ef34a3b1430f3da7a58cf7d2a0dc219fc45413ae4df5d7fd5e8962be034946"), looks := true }, kinds := [], alts := [], laidByText := true, laidKinds := [.data, .handle, .pinned], laidTests := true, laidLooks := .later }
def ObjectReadsUptoCardSaid : Prop := Claim7.holds Tryd.pinned (.plain (OpenSpec.upto objectReadsSpec)) objectReadsUptoCard

/-- THE SECOND FORM's CARD OF 'terrazzolaw08.ObjectClones'. -/
def objectClonesUptoCard : Claim7 := { stood := { row := objectClonesUptoRow, standIns := [], harness := (true, "c9ef34a3b1430f3da7a58cf7d2a0dc219fc45413ae4df5d7fd5e8962be034946"), looks := true }, kinds := [], alts := [], laidByText := true, laidKinds := [.data, .handle, .pinned], laidTests := true, laidLooks := .later }
def ObjectClonesUptoCardSaid : Prop := Claim7.holds Tryd.pinned (.plain (OpenSpec.upto objectClonesSpec)) objectClonesUptoCard

/-- THE SECOND FORM's CARD OF 'terrazzolaw08.ObjectTells'. -/
def objectTellsUptoCard : Claim7 := { stood := { row := objectTellsUptoRow, standIns := [], harness := (true, "c9ef34a3b1430f3da7a58cf7d2a0dc219fc45413ae4df5d7fd5e8962be034946"), looks := true }, kinds := [], alts := [], laidByText := true, laidKinds := [.data, .handle, .pinned], laidTests := true, laidLooks := .later }
def ObjectTellsUptoCardSaid : Prop := Claim7.holds Tryd.pinned (.plain (OpenSpec.upto objectTellsSpec)) objectTellsUptoCard

/-- THE SECOND FORM's CARD OF 'terrazzolaw08.ObjectSame'. -/
def objectSameUptoCard : Claim7 := { stood := { row := objectSameUptoRow, standIns := [], harness := (true, "c9ef34a3b1430f3da7a58cf7d2a0dc219fc45413ae4df5d7fd5e8962be034946"), looks := true }, kinds := [], alts := [], laidByText := true, laidKinds := [.data, .handle, .pinned], laidTests := true, laidLooks := .later }
def ObjectSameUptoCardSaid : Prop := Claim7.holds Tryd.pinned (.plain (OpenSpec.upto objectSameSpec)) objectSameUptoCard
end Rows
end Go.Proofs.YtfefnfgppgohgaaDoor
