/-
  DERIVED. GIVEN WITH THE SEED: THE CARDS: each row of YtfeonfihlleoeaaDoorRows.lean that lists a variable, with what it lists TIED to the program's text (the seventh form; the later family's looks); each row that meets fmt, with fmt's text TOLD by the authors' own Lean function (tested against real Go, not proved from fmt's source: count such statements apart). THE CARD IS WHAT COUNTS. Prove the row's statement (the work); the ties are given (YtfeonfihlleoeaaDoorTie.lean); close each card by the builder's one call (the guide's Derived/Test/ToyasCard.lean, 'card_holds'). Laid BY PROGRAM, IN A SANDBOX (cutbox-door.mjs). By AI agents, Wed Nov 11 2026. No macro, syntax, notation, axiom, sorry.
-/
import Derived.Test.YtfeonfihlleoeaaDoorRows
import GoSem.ClaimSeven
namespace Go.Proofs.YtfeonfihlleoeaaDoor
namespace Rows

/-- THE TIED CARD OF 'terrazzolaw20.JournalAppends'. -/
def journalAppendsCard : Claim7 := { stood := { row := journalAppendsRow, standIns := [], harness := (true, "bceb510705b11179a42271a53fe242724cc82f400ad74704044034633194ca5b"), looks := false }, kinds := [], alts := [], laidByText := true, laidKinds := [.data, .data, .data, .data, .data], laidTests := true, laidLooks := .later }
def JournalAppendsCardSaid : Prop := Claim7.holds Tryd.pinned (.plain (OpenSpec.ofChange journalAppendsSpec)) journalAppendsCard

/-- THE TIED CARD OF 'terrazzolaw20.JournalKeeps'. -/
def journalKeepsCard : Claim7 := { stood := { row := journalKeepsRow, standIns := [], harness := (true, "bceb510705b11179a42271a53fe242724cc82f400ad74704044034633194ca5b"), looks := false }, kinds := [], alts := [], laidByText := true, laidKinds := [.data, .data, .data, .data, .data], laidTests := true, laidLooks := .later }
def JournalKeepsCardSaid : Prop := Claim7.holds Tryd.pinned (.plain (OpenSpec.ofChange journalKeepsSpec)) journalKeepsCard

/-- THE TIED CARD OF 'terrazzolaw20.JournalNames'. -/
def journalNamesCard : Claim7 := { stood := { row := journalNamesRow, standIns := [], harness := (true, "bceb510705b11179a42271a53fe242724cc82f400ad74704044034633194ca5b"), looks := false }, kinds := [], alts := [], laidByText := true, laidKinds := [.data, .data, .data, .data, .data], laidTests := true, laidLooks := .later }
def JournalNamesCardSaid : Prop := Claim7.holds Tryd.pinned (.plain (OpenSpec.ofChange journalNamesSpec)) journalNamesCard

/-- THE SECOND FORM's CARD OF 'terrazzolaw20.JournalAppends'. -/
def journalAppendsUptoCard : Claim7 := { stood := { row := journalAppendsUptoRow, standIns := [], harness := (true, "bceb510705b11179a42271a53fe242724cc82f400ad74704044034633194ca5b"), looks := false }, kinds := [], alts := [], laidByText := true, laidKinds := [.data, .data, .data, .data, .data], laidTests := true, laidLooks := .later }
def JournalAppendsUptoCardSaid : Prop := Claim7.holds Tryd.pinned (.plain (OpenSpec.upto journalAppendsSpec)) journalAppendsUptoCard

/-- THE SECOND FORM's CARD OF 'terrazzolaw20.JournalKeeps'. -/
def journalKeepsUptoCard : Claim7 := { stood := { row := journalKeepsUptoRow, standIns := [], harness := (true, "bceb510705b11179a42271a53fe242724cc82f400ad74704044034633194ca5b"), looks := false }, kinds := [], alts := [], laidByText := true, laidKinds := [.data, .data, .data, .data, .data], laidTests := true, laidLooks := .later }
def JournalKeepsUptoCardSaid : Prop := Claim7.holds Tryd.pinned (.plain (OpenSpec.upto journalKeepsSpec)) journalKeepsUptoCard

/-- THE SECOND FORM's CARD OF 'terrazzolaw20.JournalNames'. -/
def journalNamesUptoCard : Claim7 := { stood := { row := journalNamesUptoRow, standIns := [], harness := (true, "bceb510705b11179a42271a53fe242724cc82f400ad74704044034633194ca5b"), looks := false }, kinds := [], alts := [], laidByText := true, laidKinds := [.data, .data, .data, .data, .data], laidTests := true, laidLooks := .later }
def JournalNamesUptoCardSaid : Prop := Claim7.holds Tryd.pinned (.plain (OpenSpec.upto journalNamesSpec)) journalNamesUptoCard
end Rows
end Go.Proofs.YtfeonfihlleoeaaDoor
