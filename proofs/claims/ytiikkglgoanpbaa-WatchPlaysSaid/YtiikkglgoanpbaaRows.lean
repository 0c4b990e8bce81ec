/-
  No cell of these rows narrows 'for every input' (looked for: loops, veiled, ifaces, maps, wideKeys, modest, calm, conditions, laid).
  DERIVED. THE GIVEN ROWS OF THIS SEAT. 5 by the template 'for every input the law returns true; each argument reads behind the call as it read before'; 0 by the template 'total and deterministic' (their statements: YtiikkglgoanpbaaTotals.lean).
  GIVEN WITH THE SEED: the statements are not yours to turn. If you find one false, say at which input.
  Laid BY PROGRAM, IN A SANDBOX (cutbox-rows.mjs): the forced cells as the released guide's own fill.sh prints them over the translation ff6ea85ebae80d28… (all of the seat's roots in one cut). By AI agents, Wed Nov 11 2026. No macro, syntax, notation, axiom, sorry.
-/
import Derived.Test.YtiikkglgoanpbaaChecked
import GoSem.Claim
import GoSem.ClaimJoined
import GoSem.ClaimMapViews
import Derived.JoinedTies
import Derived.KernelRfl
namespace Go.Proofs.Ytiikkglgoanpbaa
/- THE CELL 'sum', in the pinned program and in every row, IS THE sha256 OF THE DUMP (.gsa) THAT YtiikkglgoanpbaaProg.lean LOADS. Nothing in Lean hashes anything: it is a label: what it is worth is what the hold of that sum in a sandbox is worth. -/
noncomputable def Try.pinned : Pinned := { name := "ytiikkglgoanpbaa", sum := "ff6ea85ebae80d288b5d3852dc135299e1a3b8c621b1a365765ffbcdde9e5b60", checked := Try.checked }
namespace Rows
def none {H : Type} : Left H := { results := [], args := [] }

/-- 'terrazzolaw14.WatchOver': WHATEVER THE INPUT: true; the input reads as it did. -/
def watchOverSpec : ChangeSpec := { name := "watchOver", fn := fun _ => fun
  | [d1, d2, d3] => { results := [.lit (.bool true)], args := [d1, d2, d3] }
  | _ => none }
def watchOverRow : OpenClaim := { program := "ytiikkglgoanpbaa", sum := "ff6ea85ebae80d288b5d3852dc135299e1a3b8c621b1a365765ffbcdde9e5b60", func := "terrazzo/terrazzolaw14.WatchOver", spec := "watchOver", inPlace := ["maps.clone"], unfollowed := true, recurses := true, apart := false }
def WatchOverSaid : Prop := watchOverRow.holds Try.pinned (OpenSpec.ofChange watchOverSpec)

/-- ITS FALSE NEIGHBOUR: 'it returns false'. Refute it at one input. -/
def watchOverWrong : ChangeSpec := { name := "watchOver", fn := fun _ => fun
  | [d1, d2, d3] => { results := [.lit (.bool false)], args := [d1, d2, d3] }
  | _ => none }
def WatchOverWrongFalsely : Prop := watchOverRow.holds Try.pinned (OpenSpec.ofChange watchOverWrong)

/-- 'terrazzolaw14.WatchApart': WHATEVER THE INPUT: true; the input reads as it did. -/
def watchApartSpec : ChangeSpec := { name := "watchApart", fn := fun _ => fun
  | [d1, d2, d3] => { results := [.lit (.bool true)], args := [d1, d2, d3] }
  | _ => none }
def watchApartRow : OpenClaim := { program := "ytiikkglgoanpbaa", sum := "ff6ea85ebae80d288b5d3852dc135299e1a3b8c621b1a365765ffbcdde9e5b60", func := "terrazzo/terrazzolaw14.WatchApart", spec := "watchApart", inPlace := ["maps.clone"], unfollowed := true, recurses := true, apart := false }
def WatchApartSaid : Prop := watchApartRow.holds Try.pinned (OpenSpec.ofChange watchApartSpec)

/-- ITS FALSE NEIGHBOUR: 'it returns false'. Refute it at one input. -/
def watchApartWrong : ChangeSpec := { name := "watchApart", fn := fun _ => fun
  | [d1, d2, d3] => { results := [.lit (.bool false)], args := [d1, d2, d3] }
  | _ => none }
def WatchApartWrongFalsely : Prop := watchApartRow.holds Try.pinned (OpenSpec.ofChange watchApartWrong)

/-- 'terrazzolaw14.WatchPlays': WHATEVER THE INPUT: true; the input reads as it did. -/
def watchPlaysSpec : ChangeSpec := { name := "watchPlays", fn := fun _ => fun
  | [d] => { results := [.lit (.bool true)], args := [d] }
  | _ => none }
def watchPlaysRow : OpenClaim := { program := "ytiikkglgoanpbaa", sum := "ff6ea85ebae80d288b5d3852dc135299e1a3b8c621b1a365765ffbcdde9e5b60", func := "terrazzo/terrazzolaw14.WatchPlays", spec := "watchPlays", inPlace := ["maps.clone"], unfollowed := true, recurses := true, apart := false }
def WatchPlaysSaid : Prop := watchPlaysRow.holds Try.pinned (OpenSpec.ofChange watchPlaysSpec)

/-- ITS FALSE NEIGHBOUR: 'it returns false'. Refute it at one input. -/
def watchPlaysWrong : ChangeSpec := { name := "watchPlays", fn := fun _ => fun
  | [d] => { results := [.lit (.bool false)], args := [d] }
  | _ => none }
def WatchPlaysWrongFalsely : Prop := watchPlaysRow.holds Try.pinned (OpenSpec.ofChange watchPlaysWrong)

/-- 'terrazzolaw14.WatchMissing': WHATEVER THE INPUT: true; the input reads as it did. -/
def watchMissingSpec : ChangeSpec := { name := "watchMissing", fn := fun _ => fun
  | [d1, d2, d3] => { results := [.lit (.bool true)], args := [d1, d2, d3] }
  | _ => none }
def watchMissingRow : OpenClaim := { program := "ytiikkglgoanpbaa", sum := "ff6ea85ebae80d288b5d3852dc135299e1a3b8c621b1a365765ffbcdde9e5b60", func := "terrazzo/terrazzolaw14.WatchMissing", spec := "watchMissing", inPlace := ["maps.clone"], unfollowed := true, recurses := true, apart := false }
def WatchMissingSaid : Prop := watchMissingRow.holds Try.pinned (OpenSpec.ofChange watchMissingSpec)

/-- ITS FALSE NEIGHBOUR: 'it returns false'. Refute it at one input. -/
def watchMissingWrong : ChangeSpec := { name := "watchMissing", fn := fun _ => fun
  | [d1, d2, d3] => { results := [.lit (.bool false)], args := [d1, d2, d3] }
  | _ => none }
def WatchMissingWrongFalsely : Prop := watchMissingRow.holds Try.pinned (OpenSpec.ofChange watchMissingWrong)

/-- 'terrazzolaw14.WatchNone': WHATEVER THE INPUT: true; the input reads as it did. -/
def watchNoneSpec : ChangeSpec := { name := "watchNone", fn := fun _ => fun
  | [d1, d2, d3] => { results := [.lit (.bool true)], args := [d1, d2, d3] }
  | _ => none }
def watchNoneRow : OpenClaim := { program := "ytiikkglgoanpbaa", sum := "ff6ea85ebae80d288b5d3852dc135299e1a3b8c621b1a365765ffbcdde9e5b60", func := "terrazzo/terrazzolaw14.WatchNone", spec := "watchNone", inPlace := ["maps.clone"], unfollowed := true, recurses := true, apart := false }
def WatchNoneSaid : Prop := watchNoneRow.holds Try.pinned (OpenSpec.ofChange watchNoneSpec)

/-- ITS FALSE NEIGHBOUR: 'it returns false'. Refute it at one input. -/
def watchNoneWrong : ChangeSpec := { name := "watchNone", fn := fun _ => fun
  | [d1, d2, d3] => { results := [.lit (.bool false)], args := [d1, d2, d3] }
  | _ => none }
def WatchNoneWrongFalsely : Prop := watchNoneRow.holds Try.pinned (OpenSpec.ofChange watchNoneWrong)

/- THE SECOND FORM. 'bulk': how many values and letters a reading holds, each counted each time it is reached (what is shared counts as often as it is met; a slice's spare places count too). A statement '..UptoSaid' is the law's where the arguments, and the package variables that the reading takes, are together of bulk at most 1048576: NARROWER than '..Said'. Prove '..Said' where nothing that the law and all that it calls make is longer than what came in: it says more and counts as full. Else prove '..UptoSaid'. A law counts once. -/
mutual
def uptoBulk {H : Type} : DataW H → Nat
  | .lit (.string bytes) => bytes.length + 1
  | .lit _ => 1
  | .nil => 1
  | .ptr d => uptoBulk d + 1
  | .slice elems spare => uptoBulkAll elems + uptoBulkAll spare + 1
  | .agg parts => uptoBulkAll parts + 1
  | .iface _ d => uptoBulk d + 1
  | .map entries => uptoBulkEntries entries + 1
  | .held _ => 1
def uptoBulkAll {H : Type} : List (DataW H) → Nat
  | [] => 0
  | d :: r => uptoBulk d + uptoBulkAll r
def uptoBulkEntries {H : Type} : List (Lit × DataW H) → Nat
  | [] => 0
  | x :: r => uptoBulkEntry x + uptoBulkEntries r
def uptoBulkEntry {H : Type} : Lit × DataW H → Nat
  | (.string bytes, d) => bytes.length + uptoBulk d + 1
  | (_, d) => uptoBulk d + 1
 end
def uptoSmall : (H : Type) → List (DataW H) → Bool := fun _ ds => decide (uptoBulkAll ds ≤ 1048576)
def OpenSpec.upto (s : _root_.Go.ChangeSpec) : _root_.Go.OpenSpec := { _root_.Go.OpenSpec.ofChange s with cond := some uptoSmall }

/-- 'terrazzolaw14.WatchOver', WHERE WHAT IT READS IS OF BULK AT MOST 1048576: true; the input reads as it did. -/
def watchOverUptoRow : OpenClaim := { program := "ytiikkglgoanpbaa", sum := "ff6ea85ebae80d288b5d3852dc135299e1a3b8c621b1a365765ffbcdde9e5b60", func := "terrazzo/terrazzolaw14.WatchOver", spec := "watchOver", inPlace := ["maps.clone"], unfollowed := true, recurses := true, apart := false, narrowed := true }
def WatchOverUptoSaid : Prop := watchOverUptoRow.holds Try.pinned (OpenSpec.upto watchOverSpec)

/-- 'terrazzolaw14.WatchApart', WHERE WHAT IT READS IS OF BULK AT MOST 1048576: true; the input reads as it did. -/
def watchApartUptoRow : OpenClaim := { program := "ytiikkglgoanpbaa", sum := "ff6ea85ebae80d288b5d3852dc135299e1a3b8c621b1a365765ffbcdde9e5b60", func := "terrazzo/terrazzolaw14.WatchApart", spec := "watchApart", inPlace := ["maps.clone"], unfollowed := true, recurses := true, apart := false, narrowed := true }
def WatchApartUptoSaid : Prop := watchApartUptoRow.holds Try.pinned (OpenSpec.upto watchApartSpec)

/-- 'terrazzolaw14.WatchPlays', WHERE WHAT IT READS IS OF BULK AT MOST 1048576: true; the input reads as it did. -/
def watchPlaysUptoRow : OpenClaim := { program := "ytiikkglgoanpbaa", sum := "ff6ea85ebae80d288b5d3852dc135299e1a3b8c621b1a365765ffbcdde9e5b60", func := "terrazzo/terrazzolaw14.WatchPlays", spec := "watchPlays", inPlace := ["maps.clone"], unfollowed := true, recurses := true, apart := false, narrowed := true }
def WatchPlaysUptoSaid : Prop := watchPlaysUptoRow.holds Try.pinned (OpenSpec.upto watchPlaysSpec)

/-- 'terrazzolaw14.WatchMissing', WHERE WHAT IT READS IS OF BULK AT MOST 1048576: true; the input reads as it did. -/
def watchMissingUptoRow : OpenClaim := { program := "ytiikkglgoanpbaa", sum := "ff6ea85ebae80d288b5d3852dc135299e1a3b8c621b1a365765ffbcdde9e5b60", func := "terrazzo/terrazzolaw14.WatchMissing", spec := "watchMissing", inPlace := ["maps.clone"], unfollowed := true, recurses := true, apart := false, narrowed := true }
def WatchMissingUptoSaid : Prop := watchMissingUptoRow.holds Try.pinned (OpenSpec.upto watchMissingSpec)

/-- 'terrazzolaw14.WatchNone', WHERE WHAT IT READS IS OF BULK AT MOST 1048576: true; the input reads as it did. -/
def watchNoneUptoRow : OpenClaim := { program := "ytiikkglgoanpbaa", sum := "ff6ea85ebae80d288b5d3852dc135299e1a3b8c621b1a365765ffbcdde9e5b60", func := "terrazzo/terrazzolaw14.WatchNone", spec := "watchNone", inPlace := ["maps.clone"], unfollowed := true, recurses := true, apart := false, narrowed := true }
def WatchNoneUptoSaid : Prop := watchNoneUptoRow.holds Try.pinned (OpenSpec.upto watchNoneSpec)

end Rows
end Go.Proofs.Ytiikkglgoanpbaa
