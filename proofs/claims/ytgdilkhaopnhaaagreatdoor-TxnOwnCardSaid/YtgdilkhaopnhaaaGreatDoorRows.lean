/-
  NARROWER THAN 'FOR EVERY INPUT', by the rows' own cells (each row's printed sentence says how): TxnDoes: laid · TxnPacks: laid · TxnBack: laid · TxnTwice: laid · TxnAll: laid · TxnOwn: laid.
  DERIVED. THE GIVEN ROWS OF THIS SEAT. 6 by the template 'for every input the law returns true; each argument reads behind the call as it read before'; 0 by the template 'total and deterministic' (their statements: YtgdilkhaopnhaaaGreatDoorTotals.lean).
  GIVEN WITH THE SEED: the statements are not yours to turn. If you find one false, say at which input.
  Laid BY PROGRAM, IN A SANDBOX (cutbox-rows.mjs): the forced cells as the released guide's own fill.sh prints them over the translation 39f8d3cf1f0fcd01… (all of the seat's roots in one cut). By AI agents, Wed Nov 11 2026. No macro, syntax, notation, axiom, sorry.
-/
import Derived.Test.YtgdilkhaopnhaaaGreatDoorChecked
import GoSem.PinnedTables
import GoSem.Claim
import GoSem.ClaimJoined
import GoSem.ClaimMapViews
import Derived.JoinedTies
import Derived.KernelRfl
namespace Go.Proofs.YtgdilkhaopnhaaaGreatDoor
/- THE CELL 'sum', in the pinned program and in every row, IS THE sha256 OF THE DUMP (.gsa) THAT YtgdilkhaopnhaaaGreatDoorProg.lean LOADS. Nothing in Lean hashes anything: it is a label: what it is worth is what the hold of that sum in a sandbox is worth. -/
noncomputable def Tryz.pinned : Pinned := { name := "ytgdilkhaopnhaaagreatdoor", sum := "39f8d3cf1f0fcd01c73a6c33381a35959b5879308fc3a34e8e5eb3df2270c868", checked := Tryz.checked }
namespace Rows
def none {H : Type} : Left H := { results := [], args := [] }

/- WHAT THE LISTED PACKAGE-LEVEL VARIABLES READ AS WHEN THE CALL BEGINS. Each datum BY PROGRAM (the guide's laid-datum.mjs) off the statement by which the dump's own 'gosem.cut.vars' lays the variable. In a bare row this is a premise. The card (YtgdilkhaopnhaaaGreatDoorCards.lean) ties it to the program's text. -/
def laid_unicode_utf8_acceptRanges {H : Type} : DataW H := .agg [.agg [.lit (.int .u8 128), .lit (.int .u8 191)], .agg [.lit (.int .u8 160), .lit (.int .u8 191)], .agg [.lit (.int .u8 128), .lit (.int .u8 159)], .agg [.lit (.int .u8 144), .lit (.int .u8 191)], .agg [.lit (.int .u8 128), .lit (.int .u8 143)], .agg [.lit (.int .u8 0), .lit (.int .u8 0)], .agg [.lit (.int .u8 0), .lit (.int .u8 0)], .agg [.lit (.int .u8 0), .lit (.int .u8 0)], .agg [.lit (.int .u8 0), .lit (.int .u8 0)], .agg [.lit (.int .u8 0), .lit (.int .u8 0)], .agg [.lit (.int .u8 0), .lit (.int .u8 0)], .agg [.lit (.int .u8 0), .lit (.int .u8 0)], .agg [.lit (.int .u8 0), .lit (.int .u8 0)], .agg [.lit (.int .u8 0), .lit (.int .u8 0)], .agg [.lit (.int .u8 0), .lit (.int .u8 0)], .agg [.lit (.int .u8 0), .lit (.int .u8 0)]]
def laid_errors_errorType {H : Type} : DataW H := .iface "internal/reflectlite.rtype" (.agg [.ptr (.lit (.string [101, 114, 114, 111, 114]))])
/-- One of Go's own tables, pinned by name: the form's constant. -/
def laid_unicode_utf8_first : DataW Unit := Go.Pinned.utf8First

/-- 'terrazzolaw09.TxnDoes': WHATEVER THE INPUT: true; the input reads as it did. -/
def txnDoesSpec : ChangeSpec := { name := "txnDoes", fn := fun _ => fun
  | [d1, d2, d3] => { results := [.lit (.bool true)], args := [d1, d2, d3] }
  | _ => none }
def txnDoesRow : OpenClaim := { program := "ytgdilkhaopnhaaagreatdoor", sum := "39f8d3cf1f0fcd01c73a6c33381a35959b5879308fc3a34e8e5eb3df2270c868", func := "terrazzo/terrazzolaw09.TxnDoes", spec := "txnDoes", inPlace := ["internal/bytealg.IndexByteString", "internal/bytealg.IndexString", "internal/bytealg.abigen_runtime_cmpstring", "slices.overlaps[terrazzo/api.Key]", "internal/reflectlite.ValueOf", "(internal/reflectlite.Value).Type", "(internal/reflectlite.Value).IsNil", "internal/reflectlite.TypeOf", "(internal/reflectlite.Value).Elem", "(internal/reflectlite.Value).Set"], unfollowed := true, recurses := true, named := ["unicode/utf8.first", "unicode/utf8.acceptRanges", "errors.errorType", "internal/bytealg.MaxLen"], apart := false, laid := [("unicode/utf8.acceptRanges", laid_unicode_utf8_acceptRanges), ("errors.errorType", laid_errors_errorType), ("unicode/utf8.first", laid_unicode_utf8_first)] }
def TxnDoesSaid : Prop := txnDoesRow.holds Tryz.pinned (OpenSpec.ofChange txnDoesSpec)

/-- ITS FALSE NEIGHBOUR: 'it returns false'. Refute it at one input. -/
def txnDoesWrong : ChangeSpec := { name := "txnDoes", fn := fun _ => fun
  | [d1, d2, d3] => { results := [.lit (.bool false)], args := [d1, d2, d3] }
  | _ => none }
def TxnDoesWrongFalsely : Prop := txnDoesRow.holds Tryz.pinned (OpenSpec.ofChange txnDoesWrong)

/-- 'terrazzolaw09.TxnPacks': WHATEVER THE INPUT: true; the input reads as it did. -/
def txnPacksSpec : ChangeSpec := { name := "txnPacks", fn := fun _ => fun
  | [d1, d2] => { results := [.lit (.bool true)], args := [d1, d2] }
  | _ => none }
def txnPacksRow : OpenClaim := { program := "ytgdilkhaopnhaaagreatdoor", sum := "39f8d3cf1f0fcd01c73a6c33381a35959b5879308fc3a34e8e5eb3df2270c868", func := "terrazzo/terrazzolaw09.TxnPacks", spec := "txnPacks", inPlace := ["internal/bytealg.IndexByteString", "internal/bytealg.IndexString", "internal/bytealg.abigen_runtime_cmpstring", "slices.overlaps[terrazzo/api.Key]", "internal/reflectlite.ValueOf", "(internal/reflectlite.Value).Type", "(internal/reflectlite.Value).IsNil", "internal/reflectlite.TypeOf", "(internal/reflectlite.Value).Elem", "(internal/reflectlite.Value).Set"], unfollowed := true, recurses := true, named := ["unicode/utf8.first", "unicode/utf8.acceptRanges", "errors.errorType", "internal/bytealg.MaxLen"], apart := false, laid := [("unicode/utf8.acceptRanges", laid_unicode_utf8_acceptRanges), ("errors.errorType", laid_errors_errorType), ("unicode/utf8.first", laid_unicode_utf8_first)] }
def TxnPacksSaid : Prop := txnPacksRow.holds Tryz.pinned (OpenSpec.ofChange txnPacksSpec)

/-- ITS FALSE NEIGHBOUR: 'it returns false'. Refute it at one input. -/
def txnPacksWrong : ChangeSpec := { name := "txnPacks", fn := fun _ => fun
  | [d1, d2] => { results := [.lit (.bool false)], args := [d1, d2] }
  | _ => none }
def TxnPacksWrongFalsely : Prop := txnPacksRow.holds Tryz.pinned (OpenSpec.ofChange txnPacksWrong)

/-- 'terrazzolaw09.TxnBack': WHATEVER THE INPUT: true; the input reads as it did. -/
def txnBackSpec : ChangeSpec := { name := "txnBack", fn := fun _ => fun
  | [d1, d2] => { results := [.lit (.bool true)], args := [d1, d2] }
  | _ => none }
def txnBackRow : OpenClaim := { program := "ytgdilkhaopnhaaagreatdoor", sum := "39f8d3cf1f0fcd01c73a6c33381a35959b5879308fc3a34e8e5eb3df2270c868", func := "terrazzo/terrazzolaw09.TxnBack", spec := "txnBack", inPlace := ["internal/bytealg.IndexByteString", "internal/bytealg.IndexString", "internal/bytealg.abigen_runtime_cmpstring", "slices.overlaps[terrazzo/api.Key]", "internal/reflectlite.ValueOf", "(internal/reflectlite.Value).Type", "(internal/reflectlite.Value).IsNil", "internal/reflectlite.TypeOf", "(internal/reflectlite.Value).Elem", "(internal/reflectlite.Value).Set"], unfollowed := true, recurses := true, named := ["unicode/utf8.first", "unicode/utf8.acceptRanges", "errors.errorType", "internal/bytealg.MaxLen"], apart := false, laid := [("unicode/utf8.acceptRanges", laid_unicode_utf8_acceptRanges), ("errors.errorType", laid_errors_errorType), ("unicode/utf8.first", laid_unicode_utf8_first)] }
def TxnBackSaid : Prop := txnBackRow.holds Tryz.pinned (OpenSpec.ofChange txnBackSpec)

/-- ITS FALSE NEIGHBOUR: 'it returns false'. Refute it at one input. -/
def txnBackWrong : ChangeSpec := { name := "txnBack", fn := fun _ => fun
  | [d1, d2] => { results := [.lit (.bool false)], args := [d1, d2] }
  | _ => none }
def TxnBackWrongFalsely : Prop := txnBackRow.holds Tryz.pinned (OpenSpec.ofChange txnBackWrong)

/-- 'terrazzolaw09.TxnTwice': WHATEVER THE INPUT: true; the input reads as it did. -/
def txnTwiceSpec : ChangeSpec := { name := "txnTwice", fn := fun _ => fun
  | [d1, d2, d3] => { results := [.lit (.bool true)], args := [d1, d2, d3] }
  | _ => none }
def txnTwiceRow : OpenClaim := { program := "ytgdilkhaopnhaaagreatdoor", sum := "39f8d3cf1f0fcd01c73a6c33381a35959b5879308fc3a34e8e5eb3df2270c868", func := "terrazzo/terrazzolaw09.TxnTwice", spec := "txnTwice", inPlace := ["internal/bytealg.IndexByteString", "internal/bytealg.IndexString", "internal/bytealg.abigen_runtime_cmpstring", "slices.overlaps[terrazzo/api.Key]", "internal/reflectlite.ValueOf", "(internal/reflectlite.Value).Type", "(internal/reflectlite.Value).IsNil", "internal/reflectlite.TypeOf", "(internal/reflectlite.Value).Elem", "(internal/reflectlite.Value).Set"], unfollowed := true, recurses := true, named := ["unicode/utf8.first", "unicode/utf8.acceptRanges", "errors.errorType", "internal/bytealg.MaxLen"], apart := false, laid := [("unicode/utf8.acceptRanges", laid_unicode_utf8_acceptRanges), ("errors.errorType", laid_errors_errorType), ("unicode/utf8.first", laid_unicode_utf8_first)] }
def TxnTwiceSaid : Prop := txnTwiceRow.holds Tryz.pinned (OpenSpec.ofChange txnTwiceSpec)

/-- ITS FALSE NEIGHBOUR: 'it returns false'. Refute it at one input. -/
def txnTwiceWrong : ChangeSpec := { name := "txnTwice", fn := fun _ => fun
  | [d1, d2, d3] => { results := [.lit (.bool false)], args := [d1, d2, d3] }
  | _ => none }
def TxnTwiceWrongFalsely : Prop := txnTwiceRow.holds Tryz.pinned (OpenSpec.ofChange txnTwiceWrong)

/-- 'terrazzolaw09.TxnAll': WHATEVER THE INPUT: true; the input reads as it did. -/
def txnAllSpec : ChangeSpec := { name := "txnAll", fn := fun _ => fun
  | [d1, d2, d3] => { results := [.lit (.bool true)], args := [d1, d2, d3] }
  | _ => none }
def txnAllRow : OpenClaim := { program := "ytgdilkhaopnhaaagreatdoor", sum := "39f8d3cf1f0fcd01c73a6c33381a35959b5879308fc3a34e8e5eb3df2270c868", func := "terrazzo/terrazzolaw09.TxnAll", spec := "txnAll", inPlace := ["internal/bytealg.IndexByteString", "internal/bytealg.IndexString", "internal/bytealg.abigen_runtime_cmpstring", "slices.overlaps[terrazzo/api.Key]", "internal/reflectlite.ValueOf", "(internal/reflectlite.Value).Type", "(internal/reflectlite.Value).IsNil", "internal/reflectlite.TypeOf", "(internal/reflectlite.Value).Elem", "(internal/reflectlite.Value).Set"], unfollowed := true, recurses := true, named := ["unicode/utf8.first", "unicode/utf8.acceptRanges", "errors.errorType", "internal/bytealg.MaxLen"], apart := false, laid := [("unicode/utf8.acceptRanges", laid_unicode_utf8_acceptRanges), ("errors.errorType", laid_errors_errorType), ("unicode/utf8.first", laid_unicode_utf8_first)] }
def TxnAllSaid : Prop := txnAllRow.holds Tryz.pinned (OpenSpec.ofChange txnAllSpec)

/-- ITS FALSE NEIGHBOUR: 'it returns false'. Refute it at one input. -/
def txnAllWrong : ChangeSpec := { name := "txnAll", fn := fun _ => fun
  | [d1, d2, d3] => { results := [.lit (.bool false)], args := [d1, d2, d3] }
  | _ => none }
def TxnAllWrongFalsely : Prop := txnAllRow.holds Tryz.pinned (OpenSpec.ofChange txnAllWrong)

/-- 'terrazzolaw09.TxnOwn': WHATEVER THE INPUT: true; the input reads as it did. -/
def txnOwnSpec : ChangeSpec := { name := "txnOwn", fn := fun _ => fun
  | [d1, d2] => { results := [.lit (.bool true)], args := [d1, d2] }
  | _ => none }
def txnOwnRow : OpenClaim := { program := "ytgdilkhaopnhaaagreatdoor", sum := "39f8d3cf1f0fcd01c73a6c33381a35959b5879308fc3a34e8e5eb3df2270c868", func := "terrazzo/terrazzolaw09.TxnOwn", spec := "txnOwn", inPlace := ["internal/bytealg.IndexByteString", "internal/bytealg.IndexString", "internal/bytealg.abigen_runtime_cmpstring", "slices.overlaps[terrazzo/api.Key]", "internal/reflectlite.ValueOf", "(internal/reflectlite.Value).Type", "(internal/reflectlite.Value).IsNil", "internal/reflectlite.TypeOf", "(internal/reflectlite.Value).Elem", "(internal/reflectlite.Value).Set"], unfollowed := true, recurses := true, named := ["unicode/utf8.first", "unicode/utf8.acceptRanges", "errors.errorType", "internal/bytealg.MaxLen"], apart := false, laid := [("unicode/utf8.acceptRanges", laid_unicode_utf8_acceptRanges), ("errors.errorType", laid_errors_errorType), ("unicode/utf8.first", laid_unicode_utf8_first)] }
def TxnOwnSaid : Prop := txnOwnRow.holds Tryz.pinned (OpenSpec.ofChange txnOwnSpec)

/-- ITS FALSE NEIGHBOUR: 'it returns false'. Refute it at one input. -/
def txnOwnWrong : ChangeSpec := { name := "txnOwn", fn := fun _ => fun
  | [d1, d2] => { results := [.lit (.bool false)], args := [d1, d2] }
  | _ => none }
def TxnOwnWrongFalsely : Prop := txnOwnRow.holds Tryz.pinned (OpenSpec.ofChange txnOwnWrong)

/- THE SECOND FORM. 'bulk': how many values and letters a reading holds, each counted each time it is reached (what is shared counts as often as it is met; a slice's spare places count too). A statement '..UptoSaid' is the law's where the arguments, and the package variables that the reading takes, are together of bulk at most 1048576: NARROWER than '..Said'. Prove '..Said' where nothing that the law and all that it calls make is longer than what came in: it says more and counts as full. Else prove '..UptoSaid'. A law counts once. -/
mutual
def uptoBulk {H : Type} : DataW H → Nat
  | .lit (.string bytes) => bytes.length + 1
  | .lit _ => 1
  | .nil => 1
  | .ptr d => uptoBulk d + 1
  | .slice elems spare => uptoBulkAll elems + uptoBulkAll spare + 1
  | .agg parts => uptoBulkAll parts + 1
  | .iface _ d => uptoBulk d + 1
  | .map entries => uptoBulkEntries entries + 1
  | .held _ => 1
def uptoBulkAll {H : Type} : List (DataW H) → Nat
  | [] => 0
  | d :: r => uptoBulk d + uptoBulkAll r
def uptoBulkEntries {H : Type} : List (Lit × DataW H) → Nat
  | [] => 0
  | x :: r => uptoBulkEntry x + uptoBulkEntries r
def uptoBulkEntry {H : Type} : Lit × DataW H → Nat
  | (.string bytes, d) => bytes.length + uptoBulk d + 1
  | (_, d) => uptoBulk d + 1
 end
def uptoSmall : (H : Type) → List (DataW H) → Bool := fun _ ds => decide (uptoBulkAll ds ≤ 1048576)
def OpenSpec.upto (s : _root_.Go.ChangeSpec) : _root_.Go.OpenSpec := { _root_.Go.OpenSpec.ofChange s with cond := some uptoSmall }

/-- 'terrazzolaw09.TxnDoes', WHERE WHAT IT READS IS OF BULK AT MOST 1048576: true; the input reads as it did. -/
def txnDoesUptoRow : OpenClaim := { program := "ytgdilkhaopnhaaagreatdoor", sum := "39f8d3cf1f0fcd01c73a6c33381a35959b5879308fc3a34e8e5eb3df2270c868", func := "terrazzo/terrazzolaw09.TxnDoes", spec := "txnDoes", inPlace := ["internal/bytealg.IndexByteString", "internal/bytealg.IndexString", "internal/bytealg.abigen_runtime_cmpstring", "slices.overlaps[terrazzo/api.Key]", "internal/reflectlite.ValueOf", "(internal/reflectlite.Value).Type", "(internal/reflectlite.Value).IsNil", "internal/reflectlite.TypeOf", "(internal/reflectlite.Value).Elem", "(internal/reflectlite.Value).Set"], unfollowed := true, recurses := true, named := ["unicode/utf8.first", "unicode/utf8.acceptRanges", "errors.errorType", "internal/bytealg.MaxLen"], apart := false, laid := [("unicode/utf8.acceptRanges", laid_unicode_utf8_acceptRanges), ("errors.errorType", laid_errors_errorType), ("unicode/utf8.first", laid_unicode_utf8_first)], narrowed := true }
def TxnDoesUptoSaid : Prop := txnDoesUptoRow.holds Tryz.pinned (OpenSpec.upto txnDoesSpec)

/-- 'terrazzolaw09.TxnPacks', WHERE WHAT IT READS IS OF BULK AT MOST 1048576: true; the input reads as it did. -/
def txnPacksUptoRow : OpenClaim := { program := "ytgdilkhaopnhaaagreatdoor", sum := "39f8d3cf1f0fcd01c73a6c33381a35959b5879308fc3a34e8e5eb3df2270c868", func := "terrazzo/terrazzolaw09.TxnPacks", spec := "txnPacks", inPlace := ["internal/bytealg.IndexByteString", "internal/bytealg.IndexString", "internal/bytealg.abigen_runtime_cmpstring", "slices.overlaps[terrazzo/api.Key]", "internal/reflectlite.ValueOf", "(internal/reflectlite.Value).Type", "(internal/reflectlite.Value).IsNil", "internal/reflectlite.TypeOf", "(internal/reflectlite.Value).Elem", "(internal/reflectlite.Value).Set"], unfollowed := true, recurses := true, named := ["unicode/utf8.first", "unicode/utf8.acceptRanges", "errors.errorType", "internal/bytealg.MaxLen"], apart := false, laid := [("unicode/utf8.acceptRanges", laid_unicode_utf8_acceptRanges), ("errors.errorType", laid_errors_errorType), ("unicode/utf8.first", laid_unicode_utf8_first)], narrowed := true }
def TxnPacksUptoSaid : Prop := txnPacksUptoRow.holds Tryz.pinned (OpenSpec.upto txnPacksSpec)

/-- 'terrazzolaw09.TxnBack', WHERE WHAT IT READS IS OF BULK AT MOST 1048576: true; the input reads as it did. -/
def txnBackUptoRow : OpenClaim := { program := "ytgdilkhaopnhaaagreatdoor", sum := "39f8d3cf1f0fcd01c73a6c33381a35959b5879308fc3a34e8e5eb3df2270c868", func := "terrazzo/terrazzolaw09.TxnBack", spec := "txnBack", inPlace := ["internal/bytealg.IndexByteString", "internal/bytealg.IndexString", "internal/bytealg.abigen_runtime_cmpstring", "slices.overlaps[terrazzo/api.Key]", "internal/reflectlite.ValueOf", "(internal/reflectlite.Value).Type", "(internal/reflectlite.Value).IsNil", "internal/reflectlite.TypeOf", "(internal/reflectlite.Value).Elem", "(internal/reflectlite.Value).Set"], unfollowed := true, recurses := true, named := ["unicode/utf8.first", "unicode/utf8.acceptRanges", "errors.errorType", "internal/bytealg.MaxLen"], apart := false, laid := [("unicode/utf8.acceptRanges", laid_unicode_utf8_acceptRanges), ("errors.errorType", laid_errors_errorType), ("unicode/utf8.first", laid_unicode_utf8_first)], narrowed := true }
def TxnBackUptoSaid : Prop := txnBackUptoRow.holds Tryz.pinned (OpenSpec.upto txnBackSpec)

/-- 'terrazzolaw09.TxnTwice', WHERE WHAT IT READS IS OF BULK AT MOST 1048576: true; the input reads as it did. -/
def txnTwiceUptoRow : OpenClaim := { program := "ytgdilkhaopnhaaagreatdoor", sum := "39f8d3cf1f0fcd01c73a6c33381a35959b5879308fc3a34e8e5eb3df2270c868", func := "terrazzo/terrazzolaw09.TxnTwice", spec := "txnTwice", inPlace := ["internal/bytealg.IndexByteString", "internal/bytealg.IndexString", "internal/bytealg.abigen_runtime_cmpstring", "slices.overlaps[terrazzo/api.Key]", "internal/reflectlite.ValueOf", "(internal/reflectlite.Value).Type", "(internal/reflectlite.Value).IsNil", "internal/reflectlite.TypeOf", "(internal/reflectlite.Value).Elem", "(internal/reflectlite.Value).Set"], unfollowed := true, recurses := true, named := ["unicode/utf8.first", "unicode/utf8.acceptRanges", "errors.errorType", "internal/bytealg.MaxLen"], apart := false, laid := [("unicode/utf8.acceptRanges", laid_unicode_utf8_acceptRanges), ("errors.errorType", laid_errors_errorType), ("unicode/utf8.first", laid_unicode_utf8_first)], narrowed := true }
def TxnTwiceUptoSaid : Prop := txnTwiceUptoRow.holds Tryz.pinned (OpenSpec.upto txnTwiceSpec)

/-- 'terrazzolaw09.TxnAll', WHERE WHAT IT READS IS OF BULK AT MOST 1048576: true; the input reads as it did. -/
def txnAllUptoRow : OpenClaim := { program := "ytgdilkhaopnhaaagreatdoor", sum := "39f8d3cf1f0fcd01c73a6c33381a35959b5879308fc3a34e8e5eb3df2270c868", func := "terrazzo/terrazzolaw09.TxnAll", spec := "txnAll", inPlace := ["internal/bytealg.IndexByteString", "internal/bytealg.IndexString", "internal/bytealg.abigen_runtime_cmpstring", "slices.overlaps[terrazzo/api.Key]", "internal/reflectlite.ValueOf", "(internal/reflectlite.Value).Type", "(internal/reflectlite.Value).IsNil", "internal/reflectlite.TypeOf", "(internal/reflectlite.Value).Elem", "(internal/reflectlite.Value).Set"], unfollowed := true, recurses := true, named := ["unicode/utf8.first", "unicode/utf8.acceptRanges", "errors.errorType", "internal/bytealg.MaxLen"], apart := false, laid := [("unicode/utf8.acceptRanges", laid_unicode_utf8_acceptRanges), ("errors.errorType", laid_errors_errorType), ("unicode/utf8.first", laid_unicode_utf8_first)], narrowed := true }
def TxnAllUptoSaid : Prop := txnAllUptoRow.holds Tryz.pinned (OpenSpec.upto txnAllSpec)

/-- 'terrazzolaw09.TxnOwn', WHERE WHAT IT READS IS OF BULK AT MOST 1048576: true; the input reads as it did. -/
def txnOwnUptoRow : OpenClaim := { program := "ytgdilkhaopnhaaagreatdoor", sum := "39f8d3cf1f0fcd01c73a6c33381a35959b5879308fc3a34e8e5eb3df2270c868", func := "terrazzo/terrazzolaw09.TxnOwn", spec := "txnOwn", inPlace := ["internal/bytealg.IndexByteString", "internal/bytealg.IndexString", "internal/bytealg.abigen_runtime_cmpstring", "slices.overlaps[terrazzo/api.Key]", "internal/reflectlite.ValueOf", "(internal/reflectlite.Value).Type", "(internal/reflectlite.Value).IsNil", "internal/reflectlite.TypeOf", "(internal/reflectlite.Value).Elem", "(internal/reflectlite.Value).Set"], unfollowed := true, recurses := true, named := ["unicode/utf8.first", "unicode/utf8.acceptRanges", "errors.errorType", "internal/bytealg.MaxLen"], apart := false, laid := [("unicode/utf8.acceptRanges", laid_unicode_utf8_acceptRanges), ("errors.errorType", laid_errors_errorType), ("unicode/utf8.first", laid_unicode_utf8_first)], narrowed := true }
def TxnOwnUptoSaid : Prop := txnOwnUptoRow.holds Tryz.pinned (OpenSpec.upto txnOwnSpec)

end Rows
end Go.Proofs.YtgdilkhaopnhaaaGreatDoor
