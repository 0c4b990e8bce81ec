/-
  NARROWER THAN 'FOR EVERY INPUT', by the rows' own cells (each row's printed sentence says how): PlanDoes: laid · PlanNames: laid · PlanAgain: laid · PlanDiffers: laid · PlanOpens: laid · PlanReads: laid.
  DERIVED. THE GIVEN ROWS OF THIS SEAT. 6 by the template 'for every input the law returns true; each argument reads behind the call as it read before'; 0 by the template 'total and deterministic' (their statements: YtlekdfajcpmolaaGreatDoorTotals.lean).
  GIVEN WITH THE SEED: the statements are not yours to turn. If you find one false, say at which input.
  Laid BY PROGRAM, IN A SANDBOX (cutbox-rows.mjs): the forced cells as the released guide's own fill.sh prints them over the translation 80909d878246beab… (all of the seat's roots in one cut). By AI agents, Wed Nov 11 2026. No macro, syntax, notation, axiom, sorry.
-/
import Derived.Test.YtlekdfajcpmolaaGreatDoorChecked
import GoSem.Claim
import GoSem.ClaimJoined
import GoSem.ClaimMapViews
import Derived.JoinedTies
import Derived.KernelRfl
namespace Go.Proofs.YtlekdfajcpmolaaGreatDoor
/- THE CELL 'sum', in the pinned program and in every row, IS THE sha256 OF THE DUMP (.gsa) THAT YtlekdfajcpmolaaGreatDoorProg.lean LOADS. Nothing in Lean hashes anything: it is a label: what it is worth is what the hold of that sum in a sandbox is worth. -/
noncomputable def Tryz.pinned : Pinned := { name := "ytlekdfajcpmolaagreatdoor", sum := "80909d878246beabf67dcee27e77e214999873273859375a7780071094cd6467", checked := Tryz.checked }
namespace Rows
def none {H : Type} : Left H := { results := [], args := [] }

/- WHAT THE LISTED PACKAGE-LEVEL VARIABLES READ AS WHEN THE CALL BEGINS. Each datum BY PROGRAM (the guide's laid-datum.mjs) off the statement by which the dump's own 'gosem.cut.vars' lays the variable. In a bare row this is a premise. The card (YtlekdfajcpmolaaGreatDoorCards.lean) ties it to the program's text. -/
def laid_math_bits_deBruijn32tab {H : Type} : DataW H := .agg [.lit (.int .u8 0), .lit (.int .u8 1), .lit (.int .u8 28), .lit (.int .u8 2), .lit (.int .u8 29), .lit (.int .u8 14), .lit (.int .u8 24), .lit (.int .u8 3), .lit (.int .u8 30), .lit (.int .u8 22), .lit (.int .u8 20), .lit (.int .u8 15), .lit (.int .u8 25), .lit (.int .u8 17), .lit (.int .u8 4), .lit (.int .u8 8), .lit (.int .u8 31), .lit (.int .u8 27), .lit (.int .u8 13), .lit (.int .u8 23), .lit (.int .u8 21), .lit (.int .u8 19), .lit (.int .u8 16), .lit (.int .u8 7), .lit (.int .u8 26), .lit (.int .u8 12), .lit (.int .u8 18), .lit (.int .u8 6), .lit (.int .u8 11), .lit (.int .u8 5), .lit (.int .u8 10), .lit (.int .u8 9)]
def laid_math_bits_deBruijn64tab {H : Type} : DataW H := .agg [.lit (.int .u8 0), .lit (.int .u8 1), .lit (.int .u8 56), .lit (.int .u8 2), .lit (.int .u8 57), .lit (.int .u8 49), .lit (.int .u8 28), .lit (.int .u8 3), .lit (.int .u8 61), .lit (.int .u8 58), .lit (.int .u8 42), .lit (.int .u8 50), .lit (.int .u8 38), .lit (.int .u8 29), .lit (.int .u8 17), .lit (.int .u8 4), .lit (.int .u8 62), .lit (.int .u8 47), .lit (.int .u8 59), .lit (.int .u8 36), .lit (.int .u8 45), .lit (.int .u8 43), .lit (.int .u8 51), .lit (.int .u8 22), .lit (.int .u8 53), .lit (.int .u8 39), .lit (.int .u8 33), .lit (.int .u8 30), .lit (.int .u8 24), .lit (.int .u8 18), .lit (.int .u8 12), .lit (.int .u8 5), .lit (.int .u8 63), .lit (.int .u8 55), .lit (.int .u8 48), .lit (.int .u8 27), .lit (.int .u8 60), .lit (.int .u8 41), .lit (.int .u8 37), .lit (.int .u8 16), .lit (.int .u8 46), .lit (.int .u8 35), .lit (.int .u8 44), .lit (.int .u8 21), .lit (.int .u8 52), .lit (.int .u8 32), .lit (.int .u8 23), .lit (.int .u8 11), .lit (.int .u8 54), .lit (.int .u8 26), .lit (.int .u8 40), .lit (.int .u8 15), .lit (.int .u8 34), .lit (.int .u8 20), .lit (.int .u8 31), .lit (.int .u8 10), .lit (.int .u8 25), .lit (.int .u8 14), .lit (.int .u8 19), .lit (.int .u8 9), .lit (.int .u8 13), .lit (.int .u8 8), .lit (.int .u8 7), .lit (.int .u8 6)]
def laid_internal_strconv_uint64pow10 {H : Type} : DataW H := .agg [.lit (.int .u64 1), .lit (.int .u64 10), .lit (.int .u64 100), .lit (.int .u64 1000), .lit (.int .u64 10000), .lit (.int .u64 100000), .lit (.int .u64 1000000), .lit (.int .u64 10000000), .lit (.int .u64 100000000), .lit (.int .u64 1000000000), .lit (.int .u64 10000000000), .lit (.int .u64 100000000000), .lit (.int .u64 1000000000000), .lit (.int .u64 10000000000000), .lit (.int .u64 100000000000000), .lit (.int .u64 1000000000000000), .lit (.int .u64 10000000000000000), .lit (.int .u64 100000000000000000), .lit (.int .u64 1000000000000000000), .lit (.int .u64 10000000000000000000)]
def laid_terrazzo_entry_names {H : Type} : DataW H := .agg [.lit (.int .i64 0), .lit (.int .i64 9), .lit (.int .i64 3), .lit (.int .i64 2), .lit (.int .i64 0), .lit (.int .i64 4), .lit (.int .i64 4)]

/-- 'terrazzolaw19.PlanDoes': WHATEVER THE INPUT: true; the input reads as it did. -/
def planDoesSpec : ChangeSpec := { name := "planDoes", fn := fun _ => fun
  | [d1, d2, d3] => { results := [.lit (.bool true)], args := [d1, d2, d3] }
  | _ => none }
def planDoesRow : OpenClaim := { program := "ytlekdfajcpmolaagreatdoor", sum := "80909d878246beabf67dcee27e77e214999873273859375a7780071094cd6467", func := "terrazzo/terrazzolaw19.PlanDoes", spec := "planDoes", inPlace := ["internal/abi.NoEscape", "internal/bytealg.MakeNoZero"], unfollowed := true, recurses := true, named := ["terrazzo/entry.names", "internal/strconv.uint64pow10", "math/bits.deBruijn32tab", "math/bits.deBruijn64tab"], apart := false, laid := [("math/bits.deBruijn32tab", laid_math_bits_deBruijn32tab), ("math/bits.deBruijn64tab", laid_math_bits_deBruijn64tab), ("internal/strconv.uint64pow10", laid_internal_strconv_uint64pow10), ("terrazzo/entry.names", laid_terrazzo_entry_names)] }
def PlanDoesSaid : Prop := planDoesRow.holds Tryz.pinned (OpenSpec.ofChange planDoesSpec)

/-- ITS FALSE NEIGHBOUR: 'it returns false'. Refute it at one input. -/
def planDoesWrong : ChangeSpec := { name := "planDoes", fn := fun _ => fun
  | [d1, d2, d3] => { results := [.lit (.bool false)], args := [d1, d2, d3] }
  | _ => none }
def PlanDoesWrongFalsely : Prop := planDoesRow.holds Tryz.pinned (OpenSpec.ofChange planDoesWrong)

/-- 'terrazzolaw19.PlanNames': WHATEVER THE INPUT: true; the input reads as it did. -/
def planNamesSpec : ChangeSpec := { name := "planNames", fn := fun _ => fun
  | [d1, d2, d3] => { results := [.lit (.bool true)], args := [d1, d2, d3] }
  | _ => none }
def planNamesRow : OpenClaim := { program := "ytlekdfajcpmolaagreatdoor", sum := "80909d878246beabf67dcee27e77e214999873273859375a7780071094cd6467", func := "terrazzo/terrazzolaw19.PlanNames", spec := "planNames", inPlace := ["internal/abi.NoEscape", "internal/bytealg.MakeNoZero"], unfollowed := true, recurses := true, named := ["terrazzo/entry.names", "internal/strconv.uint64pow10", "math/bits.deBruijn32tab", "math/bits.deBruijn64tab"], apart := false, laid := [("math/bits.deBruijn32tab", laid_math_bits_deBruijn32tab), ("math/bits.deBruijn64tab", laid_math_bits_deBruijn64tab), ("internal/strconv.uint64pow10", laid_internal_strconv_uint64pow10), ("terrazzo/entry.names", laid_terrazzo_entry_names)] }
def PlanNamesSaid : Prop := planNamesRow.holds Tryz.pinned (OpenSpec.ofChange planNamesSpec)

/-- ITS FALSE NEIGHBOUR: 'it returns false'. Refute it at one input. -/
def planNamesWrong : ChangeSpec := { name := "planNames", fn := fun _ => fun
  | [d1, d2, d3] => { results := [.lit (.bool false)], args := [d1, d2, d3] }
  | _ => none }
def PlanNamesWrongFalsely : Prop := planNamesRow.holds Tryz.pinned (OpenSpec.ofChange planNamesWrong)

/-- 'terrazzolaw19.PlanAgain': WHATEVER THE INPUT: true; the input reads as it did. -/
def planAgainSpec : ChangeSpec := { name := "planAgain", fn := fun _ => fun
  | [d1, d2, d3] => { results := [.lit (.bool true)], args := [d1, d2, d3] }
  | _ => none }
def planAgainRow : OpenClaim := { program := "ytlekdfajcpmolaagreatdoor", sum := "80909d878246beabf67dcee27e77e214999873273859375a7780071094cd6467", func := "terrazzo/terrazzolaw19.PlanAgain", spec := "planAgain", inPlace := ["internal/abi.NoEscape", "internal/bytealg.MakeNoZero"], unfollowed := true, recurses := true, named := ["terrazzo/entry.names", "internal/strconv.uint64pow10", "math/bits.deBruijn32tab", "math/bits.deBruijn64tab"], apart := false, laid := [("math/bits.deBruijn32tab", laid_math_bits_deBruijn32tab), ("math/bits.deBruijn64tab", laid_math_bits_deBruijn64tab), ("internal/strconv.uint64pow10", laid_internal_strconv_uint64pow10), ("terrazzo/entry.names", laid_terrazzo_entry_names)] }
def PlanAgainSaid : Prop := planAgainRow.holds Tryz.pinned (OpenSpec.ofChange planAgainSpec)

/-- ITS FALSE NEIGHBOUR: 'it returns false'. Refute it at one input. -/
def planAgainWrong : ChangeSpec := { name := "planAgain", fn := fun _ => fun
  | [d1, d2, d3] => { results := [.lit (.bool false)], args := [d1, d2, d3] }
  | _ => none }
def PlanAgainWrongFalsely : Prop := planAgainRow.holds Tryz.pinned (OpenSpec.ofChange planAgainWrong)

/-- 'terrazzolaw19.PlanDiffers': WHATEVER THE INPUT: true; the input reads as it did. -/
def planDiffersSpec : ChangeSpec := { name := "planDiffers", fn := fun _ => fun
  | [d1, d2, d3] => { results := [.lit (.bool true)], args := [d1, d2, d3] }
  | _ => none }
def planDiffersRow : OpenClaim := { program := "ytlekdfajcpmolaagreatdoor", sum := "80909d878246beabf67dcee27e77e214999873273859375a7780071094cd6467", func := "terrazzo/terrazzolaw19.PlanDiffers", spec := "planDiffers", inPlace := ["internal/abi.NoEscape", "internal/bytealg.MakeNoZero"], unfollowed := true, recurses := true, named := ["terrazzo/entry.names", "internal/strconv.uint64pow10", "math/bits.deBruijn32tab", "math/bits.deBruijn64tab"], apart := false, laid := [("math/bits.deBruijn32tab", laid_math_bits_deBruijn32tab), ("math/bits.deBruijn64tab", laid_math_bits_deBruijn64tab), ("internal/strconv.uint64pow10", laid_internal_strconv_uint64pow10), ("terrazzo/entry.names", laid_terrazzo_entry_names)] }
def PlanDiffersSaid : Prop := planDiffersRow.holds Tryz.pinned (OpenSpec.ofChange planDiffersSpec)

/-- ITS FALSE NEIGHBOUR: 'it returns false'. Refute it at one input. -/
def planDiffersWrong : ChangeSpec := { name := "planDiffers", fn := fun _ => fun
  | [d1, d2, d3] => { results := [.lit (.bool false)], args := [d1, d2, d3] }
  | _ => none }
def PlanDiffersWrongFalsely : Prop := planDiffersRow.holds Tryz.pinned (OpenSpec.ofChange planDiffersWrong)

/-- 'terrazzolaw19.PlanOpens': WHATEVER THE INPUT: true; the input reads as it did. -/
def planOpensSpec : ChangeSpec := { name := "planOpens", fn := fun _ => fun
  | [d1, d2] => { results := [.lit (.bool true)], args := [d1, d2] }
  | _ => none }
def planOpensRow : OpenClaim := { program := "ytlekdfajcpmolaagreatdoor", sum := "80909d878246beabf67dcee27e77e214999873273859375a7780071094cd6467", func := "terrazzo/terrazzolaw19.PlanOpens", spec := "planOpens", inPlace := ["internal/abi.NoEscape", "internal/bytealg.MakeNoZero"], unfollowed := true, recurses := true, named := ["terrazzo/entry.names", "internal/strconv.uint64pow10", "math/bits.deBruijn32tab", "math/bits.deBruijn64tab"], apart := false, laid := [("math/bits.deBruijn32tab", laid_math_bits_deBruijn32tab), ("math/bits.deBruijn64tab", laid_math_bits_deBruijn64tab), ("internal/strconv.uint64pow10", laid_internal_strconv_uint64pow10), ("terrazzo/entry.names", laid_terrazzo_entry_names)] }
def PlanOpensSaid : Prop := planOpensRow.holds Tryz.pinned (OpenSpec.ofChange planOpensSpec)

/-- ITS FALSE NEIGHBOUR: 'it returns false'. Refute it at one input. -/
def planOpensWrong : ChangeSpec := { name := "planOpens", fn := fun _ => fun
  | [d1, d2] => { results := [.lit (.bool false)], args := [d1, d2] }
  | _ => none }
def PlanOpensWrongFalsely : Prop := planOpensRow.holds Tryz.pinned (OpenSpec.ofChange planOpensWrong)

/-- 'terrazzolaw19.PlanReads': WHATEVER THE INPUT: true; the input reads as it did. -/
def planReadsSpec : ChangeSpec := { name := "planReads", fn := fun _ => fun
  | [d1, d2, d3] => { results := [.lit (.bool true)], args := [d1, d2, d3] }
  | _ => none }
def planReadsRow : OpenClaim := { program := "ytlekdfajcpmolaagreatdoor", sum := "80909d878246beabf67dcee27e77e214999873273859375a7780071094cd6467", func := "terrazzo/terrazzolaw19.PlanReads", spec := "planReads", inPlace := ["internal/abi.NoEscape", "internal/bytealg.MakeNoZero"], unfollowed := true, recurses := true, named := ["terrazzo/entry.names", "internal/strconv.uint64pow10", "math/bits.deBruijn32tab", "math/bits.deBruijn64tab"], apart := false, laid := [("math/bits.deBruijn32tab", laid_math_bits_deBruijn32tab), ("math/bits.deBruijn64tab", laid_math_bits_deBruijn64tab), ("internal/strconv.uint64pow10", laid_internal_strconv_uint64pow10), ("terrazzo/entry.names", laid_terrazzo_entry_names)] }
def PlanReadsSaid : Prop := planReadsRow.holds Tryz.pinned (OpenSpec.ofChange planReadsSpec)

/-- ITS FALSE NEIGHBOUR: 'it returns false'. Refute it at one input. -/
def planReadsWrong : ChangeSpec := { name := "planReads", fn := fun _ => fun
  | [d1, d2, d3] => { results := [.lit (.bool false)], args := [d1, d2, d3] }
  | _ => none }
def PlanReadsWrongFalsely : Prop := planReadsRow.holds Tryz.pinned (OpenSpec.ofChange planReadsWrong)

/- THE SECOND FORM. 'bulk': how many values and letters a reading holds, each counted each time it is reached (what is shared counts as often as it is met; a slice's spare places count too). A statement '..UptoSaid' is the law's where the arguments, and the package variables that the reading takes, are together of bulk at most 1048576: NARROWER than '..Said'. Prove '..Said' where nothing that the law and all that it calls make is longer than what came in: it says more and counts as full. Else prove '..UptoSaid'. A law counts once. -/
mutual
def uptoBulk {H : Type} : DataW H → Nat
  | .lit (.string bytes) => bytes.length + 1
  | .lit _ => 1
  | .nil => 1
  | .ptr d => uptoBulk d + 1
  | .slice elems spare => uptoBulkAll elems + uptoBulkAll spare + 1
  | .agg parts => uptoBulkAll parts + 1
  | .iface _ d => uptoBulk d + 1
  | .map entries => uptoBulkEntries entries + 1
  | .held _ => 1
def uptoBulkAll {H : Type} : List (DataW H) → Nat
  | [] => 0
  | d :: r => uptoBulk d + uptoBulkAll r
def uptoBulkEntries {H : Type} : List (Lit × DataW H) → Nat
  | [] => 0
  | x :: r => uptoBulkEntry x + uptoBulkEntries r
def uptoBulkEntry {H : Type} : Lit × DataW H → Nat
  | (.string bytes, d) => bytes.length + uptoBulk d + 1
  | (_, d) => uptoBulk d + 1
 end
def uptoSmall : (H : Type) → List (DataW H) → Bool := fun _ ds => decide (uptoBulkAll ds ≤ 1048576)
def OpenSpec.upto (s : _root_.Go.ChangeSpec) : _root_.Go.OpenSpec := { _root_.Go.OpenSpec.ofChange s with cond := some uptoSmall }

/-- 'terrazzolaw19.PlanDoes', WHERE WHAT IT READS IS OF BULK AT MOST 1048576: true; the input reads as it did. -/
def planDoesUptoRow : OpenClaim := { program := "ytlekdfajcpmolaagreatdoor", sum := "80909d878246beabf67dcee27e77e214999873273859375a7780071094cd6467", func := "terrazzo/terrazzolaw19.PlanDoes", spec := "planDoes", inPlace := ["internal/abi.NoEscape", "internal/bytealg.MakeNoZero"], unfollowed := true, recurses := true, named := ["terrazzo/entry.names", "internal/strconv.uint64pow10", "math/bits.deBruijn32tab", "math/bits.deBruijn64tab"], apart := false, laid := [("math/bits.deBruijn32tab", laid_math_bits_deBruijn32tab), ("math/bits.deBruijn64tab", laid_math_bits_deBruijn64tab), ("internal/strconv.uint64pow10", laid_internal_strconv_uint64pow10), ("terrazzo/entry.names", laid_terrazzo_entry_names)], narrowed := true }
def PlanDoesUptoSaid : Prop := planDoesUptoRow.holds Tryz.pinned (OpenSpec.upto planDoesSpec)

/-- 'terrazzolaw19.PlanNames', WHERE WHAT IT READS IS OF BULK AT MOST 1048576: true; the input reads as it did. -/
def planNamesUptoRow : OpenClaim := { program := "ytlekdfajcpmolaagreatdoor", sum := "80909d878246beabf67dcee27e77e214999873273859375a7780071094cd6467", func := "terrazzo/terrazzolaw19.PlanNames", spec := "planNames", inPlace := ["internal/abi.NoEscape", "internal/bytealg.MakeNoZero"], unfollowed := true, recurses := true, named := ["terrazzo/entry.names", "internal/strconv.uint64pow10", "math/bits.deBruijn32tab", "math/bits.deBruijn64tab"], apart := false, laid := [("math/bits.deBruijn32tab", laid_math_bits_deBruijn32tab), ("math/bits.deBruijn64tab", laid_math_bits_deBruijn64tab), ("internal/strconv.uint64pow10", laid_internal_strconv_uint64pow10), ("terrazzo/entry.names", laid_terrazzo_entry_names)], narrowed := true }
def PlanNamesUptoSaid : Prop := planNamesUptoRow.holds Tryz.pinned (OpenSpec.upto planNamesSpec)

/-- 'terrazzolaw19.PlanAgain', WHERE WHAT IT READS IS OF BULK AT MOST 1048576: true; the input reads as it did. -/
def planAgainUptoRow : OpenClaim := { program := "ytlekdfajcpmolaagreatdoor", sum := "80909d878246beabf67dcee27e77e214999873273859375a7780071094cd6467", func := "terrazzo/terrazzolaw19.PlanAgain", spec := "planAgain", inPlace := ["internal/abi.NoEscape", "internal/bytealg.MakeNoZero"], unfollowed := true, recurses := true, named := ["terrazzo/entry.names", "internal/strconv.uint64pow10", "math/bits.deBruijn32tab", "math/bits.deBruijn64tab"], apart := false, laid := [("math/bits.deBruijn32tab", laid_math_bits_deBruijn32tab), ("math/bits.deBruijn64tab", laid_math_bits_deBruijn64tab), ("internal/strconv.uint64pow10", laid_internal_strconv_uint64pow10), ("terrazzo/entry.names", laid_terrazzo_entry_names)], narrowed := true }
def PlanAgainUptoSaid : Prop := planAgainUptoRow.holds Tryz.pinned (OpenSpec.upto planAgainSpec)

/-- 'terrazzolaw19.PlanDiffers', WHERE WHAT IT READS IS OF BULK AT MOST 1048576: true; the input reads as it did. -/
def planDiffersUptoRow : OpenClaim := { program := "ytlekdfajcpmolaagreatdoor", sum := "80909d878246beabf67dcee27e77e214999873273859375a7780071094cd6467", func := "terrazzo/terrazzolaw19.PlanDiffers", spec := "planDiffers", inPlace := ["internal/abi.NoEscape", "internal/bytealg.MakeNoZero"], unfollowed := true, recurses := true, named := ["terrazzo/entry.names", "internal/strconv.uint64pow10", "math/bits.deBruijn32tab", "math/bits.deBruijn64tab"], apart := false, laid := [("math/bits.deBruijn32tab", laid_math_bits_deBruijn32tab), ("math/bits.deBruijn64tab", laid_math_bits_deBruijn64tab), ("internal/strconv.uint64pow10", laid_internal_strconv_uint64pow10), ("terrazzo/entry.names", laid_terrazzo_entry_names)], narrowed := true }
def PlanDiffersUptoSaid : Prop := planDiffersUptoRow.holds Tryz.pinned (OpenSpec.upto planDiffersSpec)

/-- 'terrazzolaw19.PlanOpens', WHERE WHAT IT READS IS OF BULK AT MOST 1048576: true; the input reads as it did. -/
def planOpensUptoRow : OpenClaim := { program := "ytlekdfajcpmolaagreatdoor", sum := "80909d878246beabf67dcee27e77e214999873273859375a7780071094cd6467", func := "terrazzo/terrazzolaw19.PlanOpens", spec := "planOpens", inPlace := ["internal/abi.NoEscape", "internal/bytealg.MakeNoZero"], unfollowed := true, recurses := true, named := ["terrazzo/entry.names", "internal/strconv.uint64pow10", "math/bits.deBruijn32tab", "math/bits.deBruijn64tab"], apart := false, laid := [("math/bits.deBruijn32tab", laid_math_bits_deBruijn32tab), ("math/bits.deBruijn64tab", laid_math_bits_deBruijn64tab), ("internal/strconv.uint64pow10", laid_internal_strconv_uint64pow10), ("terrazzo/entry.names", laid_terrazzo_entry_names)], narrowed := true }
def PlanOpensUptoSaid : Prop := planOpensUptoRow.holds Tryz.pinned (OpenSpec.upto planOpensSpec)

/-- 'terrazzolaw19.PlanReads', WHERE WHAT IT READS IS OF BULK AT MOST 1048576: true; the input reads as it did. -/
def planReadsUptoRow : OpenClaim := { program := "ytlekdfajcpmolaagreatdoor", sum := "80909d878246beabf67dcee27e77e214999873273859375a7780071094cd6467", func := "terrazzo/terrazzolaw19.PlanReads", spec := "planReads", inPlace := ["internal/abi.NoEscape", "internal/bytealg.MakeNoZero"], unfollowed := true, recurses := true, named := ["terrazzo/entry.names", "internal/strconv.uint64pow10", "math/bits.deBruijn32tab", "math/bits.deBruijn64tab"], apart := false, laid := [("math/bits.deBruijn32tab", laid_math_bits_deBruijn32tab), ("math/bits.deBruijn64tab", laid_math_bits_deBruijn64tab), ("internal/strconv.uint64pow10", laid_internal_strconv_uint64pow10), ("terrazzo/entry.names", laid_terrazzo_entry_names)], narrowed := true }
def PlanReadsUptoSaid : Prop := planReadsUptoRow.holds Tryz.pinned (OpenSpec.upto planReadsSpec)

end Rows
end Go.Proofs.YtlekdfajcpmolaaGreatDoor
