/- Proved: for every object and op, there or not, terrazzolaw08.ObjectDoes answers true, and its arguments read afterwards as before. No condition. -/
import Derived.Test.YtfefnfgppgohgaaDoorOpenD
import Derived.Test.YtfefnfgppgohgaaDoorTab8
import Derived.Test.YtfefnfgppgohgaaDoorL8b
import Derived.Test.YtfefnfgppgohgaaDoorCards
import Derived.Test.YtfefnfgppgohgaaDoorTie
import Derived.SevenTiedAt
import Derived.Lay
namespace Go.Proofs.YtfefnfgppgohgaaDoor
open Go.ChangeShapes Go.WideShapes Go.ChangeAt Go.RowKit Go.Joins

section
variable {H : Type} {enc : TypeId × Value → H}
set_option maxRecDepth 100000 in
theorem open_does {W : World} {base : Nat} {args : Array Value} {ds : List (DataW H)} {p : List MemPlace}
    (hval : ∀ (j : Nat) t v, (#[25, 4, 27] : Array TypeId)[j]? = some t → args[j]? = some v → Value.okWide Tryd.prog W .any base t v)
    (h : DataW.TrodAll enc Tryd.prog W 0 (fun _ => true) true [25, 4, 27] args.toList ds p) :
    ∃ v0 th a, ∃ (k off n : Int) (nm : ByteArray) (oa : Option Addr) (oc : Nat) (d : List UInt8), args = #[v0, .bool th, .agg #[.int .i64 k, .int .i64 off, .int .i64 n, .string nm, .slice oa d.length oc]] ∧ ObV (Hp W) W v0 a ∧ RB (Hp W) W (.slice oa d.length oc) d := by
  obtain ⟨v0, v1, v2, d0, d1, d2, p0, p1, p2, rfl, rfl, rfl, h0, h1, h2⟩ := trodAll_three h
  obtain ⟨a, ha⟩ := open_ob (hval 0 25 v0 rfl rfl) h0
  obtain ⟨th, rfl, -⟩ := open_bool Tryd.underlying4 (hval 1 4 v1 rfl rfl) h1
  obtain ⟨k, off, n, nm, oa, oc, d, rfl, hd⟩ := open_op (hval 2 27 v2 rfl rfl) h2
  exact ⟨v0, th, a, k, off, n, nm, oa, oc, d, rfl, ha, hd⟩
end

set_option maxRecDepth 100000 in
theorem objectDoes_lifted (os : Os) (started : os.Started) (H : Type) (enc : TypeId × Value → H) :
    ReturnsInHanded {} Tryd.checked os 3 .any (fun w args => (Rows.objectDoesSpec.pre enc Tryd.prog Tryd.f3 [] false w args ∧ laidMetH Tryd.prog Rows.objectDoesRow.laid w) ∧ sizedMet enc Tryd.prog Tryd.f3 (OpenSpec.ofChange Rows.objectDoesSpec) false w args) (Rows.objectDoesSpec.post enc Tryd.prog Tryd.f3 false true false false) := by
  refine lift_law_laid os started rfl rfl ?_ ?_ (by kernel_rfl) Tryd.func3
    (ChangeSpec.witness_shaped (enc := enc) (C := Tryd.checked) (os := os) (X := fun w _ => laidMetH Tryd.prog Rows.objectDoesRow.laid w) false (wH os) #[.agg #[.slice none 0 0, .slice none 0 0, .int .i64 0], .bool false, .agg #[.int .i64 0, .int .i64 0, .int .i64 0, .string ByteArray.empty, .slice none 0 0]] 8 (wH_os os)
      (World.shaped_of_ZipB (by kernel_rfl) (by kernel_rfl)) (by kernel_rfl) (by kernel_rfl) (by kernel_rfl)
      (wH_met os _)) ?_
  · intro ds hn
    rw [Tryd.params3] at hn
    obtain ⟨d1, d2, d3, rfl⟩ : ∃ d1 d2 d3, ds = [d1, d2, d3] := by match ds, hn with | [a, b, c], _ => exact ⟨a, b, c, rfl⟩
    exact ⟨rfl, rfl, rfl⟩
  · rw [Tryd.params3]
    intro t ht
    simp at ht
    rcases ht with rfl | rfl | rfl <;> exact ⟨by kernel_rfl, of_decide_eq_true (by kernel_rfl)⟩
  · intro W base args ds p hval hlt hfz hA hL
    rw [Tryd.params3] at hA hval
    obtain ⟨v0, th, a, k, off, n, nm, oa, oc, d, rfl, ha, hd⟩ := open_does hval hA
    exact does_law _ _ v0 a th k off n nm oa oc d W (errT_of_laid hL) ha hd
set_option maxRecDepth 100000 in
theorem objectDoes_holds : Rows.ObjectDoesSaid :=
  OpenClaim.holds_of_wide 3 Tryd.f3 rfl rfl rfl rfl rfl rfl rfl ⟨rfl, rfl, rfl, rfl, rfl⟩ rfl rfl rfl rfl rfl (by kernel_rfl) Tryd.func3 (by kernel_rfl)
    (of_decide_eq_true (by kernel_rfl)) (by unfold Func.isWrapper; first | (rw [if_pos (by decide +kernel)]; kernel_rfl) | (rw [if_neg (by decide +kernel)]; exact ⟨rfl, rfl⟩))
    (fun os started H enc _ => objectDoes_lifted os started H enc)
set_option maxRecDepth 100000 in
theorem objectDoes_card_holds : Rows.ObjectDoesCardSaid :=
  Claim7.holds_tied_plain_at .later [] [.data, .handle, .pinned] true (true, "c9ef34a3b1430f3da7a58cf7d2a0dc219fc45413ae4df5d7fd5e8962be034946") true objectDoes_holds (fun _ h => by cases h) (by kernel_rfl) (fun _ h => by cases h) objectDoes_row_tie rfl ⟨rfl, rfl⟩ (by kernel_rfl) rfl
    (fun f fn hf hfn => by
      obtain rfl : f = 3 := Option.some.inj ((show Tryd.prog.funcNamed "terrazzo/terrazzolaw08.ObjectDoes" = some 3 by kernel_rfl).symm.trans hf) |>.symm
      obtain rfl : fn = Tryd.f3 := (Option.some.inj (Tryd.func3.symm.trans hfn)).symm
      exact ⟨by kernel_rfl, fun j t ht => by
        rw [Tryd.params3] at ht
        have hm : t ∈ [25, 4, 27] := by simpa using Array.mem_of_getElem? ht
        have hall : ([25, 4, 27].all fun u => !Tryd.prog.wantsStandIn u) = true := by kernel_rfl
        exact (show Tryd.prog.wantsStandIn t = false by simpa using List.all_eq_true.1 hall t hm)⟩)
    (by kernel_rfl)
end Go.Proofs.YtfefnfgppgohgaaDoor
