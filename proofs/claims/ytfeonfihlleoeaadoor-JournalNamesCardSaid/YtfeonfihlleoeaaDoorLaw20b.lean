/- Proved: for every two images and entry terrazzolaw20.JournalNames answers true, and its arguments read afterwards as before. No condition. -/
import Derived.Test.YtfeonfihlleoeaaDoorGAU
import Derived.Test.YtfeonfihlleoeaaDoorL20b
import Derived.Test.YtfeonfihlleoeaaDoorCards
import Derived.Test.YtfeonfihlleoeaaDoorTie
import Derived.ChangeMaps5
import Derived.SevenTiedAt
import Derived.Lay
namespace Go.Proofs.YtfeonfihlleoeaaDoor
open Go.ChangeShapes Go.WideShapes Go.ChangeAt Go.RowKit Go.Joins Go.ChangeMaps

section
variable {H : Type} {enc : TypeId × Value → H}
set_option maxRecDepth 100000 in
theorem open_journalNames {W : World} {base : Nat} {args : Array Value} {ds : List (DataW H)} {p : List MemPlace}
    (hval : ∀ (j : Nat) t v, (#[3, 3, 24] : Array TypeId)[j]? = some t → args[j]? = some v → Value.okWide Tryd.prog W .any base t v)
    (h : DataW.TrodAll enc Tryd.prog W 0 (fun _ => true) true [3, 3, 24] args.toList ds p) :
    ∃ z0 : Int, ∃ z1 : Int, ∃ e2 : EnD, ∃ a2 : Option Addr, ∃ c2 : Nat, args = #[.int .i64 z0, .int .i64 z1, enV e2 (.slice a2 e2.data.length c2)] ∧ RB (Hp W) W (.slice a2 e2.data.length c2) e2.data := by
  obtain ⟨v0, v1, v2, d0, d1, d2, p0, p1, p2, rfl, rfl, rfl, h0, h1, h2⟩ := trodAll_three h
  obtain ⟨z0, rfl, _⟩ := open_int Tryd.underlying3 (hval 0 3 v0 rfl rfl) h0
  obtain ⟨z1, rfl, _⟩ := open_int Tryd.underlying3 (hval 1 3 v1 rfl rfl) h1
  obtain ⟨e2, a2, c2, rfl, r2⟩ := open_ent (hval 2 24 v2 rfl rfl) h2
  exact ⟨z0, z1, e2, a2, c2, rfl, r2⟩
end

set_option maxRecDepth 100000 in
theorem journalNames_lifted (os : Os) (started : os.Started) (H : Type) (enc : TypeId × Value → H) :
    ReturnsInHanded {} Tryd.checked os 5 .any (fun w args => (Rows.journalNamesSpec.pre enc Tryd.prog Tryd.f5 [] false w args ∧ laidMetH Tryd.prog Rows.journalNamesRow.laid w) ∧ sizedMet enc Tryd.prog Tryd.f5 (OpenSpec.ofChange Rows.journalNamesSpec) false w args) (Rows.journalNamesSpec.post enc Tryd.prog Tryd.f5 false true false false) := by
  refine lift_law_laid os started rfl rfl ?_ ?_ (by kernel_rfl) Tryd.func5
    (ChangeSpec.witness_shaped (enc := enc) (C := Tryd.checked) (os := os) (X := fun w _ => laidMetH Tryd.prog Rows.journalNamesRow.laid w) false (World.laidAll Tryd.prog os Rows.journalNamesRow.laid) #[.int .i64 0, .int .i64 0, .agg #[.int .i64 0, .int .i64 0, .int .i64 0, .int .i64 0, .int .i64 0, .int .i64 0, .slice none 0 0]] 8 (World.laidAll_os _ _ _)
      (World.shaped_of_ZipB (by kernel_rfl) (by kernel_rfl)) (by kernel_rfl) (by kernel_rfl) (by kernel_rfl)
      (by rw [MakeChecks.laidMetH_plain _ _ _ (by kernel_rfl)]; exact laidMet_laidAll _ (by kernel_rfl) (by kernel_rfl))) ?_
  · intro ds hn
    rw [Tryd.params5] at hn
    obtain ⟨d1, d2, d3, rfl⟩ : ∃ d1 d2 d3, ds = [d1, d2, d3] := by match ds, hn with | [a, b, c], _ => exact ⟨a, b, c, rfl⟩
    exact ⟨rfl, rfl, rfl⟩
  · rw [Tryd.params5]
    intro t ht
    simp at ht
    rcases ht with rfl | rfl | rfl <;> exact ⟨by kernel_rfl, of_decide_eq_true (by kernel_rfl)⟩
  · intro W base args ds p hval hlt hfz hA hL
    rw [Tryd.params5] at hA hval
    obtain ⟨z0, z1, e2, a2, c2, rfl, h2⟩ := open_journalNames hval hA
    exact jnames_law (Hp W) z0 z1 e2 a2 c2 W (lay_of_laid hL) h2
set_option maxRecDepth 100000 in
theorem journalNames_holds : Rows.JournalNamesSaid :=
  OpenClaim.holds_of_wide 5 Tryd.f5 rfl rfl rfl rfl rfl rfl rfl ⟨rfl, rfl, rfl, rfl, rfl⟩ rfl rfl rfl rfl rfl (by kernel_rfl) Tryd.func5 (by kernel_rfl)
    (of_decide_eq_true (by kernel_rfl)) (by unfold Func.isWrapper; first | (rw [if_pos (by decide +kernel)]; kernel_rfl) | (rw [if_neg (by decide +kernel)]; exact ⟨rfl, rfl⟩))
    (fun os started H enc _ => journalNames_lifted os started H enc)
set_option maxRecDepth 100000 in
theorem journalNames_card_holds : Rows.JournalNamesCardSaid :=
  Claim7.holds_tied_plain_at .later [] [.data, .data, .data, .data, .data] true (true, "bceb510705b11179a42271a53fe242724cc82f400ad74704044034633194ca5b") false journalNames_holds (fun _ h => by cases h) (by kernel_rfl) (fun _ h => by cases h) journalNames_row_tie rfl ⟨rfl, rfl⟩ (by kernel_rfl) rfl
    (fun f fn hf hfn => by
      obtain rfl : f = 5 := Option.some.inj ((show Tryd.prog.funcNamed "terrazzo/terrazzolaw20.JournalNames" = some 5 by kernel_rfl).symm.trans hf) |>.symm
      obtain rfl : fn = Tryd.f5 := (Option.some.inj (Tryd.func5.symm.trans hfn)).symm
      exact ⟨by kernel_rfl, fun j t ht => by
        rw [Tryd.params5] at ht
        have hm : t ∈ [3, 3, 24] := by simpa using Array.mem_of_getElem? ht
        have hall : ([3, 3, 24].all fun u => !Tryd.prog.wantsStandIn u) = true := by kernel_rfl
        exact (show Tryd.prog.wantsStandIn t = false by simpa using List.all_eq_true.1 hall t hm)⟩)
    (by kernel_rfl)
end Go.Proofs.YtfeonfihlleoeaaDoor
