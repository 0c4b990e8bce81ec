/- Proved: for every image and entry terrazzolaw20.JournalAppends answers true, and its arguments read afterwards as before. No condition. -/
import Derived.Test.YtfeonfihlleoeaaDoorGAU
import Derived.Test.YtfeonfihlleoeaaDoorL20a
import Derived.Test.YtfeonfihlleoeaaDoorCards
import Derived.Test.YtfeonfihlleoeaaDoorTie
import Derived.ChangeMaps5
import Derived.SevenTiedAt
import Derived.Lay
namespace Go.Proofs.YtfeonfihlleoeaaDoor
open Go.ChangeShapes Go.WideShapes Go.ChangeAt Go.RowKit Go.Joins Go.ChangeMaps

section
variable {H : Type} {enc : TypeId × Value → H}
set_option maxRecDepth 100000 in
theorem open_journalAppends {W : World} {base : Nat} {args : Array Value} {ds : List (DataW H)} {p : List MemPlace}
    (hval : ∀ (j : Nat) t v, (#[3, 24] : Array TypeId)[j]? = some t → args[j]? = some v → Value.okWide Tryd.prog W .any base t v)
    (h : DataW.TrodAll enc Tryd.prog W 0 (fun _ => true) true [3, 24] args.toList ds p) :
    ∃ z0 : Int, ∃ e1 : EnD, ∃ a1 : Option Addr, ∃ c1 : Nat, args = #[.int .i64 z0, enV e1 (.slice a1 e1.data.length c1)] ∧ RB (Hp W) W (.slice a1 e1.data.length c1) e1.data := by
  obtain ⟨v0, v1, d0, d1, p0, p1, rfl, rfl, rfl, h0, h1⟩ := trodAll_two h
  obtain ⟨z0, rfl, _⟩ := open_int Tryd.underlying3 (hval 0 3 v0 rfl rfl) h0
  obtain ⟨e1, a1, c1, rfl, r1⟩ := open_ent (hval 1 24 v1 rfl rfl) h1
  exact ⟨z0, e1, a1, c1, rfl, r1⟩
end

set_option maxRecDepth 100000 in
theorem journalAppends_lifted (os : Os) (started : os.Started) (H : Type) (enc : TypeId × Value → H) :
    ReturnsInHanded {} Tryd.checked os 3 .any (fun w args => (Rows.journalAppendsSpec.pre enc Tryd.prog Tryd.f3 [] false w args ∧ laidMetH Tryd.prog Rows.journalAppendsRow.laid w) ∧ sizedMet enc Tryd.prog Tryd.f3 (OpenSpec.ofChange Rows.journalAppendsSpec) false w args) (Rows.journalAppendsSpec.post enc Tryd.prog Tryd.f3 false true false false) := by
  refine lift_law_laid os started rfl rfl ?_ ?_ (by kernel_rfl) Tryd.func3
    (ChangeSpec.witness_shaped (enc := enc) (C := Tryd.checked) (os := os) (X := fun w _ => laidMetH Tryd.prog Rows.journalAppendsRow.laid w) false (World.laidAll Tryd.prog os Rows.journalAppendsRow.laid) #[.int .i64 0, .agg #[.int .i64 0, .int .i64 0, .int .i64 0, .int .i64 0, .int .i64 0, .int .i64 0, .slice none 0 0]] 8 (World.laidAll_os _ _ _)
      (World.shaped_of_ZipB (by kernel_rfl) (by kernel_rfl)) (by kernel_rfl) (by kernel_rfl) (by kernel_rfl)
      (by rw [MakeChecks.laidMetH_plain _ _ _ (by kernel_rfl)]; exact laidMet_laidAll _ (by kernel_rfl) (by kernel_rfl))) ?_
  · intro ds hn
    rw [Tryd.params3] at hn
    obtain ⟨d1, d2, rfl⟩ : ∃ d1 d2, ds = [d1, d2] := by match ds, hn with | [a, b], _ => exact ⟨a, b, rfl⟩
    exact ⟨rfl, rfl, rfl⟩
  · rw [Tryd.params3]
    intro t ht
    simp at ht
    rcases ht with rfl | rfl <;> exact ⟨by kernel_rfl, of_decide_eq_true (by kernel_rfl)⟩
  · intro W base args ds p hval hlt hfz hA hL
    rw [Tryd.params3] at hA hval
    obtain ⟨z0, e1, a1, c1, rfl, h1⟩ := open_journalAppends hval hA
    exact appends_law (Hp W) z0 e1 a1 c1 W (lay_of_laid hL) h1
set_option maxRecDepth 100000 in
theorem journalAppends_holds : Rows.JournalAppendsSaid :=
  OpenClaim.holds_of_wide 3 Tryd.f3 rfl rfl rfl rfl rfl rfl rfl ⟨rfl, rfl, rfl, rfl, rfl⟩ rfl rfl rfl rfl rfl (by kernel_rfl) Tryd.func3 (by kernel_rfl)
    (of_decide_eq_true (by kernel_rfl)) (by unfold Func.isWrapper; first | (rw [if_pos (by decide +kernel)]; kernel_rfl) | (rw [if_neg (by decide +kernel)]; exact ⟨rfl, rfl⟩))
    (fun os started H enc _ => journalAppends_lifted os started H enc)
set_option maxRecDepth 100000 in
theorem journalAppends_card_holds : Rows.JournalAppendsCardSaid :=
  Claim7.holds_tied_plain_at .later [] [.data, .data, .data, .data, .data] true (true, "bceb510705b11179a42271a53fe242724cc82f400ad74704044034633194ca5b") false journalAppends_holds (fun _ h => by cases h) (by kernel_rfl) (fun _ h => by cases h) journalAppends_row_tie rfl ⟨rfl, rfl⟩ (by kernel_rfl) rfl
    (fun f fn hf hfn => by
      obtain rfl : f = 3 := Option.some.inj ((show Tryd.prog.funcNamed "terrazzo/terrazzolaw20.JournalAppends" = some 3 by kernel_rfl).symm.trans hf) |>.symm
      obtain rfl : fn = Tryd.f3 := (Option.some.inj (Tryd.func3.symm.trans hfn)).symm
      exact ⟨by kernel_rfl, fun j t ht => by
        rw [Tryd.params3] at ht
        have hm : t ∈ [3, 24] := by simpa using Array.mem_of_getElem? ht
        have hall : ([3, 24].all fun u => !Tryd.prog.wantsStandIn u) = true := by kernel_rfl
        exact (show Tryd.prog.wantsStandIn t = false by simpa using List.all_eq_true.1 hall t hm)⟩)
    (by kernel_rfl)
end Go.Proofs.YtfeonfihlleoeaaDoor
