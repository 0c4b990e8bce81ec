/- Proved: for every script of acts, terrazzolaw14.WatchPlays answers true, and its argument reads afterwards as before. No condition. -/
import Derived.Test.YtiikkglgoanpbaaLaw14d
import Derived.Test.YtiikkglgoanpbaaPlays14
namespace Go.Proofs.Ytiikkglgoanpbaa
open Go.ChangeShapes Go.WideShapes Go.ChangeAt Go.RowKit

section
variable {H : Type} {enc : TypeId × Value → H}
theorem open_plays {W : World} {base : Nat} {args : Array Value} {ds : List (DataW H)} {p : List MemPlace}
    (hval : ∀ (j : Nat) t v, (#[34] : Array TypeId)[j]? = some t → args[j]? = some v → Value.okWide Try.prog W .any base t v)
    (h : DataW.TrodAll enc Try.prog W 0 (fun _ => true) true [34] args.toList ds p) : ∃ a1 n1 c1 l1, args = #[.slice a1 n1 c1] ∧ RdA W a1 n1 l1 := by
  obtain ⟨v0, d0, rfl, rfl, h0⟩ := trodAll_one h
  obtain ⟨a1, n1, c1, l1, rfl, r1⟩ := open_acts (hval 0 34 v0 rfl rfl) h0
  exact ⟨a1, n1, c1, l1, rfl, r1⟩
end

theorem watchPlays_lifted (os : Os) (started : os.Started) (H : Type) (enc : TypeId × Value → H) :
    ReturnsInHanded {} Try.checked os 5 .any (Rows.watchPlaysSpec.pre6 enc Try.prog Try.f5 [] false) (Rows.watchPlaysSpec.post enc Try.prog Try.f5 false true false false) := by
  refine lift_law os started rfl rfl ?_ ?_ (by kernel_rfl) Try.func5
    (ChangeSpec.witness6 (enc := enc) (C := Try.checked) false ⟨#[], #[.slice none 0 0], []⟩ 8 (by kernel_rfl) (by kernel_rfl) (by kernel_rfl) (by kernel_rfl)) ?_
  · intro ds hn
    rw [Try.params5] at hn
    obtain ⟨d1, rfl⟩ : ∃ d1, ds = [d1] := by match ds, hn with | [a], _ => exact ⟨a, rfl⟩
    exact ⟨rfl, rfl, rfl⟩
  · rw [Try.params5]
    intro t ht
    simp at ht
    rcases ht with rfl <;> exact ⟨by kernel_rfl, of_decide_eq_true (by kernel_rfl)⟩
  · intro W base args ds p hval hlt hfz hA
    rw [Try.params5] at hA hval
    obtain ⟨a1, n1, c1, l1, rfl, r1⟩ := open_plays hval hA
    exact plays_law a1 n1 c1 l1 W r1
theorem watchPlays_holds : Rows.WatchPlaysSaid :=
  OpenClaim.holds_of_wide 5 Try.f5 rfl rfl rfl rfl rfl rfl rfl ⟨rfl, rfl, rfl, rfl, rfl⟩ rfl rfl rfl rfl rfl (by kernel_rfl) Try.func5 (by kernel_rfl)
    (of_decide_eq_true (by kernel_rfl)) (by unfold Func.isWrapper; rw [if_neg (of_decide_eq_false (by kernel_rfl))]; exact ⟨rfl, rfl⟩)
    (fun os started H enc _ => watchPlays_lifted os started H enc)
end Go.Proofs.Ytiikkglgoanpbaa
