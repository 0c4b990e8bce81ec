/- Proved: for all images and every row of watchers, terrazzolaw14.WatchApart answers true, and its arguments read afterwards as before. No condition. -/
import Derived.Test.YtiikkglgoanpbaaLaw14b
import Derived.Test.YtiikkglgoanpbaaApart14
namespace Go.Proofs.Ytiikkglgoanpbaa
open Go.ChangeShapes Go.WideShapes Go.ChangeAt Go.RowKit

section
variable {H : Type} {enc : TypeId × Value → H}
theorem open_apart {W : World} {base : Nat} {args : Array Value} {ds : List (DataW H)} {p : List MemPlace}
    (hval : ∀ (j : Nat) t v, (#[3, 3, 22] : Array TypeId)[j]? = some t → args[j]? = some v → Value.okWide Try.prog W .any base t v)
    (h : DataW.TrodAll enc Try.prog W 0 (fun _ => true) true [3, 3, 22] args.toList ds p) : ∃ a b a1 n1 c1 l1, args = #[.int .i64 a, .int .i64 b, .slice a1 n1 c1] ∧ RdI W a1 n1 l1 := by
  obtain ⟨v0, v1, v2, d0, d1, d2, p0, p1, p2, rfl, rfl, rfl, h0, h1, h2⟩ := trodAll_three h
  obtain ⟨a, rfl, rfl, rfl, wa⟩ := open_int Try.underlying3 (hval 0 3 v0 rfl rfl) h0
  obtain ⟨b, rfl, rfl, rfl, wb⟩ := open_int Try.underlying3 (hval 1 3 v1 rfl rfl) h1
  obtain ⟨a1, n1, c1, l1, rfl, r1⟩ := open_row (hval 2 22 v2 rfl rfl) h2
  exact ⟨a, b, a1, n1, c1, l1, rfl, r1⟩
end

theorem watchApart_lifted (os : Os) (started : os.Started) (H : Type) (enc : TypeId × Value → H) :
    ReturnsInHanded {} Try.checked os 4 .any (Rows.watchApartSpec.pre6 enc Try.prog Try.f4 [] false) (Rows.watchApartSpec.post enc Try.prog Try.f4 false true false false) := by
  refine lift_law os started rfl rfl ?_ ?_ (by kernel_rfl) Try.func4
    (ChangeSpec.witness6 (enc := enc) (C := Try.checked) false ⟨#[], #[.int .i64 0, .int .i64 0, .slice none 0 0], []⟩ 8 (by kernel_rfl) (by kernel_rfl) (by kernel_rfl) (by kernel_rfl)) ?_
  · intro ds hn
    rw [Try.params4] at hn
    obtain ⟨d1, d2, d3, rfl⟩ : ∃ d1 d2 d3, ds = [d1, d2, d3] := by match ds, hn with | [a, b, c], _ => exact ⟨a, b, c, rfl⟩
    exact ⟨rfl, rfl, rfl⟩
  · rw [Try.params4]
    intro t ht
    simp at ht
    rcases ht with rfl | rfl | rfl <;> exact ⟨by kernel_rfl, of_decide_eq_true (by kernel_rfl)⟩
  · intro W base args ds p hval hlt hfz hA
    rw [Try.params4] at hA hval
    obtain ⟨a, b, a1, n1, c1, l1, rfl, r1⟩ := open_apart hval hA
    exact watchApart_any a b a1 n1 c1 l1 W r1
theorem watchApart_holds : Rows.WatchApartSaid :=
  OpenClaim.holds_of_wide 4 Try.f4 rfl rfl rfl rfl rfl rfl rfl ⟨rfl, rfl, rfl, rfl, rfl⟩ rfl rfl rfl rfl rfl (by kernel_rfl) Try.func4 (by kernel_rfl)
    (of_decide_eq_true (by kernel_rfl)) (by unfold Func.isWrapper; rw [if_neg (of_decide_eq_false (by kernel_rfl))]; exact ⟨rfl, rfl⟩)
    (fun os started H enc _ => watchApart_lifted os started H enc)
end Go.Proofs.Ytiikkglgoanpbaa
