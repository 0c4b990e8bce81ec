/- Proved: for every row of watchers, of acknowledgements, and every number of ticks, terrazzolaw14.WatchOver answers true, and its arguments read afterwards as before. No condition. -/
import Derived.Test.YtiikkglgoanpbaaRow
import Derived.Test.YtiikkglgoanpbaaOver14
namespace Go.Proofs.Ytiikkglgoanpbaa
open Go.ChangeShapes Go.WideShapes Go.ChangeAt Go.RowKit

theorem intCells : Try.prog.cellsOf 3 = 1 := by kernel_rfl
section
variable {H : Type} {enc : TypeId × Value → H}
theorem open_row {W : World} {base : Nat} {v : Value} {d : DataW H} {p : List MemPlace} (hv : Value.okWide Try.prog W .any base 22 v)
    (h : DataW.Trod enc Try.prog W 0 (fun _ => true) true 22 v d p) : ∃ a n c l, v = .slice a n c ∧ RdI W a n l := by
  obtain ⟨a1, len, cap, rfl⟩ := okWide_slice Try.underlying22 hv
  obtain ⟨fuel, hf⟩ := h
  rcases open_ints Try.underlying22 Try.underlying3 intCells hf with ⟨hcs, hx⟩ | ⟨a, len', cap', zs, hcs, _, hl, hm, hz, hx, hcell, hwz⟩
  · simp [Value.cells] at hcs
    obtain ⟨rfl, rfl, rfl⟩ := hcs
    exact ⟨_, _, _, [], rfl, rfl, fun k hk => by omega, fun x hx => by simp at hx⟩
  · simp [Value.cells] at hcs
    obtain ⟨rfl, rfl, rfl⟩ := hcs
    simp only [if_true] at hz
    refine ⟨_, _, _, zs.take len, rfl, by simp; omega, fun k hk => ?_, fun x hx => hwz x (List.mem_of_mem_take hx)⟩
    obtain ⟨b, off, rfl, hj⟩ := ints_at hcell (by omega)
    have := hj k (by omega)
    refine ⟨b, off, rfl, World.block_lt_of_cell? W _ this, ?_⟩
    rw [this]
    simp [List.getD_eq_getElem?_getD, List.getElem?_take, hk]
theorem open_over {W : World} {base : Nat} {args : Array Value} {ds : List (DataW H)} {p : List MemPlace}
    (hval : ∀ (j : Nat) t v, (#[22, 22, 3] : Array TypeId)[j]? = some t → args[j]? = some v → Value.okWide Try.prog W .any base t v)
    (h : DataW.TrodAll enc Try.prog W 0 (fun _ => true) true [22, 22, 3] args.toList ds p) : ∃ a1 n1 c1 l1 a2 n2 c2 l2 t, args = #[.slice a1 n1 c1, .slice a2 n2 c2, .int .i64 t] ∧ RdI W a1 n1 l1 ∧ RdI W a2 n2 l2 ∧ okI t := by
  obtain ⟨v0, v1, v2, d0, d1, d2, p0, p1, p2, rfl, rfl, rfl, h0, h1, h2⟩ := trodAll_three h
  obtain ⟨a1, n1, c1, l1, rfl, r1⟩ := open_row (hval 0 22 v0 rfl rfl) h0
  obtain ⟨a2, n2, c2, l2, rfl, r2⟩ := open_row (hval 1 22 v1 rfl rfl) h1
  obtain ⟨c, rfl, rfl, rfl, wc⟩ := open_int Try.underlying3 (hval 2 3 v2 rfl rfl) h2
  exact ⟨a1, n1, c1, l1, a2, n2, c2, l2, c, rfl, r1, r2, wc⟩
end

theorem watchOver_lifted (os : Os) (started : os.Started) (H : Type) (enc : TypeId × Value → H) :
    ReturnsInHanded {} Try.checked os 3 .any (Rows.watchOverSpec.pre6 enc Try.prog Try.f3 [] false) (Rows.watchOverSpec.post enc Try.prog Try.f3 false true false false) := by
  refine lift_law os started rfl rfl ?_ ?_ (by kernel_rfl) Try.func3
    (ChangeSpec.witness6 (enc := enc) (C := Try.checked) false ⟨#[], #[.slice none 0 0, .slice none 0 0, .int .i64 0], []⟩ 8 (by kernel_rfl) (by kernel_rfl) (by kernel_rfl) (by kernel_rfl)) ?_
  · intro ds hn
    rw [Try.params3] at hn
    obtain ⟨d1, d2, d3, rfl⟩ : ∃ d1 d2 d3, ds = [d1, d2, d3] := by match ds, hn with | [a, b, c], _ => exact ⟨a, b, c, rfl⟩
    exact ⟨rfl, rfl, rfl⟩
  · rw [Try.params3]
    intro t ht
    simp at ht
    rcases ht with rfl | rfl | rfl <;> exact ⟨by kernel_rfl, of_decide_eq_true (by kernel_rfl)⟩
  · intro W base args ds p hval hlt hfz hA
    rw [Try.params3] at hA hval
    obtain ⟨a1, n1, c1, l1, a2, n2, c2, l2, t, rfl, r1, r2, ht⟩ := open_over hval hA
    exact watchOver_any a1 a2 n1 n2 c1 c2 l1 l2 t ht W r1 r2
theorem watchOver_holds : Rows.WatchOverSaid :=
  OpenClaim.holds_of_wide 3 Try.f3 rfl rfl rfl rfl rfl rfl rfl ⟨rfl, rfl, rfl, rfl, rfl⟩ rfl rfl rfl rfl rfl (by kernel_rfl) Try.func3 (by kernel_rfl)
    (of_decide_eq_true (by kernel_rfl)) (by unfold Func.isWrapper; rw [if_neg (of_decide_eq_false (by kernel_rfl))]; exact ⟨rfl, rfl⟩)
    (fun os started H enc _ => watchOver_lifted os started H enc)
end Go.Proofs.Ytiikkglgoanpbaa
