/- Proved: for every layout and numbers, terrazzolaw03.StripePlaces, StripePieces and StripeRooms answer true, and their arguments read afterwards as before. No condition. -/
import Derived.Test.YthbpafbgnenljaaRow
import Derived.Test.YthbpafbgnenljaaWalk03
import Derived.Lib.SmallJoins
namespace Go.Proofs.Ythbpafbgnenljaa
open Go.ChangeShapes Go.WideShapes Go.ChangeAt Go.RowKit Go.Joins

theorem layCells : Try.prog.cellsOf 23 = 3 := by kernel_rfl
section
variable {H : Type} {enc : TypeId × Value → H}
theorem open_lay {W : World} {base : Nat} {v : Value} {d : DataW H} {p : List MemPlace} (hv : Value.okWide Try.prog W .any base 23 v)
    (h : DataW.Trod enc Try.prog W 0 (fun _ => true) true 23 v d p) : ∃ u c o, v = lay u c o := by
  obtain ⟨c0, c1, c2, y0, y1, y2, m, rfl, rfl, rfl, h0, h1, h2⟩ := open_agg3 Try.underlying23 (by kernel_rfl) layCells hv h
  obtain ⟨u, e0, rfl, _⟩ := DataW.trod_int Try.underlying3 h0
  obtain ⟨c, e1, rfl, _⟩ := DataW.trod_int Try.underlying3 h1
  obtain ⟨o, e2, rfl, _⟩ := DataW.trod_int Try.underlying3 h2
  simp at e0 e1 e2
  subst e0 e1 e2
  exact ⟨u, c, o, rfl⟩
theorem open_args3 {W : World} {base : Nat} {args : Array Value} {ds : List (DataW H)} {p : List MemPlace}
    (hval : ∀ (j : Nat) t v, (#[23, 3, 3] : Array TypeId)[j]? = some t → args[j]? = some v → Value.okWide Try.prog W .any base t v)
    (h : DataW.TrodAll enc Try.prog W 0 (fun _ => true) true [23, 3, 3] args.toList ds p) : ∃ u c o a b, args = #[lay u c o, .int .i64 a, .int .i64 b] := by
  obtain ⟨v0, v1, v2, d0, d1, d2, p0, p1, p2, rfl, rfl, rfl, h0, h1, h2⟩ := trodAll_three h
  obtain ⟨u, c, o, rfl⟩ := open_lay (hval 0 23 v0 rfl rfl) h0
  obtain ⟨a, rfl, rfl, rfl, _⟩ := open_int Try.underlying3 (hval 1 3 v1 rfl rfl) h1
  obtain ⟨b, rfl, rfl, rfl, _⟩ := open_int Try.underlying3 (hval 2 3 v2 rfl rfl) h2
  exact ⟨u, c, o, a, b, rfl⟩
theorem open_args2 {W : World} {base : Nat} {args : Array Value} {ds : List (DataW H)} {p : List MemPlace}
    (hval : ∀ (j : Nat) t v, (#[23, 3] : Array TypeId)[j]? = some t → args[j]? = some v → Value.okWide Try.prog W .any base t v)
    (h : DataW.TrodAll enc Try.prog W 0 (fun _ => true) true [23, 3] args.toList ds p) : ∃ u c o a, args = #[lay u c o, .int .i64 a] := by
  obtain ⟨v0, v1, d0, d1, p0, p1, rfl, rfl, rfl, h0, h1⟩ := trodAll_two h
  obtain ⟨u, c, o, rfl⟩ := open_lay (hval 0 23 v0 rfl rfl) h0
  obtain ⟨a, rfl, rfl, rfl, _⟩ := open_int Try.underlying3 (hval 1 3 v1 rfl rfl) h1
  exact ⟨u, c, o, a, rfl⟩
end

theorem stripePlaces_lifted (os : Os) (started : os.Started) (H : Type) (enc : TypeId × Value → H) :
    ReturnsInHanded {} Try.checked os 3 .any (Rows.stripePlacesSpec.pre6 enc Try.prog Try.f3 [] false) (Rows.stripePlacesSpec.post enc Try.prog Try.f3 false true false false) := by
  refine lift_law os started rfl rfl ?_ ?_ (by kernel_rfl) Try.func3
    (ChangeSpec.witness6 (enc := enc) (C := Try.checked) false ⟨#[], #[.agg #[.int .i64 0, .int .i64 0, .int .i64 0], .int .i64 0, .int .i64 0], []⟩ 8 (by kernel_rfl) (by kernel_rfl) (by kernel_rfl) (by kernel_rfl)) ?_
  · intro ds hn
    rw [Try.params3] at hn
    obtain ⟨d1, d2, d3, rfl⟩ : ∃ d1 d2 d3, ds = [d1, d2, d3] := by match ds, hn with | [a, b, c], _ => exact ⟨a, b, c, rfl⟩
    exact ⟨rfl, rfl, rfl⟩
  · rw [Try.params3]
    intro t ht
    simp at ht
    rcases ht with rfl | rfl <;> exact ⟨by kernel_rfl, of_decide_eq_true (by kernel_rfl)⟩
  · intro W base args ds p hval hlt hfz hA
    rw [Try.params3] at hA hval
    obtain ⟨u, c, o, a, b, rfl⟩ := open_args3 hval hA
    exact law_places u c o a b W
theorem stripePlaces_holds : Rows.StripePlacesSaid :=
  OpenClaim.holds_of_wide 3 Try.f3 rfl rfl rfl rfl rfl rfl rfl ⟨rfl, rfl, rfl, rfl, rfl⟩ rfl rfl rfl rfl rfl (by kernel_rfl) Try.func3 (by kernel_rfl)
    (of_decide_eq_true (by kernel_rfl)) (by unfold Func.isWrapper; rw [if_neg (of_decide_eq_false (by kernel_rfl))]; exact ⟨rfl, rfl⟩)
    (fun os started H enc _ => stripePlaces_lifted os started H enc)

theorem stripePieces_lifted (os : Os) (started : os.Started) (H : Type) (enc : TypeId × Value → H) :
    ReturnsInHanded {} Try.checked os 4 .any (Rows.stripePiecesSpec.pre6 enc Try.prog Try.f4 [] false) (Rows.stripePiecesSpec.post enc Try.prog Try.f4 false true false false) := by
  refine lift_law os started rfl rfl ?_ ?_ (by kernel_rfl) Try.func4
    (ChangeSpec.witness6 (enc := enc) (C := Try.checked) false ⟨#[], #[.agg #[.int .i64 0, .int .i64 0, .int .i64 0], .int .i64 0, .int .i64 0], []⟩ 8 (by kernel_rfl) (by kernel_rfl) (by kernel_rfl) (by kernel_rfl)) ?_
  · intro ds hn
    rw [Try.params4] at hn
    obtain ⟨d1, d2, d3, rfl⟩ : ∃ d1 d2 d3, ds = [d1, d2, d3] := by match ds, hn with | [a, b, c], _ => exact ⟨a, b, c, rfl⟩
    exact ⟨rfl, rfl, rfl⟩
  · rw [Try.params4]
    intro t ht
    simp at ht
    rcases ht with rfl | rfl <;> exact ⟨by kernel_rfl, of_decide_eq_true (by kernel_rfl)⟩
  · intro W base args ds p hval hlt hfz hA
    rw [Try.params4] at hA hval
    obtain ⟨u, c, o, a, b, rfl⟩ := open_args3 hval hA
    exact law_pieces u c o a b W
theorem stripePieces_holds : Rows.StripePiecesSaid :=
  OpenClaim.holds_of_wide 4 Try.f4 rfl rfl rfl rfl rfl rfl rfl ⟨rfl, rfl, rfl, rfl, rfl⟩ rfl rfl rfl rfl rfl (by kernel_rfl) Try.func4 (by kernel_rfl)
    (of_decide_eq_true (by kernel_rfl)) (by unfold Func.isWrapper; rw [if_neg (of_decide_eq_false (by kernel_rfl))]; exact ⟨rfl, rfl⟩)
    (fun os started H enc _ => stripePieces_lifted os started H enc)

theorem stripeRooms_lifted (os : Os) (started : os.Started) (H : Type) (enc : TypeId × Value → H) :
    ReturnsInHanded {} Try.checked os 5 .any (Rows.stripeRoomsSpec.pre6 enc Try.prog Try.f5 [] false) (Rows.stripeRoomsSpec.post enc Try.prog Try.f5 false true false false) := by
  refine lift_law os started rfl rfl ?_ ?_ (by kernel_rfl) Try.func5
    (ChangeSpec.witness6 (enc := enc) (C := Try.checked) false ⟨#[], #[.agg #[.int .i64 0, .int .i64 0, .int .i64 0], .int .i64 0, .int .i64 0], []⟩ 8 (by kernel_rfl) (by kernel_rfl) (by kernel_rfl) (by kernel_rfl)) ?_
  · intro ds hn
    rw [Try.params5] at hn
    obtain ⟨d1, d2, d3, rfl⟩ : ∃ d1 d2 d3, ds = [d1, d2, d3] := by match ds, hn with | [a, b, c], _ => exact ⟨a, b, c, rfl⟩
    exact ⟨rfl, rfl, rfl⟩
  · rw [Try.params5]
    intro t ht
    simp at ht
    rcases ht with rfl | rfl <;> exact ⟨by kernel_rfl, of_decide_eq_true (by kernel_rfl)⟩
  · intro W base args ds p hval hlt hfz hA
    rw [Try.params5] at hA hval
    obtain ⟨u, c, o, a, b, rfl⟩ := open_args3 hval hA
    exact law_rooms u c o a b W
theorem stripeRooms_holds : Rows.StripeRoomsSaid :=
  OpenClaim.holds_of_wide 5 Try.f5 rfl rfl rfl rfl rfl rfl rfl ⟨rfl, rfl, rfl, rfl, rfl⟩ rfl rfl rfl rfl rfl (by kernel_rfl) Try.func5 (by kernel_rfl)
    (of_decide_eq_true (by kernel_rfl)) (by unfold Func.isWrapper; rw [if_neg (of_decide_eq_false (by kernel_rfl))]; exact ⟨rfl, rfl⟩)
    (fun os started H enc _ => stripeRooms_lifted os started H enc)
end Go.Proofs.Ythbpafbgnenljaa
