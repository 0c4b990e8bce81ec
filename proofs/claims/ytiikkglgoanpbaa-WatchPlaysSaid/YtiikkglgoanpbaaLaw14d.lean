/- Proved: for every script of acts, every image and sender, terrazzolaw14.WatchMissing answers true, and its arguments read afterwards as before. No condition. -/
import Derived.Test.YtiikkglgoanpbaaLaw14b
import Derived.Test.YtiikkglgoanpbaaMiss14
import Derived.Deep.Slices
namespace Go.Proofs.Ytiikkglgoanpbaa
open Go.ChangeShapes Go.WideShapes Go.ChangeAt Go.RowKit Go.Deep

instance AD.some : Inhabited AD := ⟨⟨0, 0, 0, 0, 0⟩⟩
theorem actCells : Try.prog.cellsOf 41 = 5 := by kernel_rfl
theorem list5 {α : Type} {l : List α} (h : l.length = 5) : ∃ a b c d e, l = [a, b, c, d, e] := by
  match l, h with
  | [a, b, c, d, e], _ => exact ⟨a, b, c, d, e, rfl⟩
section
variable {H : Type} {enc : TypeId × Value → H} {w : World} {base : Nat} {spare : Nat → Bool} {held : Bool}
theorem one_int {n : Nat} {cs : List Value} {y : Option (DataW H × List MemPlace)} {x : DataW H × List MemPlace} (hx : y = some x) (h : DataW.trod enc Try.prog w base spare held n 3 cs = y) : ∃ k, cs = [.int .i64 k] ∧ okI k := by
  subst hx
  obtain ⟨k, e, _, hw⟩ := DataW.trod_int Try.underlying3 h
  exact ⟨k, e, hw⟩
theorem open_act {n : Nat} {cs : List Value} {y : DataW H × List MemPlace} (h : DataW.trod enc Try.prog w base spare held n 41 cs = some y) :
    ∃ a : AD, cs = [.int .i64 a.kind, .int .i64 a.img, .int .i64 a.who, .int .i64 a.n, .int .i64 a.now] ∧ okI a.kind ∧ okI a.img ∧ okI a.who ∧ okI a.n ∧ okI a.now := by
  obtain ⟨xs, m, _, rfl, hl, hlen, hf⟩ := DataW.trod_struct Try.underlying41 h
  obtain ⟨c0, c1, c2, c3, c4, rfl⟩ := list5 (hl.trans actCells)
  obtain ⟨y0, y1, y2, y3, y4, rfl⟩ := list5 (l := xs) hlen
  have h0 : DataW.trod enc Try.prog w base spare held m 3 (([c0, c1, c2, c3, c4].drop 0).take (Try.prog.cellsOf 3)) = some y0 := hf 0 _ rfl
  have h1 : DataW.trod enc Try.prog w base spare held m 3 (([c0, c1, c2, c3, c4].drop 1).take (Try.prog.cellsOf 3)) = some y1 := hf 1 _ rfl
  have h2 : DataW.trod enc Try.prog w base spare held m 3 (([c0, c1, c2, c3, c4].drop 2).take (Try.prog.cellsOf 3)) = some y2 := hf 2 _ rfl
  have h3 : DataW.trod enc Try.prog w base spare held m 3 (([c0, c1, c2, c3, c4].drop 3).take (Try.prog.cellsOf 3)) = some y3 := hf 3 _ rfl
  have h4 : DataW.trod enc Try.prog w base spare held m 3 (([c0, c1, c2, c3, c4].drop 4).take (Try.prog.cellsOf 3)) = some y4 := hf 4 _ rfl
  rw [intCells] at h0 h1 h2 h3 h4
  obtain ⟨k0, e0, w0⟩ := one_int (x := y0) rfl h0
  obtain ⟨k1, e1, w1⟩ := one_int (x := y1) rfl h1
  obtain ⟨k2, e2, w2⟩ := one_int (x := y2) rfl h2
  obtain ⟨k3, e3, w3⟩ := one_int (x := y3) rfl h3
  obtain ⟨k4, e4, w4⟩ := one_int (x := y4) rfl h4
  simp at e0 e1 e2 e3 e4
  subst e0 e1 e2 e3 e4
  exact ⟨⟨k0, k1, k2, k3, k4⟩, rfl, w0, w1, w2, w3, w4⟩
end
section
variable {H : Type} {enc : TypeId × Value → H}
theorem open_acts {W : World} {base : Nat} {v : Value} {d : DataW H} {p : List MemPlace} (hv : Value.okWide Try.prog W .any base 34 v)
    (h : DataW.Trod enc Try.prog W 0 (fun _ => true) true 34 v d p) : ∃ a n c l, v = .slice a n c ∧ RdA W a n l := by
  obtain ⟨a1, len, cap, rfl⟩ := okWide_slice Try.underlying34 hv
  obtain ⟨fuel, hf⟩ := h
  rcases open_slice Try.underlying34 hf with ⟨hcs, hx⟩ | ⟨a, len', cap', m, n, D, Pl, hcs, _, hl, hm, hmm, hx, hcell⟩
  · simp [Value.cells] at hcs
    obtain ⟨rfl, rfl, rfl⟩ := hcs
    exact ⟨_, _, _, [], rfl, rfl, fun k hk => by omega, fun x hx => by simp at hx⟩
  · simp [Value.cells] at hcs
    obtain ⟨rfl, rfl, rfl⟩ := hcs
    simp only [if_true] at hmm
    subst hmm
    rw [actCells] at hcell
    obtain ⟨f, hf⟩ := choose_lt (α := AD) (n := len) (p := fun i x => W.cells? 0 (a.add (i * 5)) 5 = some [.int .i64 x.kind, .int .i64 x.img, .int .i64 x.who, .int .i64 x.n, .int .i64 x.now] ∧ okI x.kind ∧ okI x.img ∧ okI x.who ∧ okI x.n ∧ okI x.now) (fun i hi => by
      obtain ⟨cs', h1, h2⟩ := hcell i (by omega)
      obtain ⟨x, rfl, h3⟩ := open_act h2
      exact ⟨x, h1, h3⟩)
    refine ⟨_, _, _, (List.range len).map f, rfl, by simp, fun k hk => ?_, fun x hx => ?_⟩
    · obtain ⟨h1, _⟩ := hf k hk
      have hc := (World.cells?_some h1).2.2
      obtain ⟨b, off, spot⟩ := a
      have c0 := hc 0 (by omega)
      have hspot : spot = none := by
        have h00 := (World.cells?_some (hf 0 (by omega)).1).2.2 0 (by omega)
        have := World.cell?_spot h00
        simpa [Addr.add] using this
      subst hspot
      have c1 := hc 1 (by omega)
      have c2 := hc 2 (by omega)
      have c3 := hc 3 (by omega)
      have c4 := hc 4 (by omega)
      rw [add_plain, add_plain] at c0 c1 c2 c3 c4
      simp only [List.getElem_map, List.getElem_range]
      exact ⟨b, off, rfl, World.block_lt_of_cell? W _ c0, c0, c1, c2, c3, c4⟩
    · obtain ⟨i, hi, rfl⟩ := List.mem_map.1 hx
      exact (hf i (List.mem_range.1 hi)).2
theorem open_miss {W : World} {base : Nat} {args : Array Value} {ds : List (DataW H)} {p : List MemPlace}
    (hval : ∀ (j : Nat) t v, (#[34, 3, 3] : Array TypeId)[j]? = some t → args[j]? = some v → Value.okWide Try.prog W .any base t v)
    (h : DataW.TrodAll enc Try.prog W 0 (fun _ => true) true [34, 3, 3] args.toList ds p) : ∃ a1 n1 c1 l1 i f, args = #[.slice a1 n1 c1, .int .i64 i, .int .i64 f] ∧ RdA W a1 n1 l1 ∧ okI f := by
  obtain ⟨v0, v1, v2, d0, d1, d2, p0, p1, p2, rfl, rfl, rfl, h0, h1, h2⟩ := trodAll_three h
  obtain ⟨a1, n1, c1, l1, rfl, r1⟩ := open_acts (hval 0 34 v0 rfl rfl) h0
  obtain ⟨a, rfl, rfl, rfl, wa⟩ := open_int Try.underlying3 (hval 1 3 v1 rfl rfl) h1
  obtain ⟨b, rfl, rfl, rfl, wb⟩ := open_int Try.underlying3 (hval 2 3 v2 rfl rfl) h2
  exact ⟨a1, n1, c1, l1, a, b, rfl, r1, wb⟩
end
theorem watchMissing_any (aa : Option Addr) (n c : Nat) (l : List AD) (image from_ : Int) (w : World) (hl : RdA w aa n l) (hf : okI from_) :
    Calls Try.prog 6 #[.slice aa n c, .int .i64 image, .int .i64 from_] w fun e w' => e = .returned (.bool true) ∧ Below w.heap.size w w' := by
  cases h : mayI image
  · exact miss_no aa n c l image from_ w hl hf h
  · obtain ⟨i, rfl, hi⟩ := mayI_nat h
    exact miss_yes aa n c l i hi from_ w hl hf

theorem watchMissing_lifted (os : Os) (started : os.Started) (H : Type) (enc : TypeId × Value → H) :
    ReturnsInHanded {} Try.checked os 6 .any (Rows.watchMissingSpec.pre6 enc Try.prog Try.f6 [] false) (Rows.watchMissingSpec.post enc Try.prog Try.f6 false true false false) := by
  refine lift_law os started rfl rfl ?_ ?_ (by kernel_rfl) Try.func6
    (ChangeSpec.witness6 (enc := enc) (C := Try.checked) false ⟨#[], #[.slice none 0 0, .int .i64 0, .int .i64 0], []⟩ 8 (by kernel_rfl) (by kernel_rfl) (by kernel_rfl) (by kernel_rfl)) ?_
  · intro ds hn
    rw [Try.params6] at hn
    obtain ⟨d1, d2, d3, rfl⟩ : ∃ d1 d2 d3, ds = [d1, d2, d3] := by match ds, hn with | [a, b, c], _ => exact ⟨a, b, c, rfl⟩
    exact ⟨rfl, rfl, rfl⟩
  · rw [Try.params6]
    intro t ht
    simp at ht
    rcases ht with rfl | rfl | rfl <;> exact ⟨by kernel_rfl, of_decide_eq_true (by kernel_rfl)⟩
  · intro W base args ds p hval hlt hfz hA
    rw [Try.params6] at hA hval
    obtain ⟨a1, n1, c1, l1, i, f, rfl, r1, hf⟩ := open_miss hval hA
    exact watchMissing_any a1 n1 c1 l1 i f W r1 hf
theorem watchMissing_holds : Rows.WatchMissingSaid :=
  OpenClaim.holds_of_wide 6 Try.f6 rfl rfl rfl rfl rfl rfl rfl ⟨rfl, rfl, rfl, rfl, rfl⟩ rfl rfl rfl rfl rfl (by kernel_rfl) Try.func6 (by kernel_rfl)
    (of_decide_eq_true (by kernel_rfl)) (by unfold Func.isWrapper; rw [if_neg (of_decide_eq_false (by kernel_rfl))]; exact ⟨rfl, rfl⟩)
    (fun os started H enc _ => watchMissing_lifted os started H enc)
end Go.Proofs.Ytiikkglgoanpbaa
