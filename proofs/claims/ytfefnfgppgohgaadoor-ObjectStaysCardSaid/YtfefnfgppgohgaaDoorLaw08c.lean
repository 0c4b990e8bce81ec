/- Proved: for every object and ops terrazzolaw08.ObjectStays answers true, and its arguments read afterwards as before. No condition. -/
import Derived.Test.YtfefnfgppgohgaaDoorOpenD
import Derived.Test.YtfefnfgppgohgaaDoorTab8
import Derived.Test.YtfefnfgppgohgaaDoorL8c
import Derived.Test.YtfefnfgppgohgaaDoorCards
import Derived.Test.YtfefnfgppgohgaaDoorTie
import Derived.SevenTiedAt
import Derived.Lay
namespace Go.Proofs.YtfefnfgppgohgaaDoor
open Go.ChangeShapes Go.WideShapes Go.ChangeAt Go.RowKit Go.Joins

section
variable {H : Type} {enc : TypeId × Value → H}
set_option maxRecDepth 100000 in
theorem open_stays {W : World} {base : Nat} {args : Array Value} {ds : List (DataW H)} {p : List MemPlace}
    (hval : ∀ (j : Nat) t v, (#[25, 35] : Array TypeId)[j]? = some t → args[j]? = some v → Value.okWide Tryd.prog W .any base t v)
    (h : DataW.TrodAll enc Tryd.prog W 0 (fun _ => true) true [25, 35] args.toList ds p) :
    ∃ v0 a la lc l, args = #[v0, .slice la (l : List OpD).length lc] ∧ ObV (Hp W) W v0 a ∧ SlE Enc.op (Hp W) W (.slice la l.length lc) l := by
  obtain ⟨v0, v1, d0, d1, p0, p1, rfl, rfl, rfl, h0, h1⟩ := trodAll_two h
  obtain ⟨a, ha⟩ := open_ob (hval 0 25 v0 rfl rfl) h0
  obtain ⟨l, hl⟩ := opn_row Tryd.underlying35 (by kernel_rfl) (by decide) opn_op (hval 1 35 v1 rfl rfl) h1
  obtain ⟨la, lc, rfl⟩ := hl.shape
  exact ⟨v0, a, la, lc, l, rfl, ha, hl⟩
end

set_option maxRecDepth 100000 in
theorem objectStays_lifted (os : Os) (started : os.Started) (H : Type) (enc : TypeId × Value → H) :
    ReturnsInHanded {} Tryd.checked os 4 .any (fun w args => (Rows.objectStaysSpec.pre enc Tryd.prog Tryd.f4 [] false w args ∧ laidMetH Tryd.prog Rows.objectStaysRow.laid w) ∧ sizedMet enc Tryd.prog Tryd.f4 (OpenSpec.ofChange Rows.objectStaysSpec) false w args) (Rows.objectStaysSpec.post enc Tryd.prog Tryd.f4 false true false false) := by
  refine lift_law_laid os started rfl rfl ?_ ?_ (by kernel_rfl) Tryd.func4
    (ChangeSpec.witness_shaped (enc := enc) (C := Tryd.checked) (os := os) (X := fun w _ => laidMetH Tryd.prog Rows.objectStaysRow.laid w) false (wH os) #[.agg #[.slice none 0 0, .slice none 0 0, .int .i64 0], .slice none 0 0] 8 (wH_os os)
      (World.shaped_of_ZipB (by kernel_rfl) (by kernel_rfl)) (by kernel_rfl) (by kernel_rfl) (by kernel_rfl)
      (wH_met os _)) ?_
  · intro ds hn
    rw [Tryd.params4] at hn
    obtain ⟨d1, d2, rfl⟩ : ∃ d1 d2, ds = [d1, d2] := by match ds, hn with | [a, b], _ => exact ⟨a, b, rfl⟩
    exact ⟨rfl, rfl, rfl⟩
  · rw [Tryd.params4]
    intro t ht
    simp at ht
    rcases ht with rfl | rfl <;> exact ⟨by kernel_rfl, of_decide_eq_true (by kernel_rfl)⟩
  · intro W base args ds p hval hlt hfz hA hL
    rw [Tryd.params4] at hA hval
    obtain ⟨v0, a, la, lc, l, rfl, ha, hl⟩ := open_stays hval hA
    exact stays_law _ _ v0 a la lc l W (errT_of_laid hL) ha hl
set_option maxRecDepth 100000 in
theorem objectStays_holds : Rows.ObjectStaysSaid :=
  OpenClaim.holds_of_wide 4 Tryd.f4 rfl rfl rfl rfl rfl rfl rfl ⟨rfl, rfl, rfl, rfl, rfl⟩ rfl rfl rfl rfl rfl (by kernel_rfl) Tryd.func4 (by kernel_rfl)
    (of_decide_eq_true (by kernel_rfl)) (by unfold Func.isWrapper; first | (rw [if_pos (by decide +kernel)]; kernel_rfl) | (rw [if_neg (by decide +kernel)]; exact ⟨rfl, rfl⟩))
    (fun os started H enc _ => objectStays_lifted os started H enc)
set_option maxRecDepth 100000 in
theorem objectStays_card_holds : Rows.ObjectStaysCardSaid :=
  Claim7.holds_tied_plain_at .later [] [.data, .handle, .pinned] true (true, "c9ef34a3b1430f3da7a58cf7d2a0dc219fc45413ae4df5d7fd5e8962be034946") true objectStays_holds (fun _ h => by cases h) (by kernel_rfl) (fun _ h => by cases h) objectStays_row_tie rfl ⟨rfl, rfl⟩ (by kernel_rfl) rfl
    (fun f fn hf hfn => by
      obtain rfl : f = 4 := Option.some.inj ((show Tryd.prog.funcNamed "terrazzo/terrazzolaw08.ObjectStays" = some 4 by kernel_rfl).symm.trans hf) |>.symm
      obtain rfl : fn = Tryd.f4 := (Option.some.inj (Tryd.func4.symm.trans hfn)).symm
      exact ⟨by kernel_rfl, fun j t ht => by
        rw [Tryd.params4] at ht
        have hm : t ∈ [25, 35] := by simpa using Array.mem_of_getElem? ht
        have hall : ([25, 35].all fun u => !Tryd.prog.wantsStandIn u) = true := by kernel_rfl
        exact (show Tryd.prog.wantsStandIn t = false by simpa using List.all_eq_true.1 hall t hm)⟩)
    (by kernel_rfl)
end Go.Proofs.YtfefnfgppgohgaaDoor
