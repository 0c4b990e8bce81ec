/- Proved: for every object, string and ops terrazzolaw08.ObjectClones answers true, and its arguments read afterwards as before. No condition. -/
import Derived.Test.YtfefnfgppgohgaaDoorOpenD
import Derived.Test.YtfefnfgppgohgaaDoorTab8
import Derived.Test.YtfefnfgppgohgaaDoorL8f
import Derived.Test.YtfefnfgppgohgaaDoorCards
import Derived.Test.YtfefnfgppgohgaaDoorTie
import Derived.ChangeMaps5
import Derived.SevenTiedAt
import Derived.Lay
namespace Go.Proofs.YtfefnfgppgohgaaDoor
open Go.ChangeShapes Go.WideShapes Go.ChangeAt Go.RowKit Go.Joins Go.ChangeMaps

section
variable {H : Type} {enc : TypeId × Value → H}
set_option maxRecDepth 100000 in
theorem open_clones {W : World} {base : Nat} {args : Array Value} {ds : List (DataW H)} {p : List MemPlace}
    (hval : ∀ (j : Nat) t v, (#[25, 9, 35] : Array TypeId)[j]? = some t → args[j]? = some v → Value.okWide Tryd.prog W .any base t v)
    (h : DataW.TrodAll enc Tryd.prog W 0 (fun _ => true) true [25, 9, 35] args.toList ds p) :
    ∃ v0 a nm la lc l, args = #[v0, .string nm, .slice la (l : List OpD).length lc] ∧ ObV (Hp W) W v0 a ∧ SlE Enc.op (Hp W) W (.slice la l.length lc) l := by
  obtain ⟨v0, v1, v2, d0, d1, d2, p0, p1, p2, rfl, rfl, rfl, h0, h1, h2⟩ := trodAll_three h
  obtain ⟨a, ha⟩ := open_ob (hval 0 25 v0 rfl rfl) h0
  obtain ⟨nm, rfl, _⟩ := open_string Tryd.underlying9 (hval 1 9 v1 rfl rfl) h1
  obtain ⟨l, hl⟩ := opn_row Tryd.underlying35 (by kernel_rfl) (by decide) opn_op (hval 2 35 v2 rfl rfl) h2
  obtain ⟨la, lc, rfl⟩ := hl.shape
  exact ⟨v0, a, nm, la, lc, l, rfl, ha, hl⟩
end

set_option maxRecDepth 100000 in
theorem objectClones_lifted (os : Os) (started : os.Started) (H : Type) (enc : TypeId × Value → H) :
    ReturnsInHanded {} Tryd.checked os 6 .any (fun w args => (Rows.objectClonesSpec.pre enc Tryd.prog Tryd.f6 [] false w args ∧ laidMetH Tryd.prog Rows.objectClonesRow.laid w) ∧ sizedMet enc Tryd.prog Tryd.f6 (OpenSpec.ofChange Rows.objectClonesSpec) false w args) (Rows.objectClonesSpec.post enc Tryd.prog Tryd.f6 false true false false) := by
  refine lift_law_laid os started rfl rfl ?_ ?_ (by kernel_rfl) Tryd.func6
    (ChangeSpec.witness_shaped (enc := enc) (C := Tryd.checked) (os := os) (X := fun w _ => laidMetH Tryd.prog Rows.objectClonesRow.laid w) false (wH os) #[.agg #[.slice none 0 0, .slice none 0 0, .int .i64 0], .string ByteArray.empty, .slice none 0 0] 8 (wH_os os)
      (World.shaped_of_ZipB (by kernel_rfl) (by kernel_rfl)) (by kernel_rfl) (by kernel_rfl) (by kernel_rfl)
      (wH_met os _)) ?_
  · intro ds hn
    rw [Tryd.params6] at hn
    obtain ⟨d1, d2, d3, rfl⟩ : ∃ d1 d2 d3, ds = [d1, d2, d3] := by match ds, hn with | [a, b, c], _ => exact ⟨a, b, c, rfl⟩
    exact ⟨rfl, rfl, rfl⟩
  · rw [Tryd.params6]
    intro t ht
    simp at ht
    rcases ht with rfl | rfl | rfl <;> exact ⟨by kernel_rfl, of_decide_eq_true (by kernel_rfl)⟩
  · intro W base args ds p hval hlt hfz hA hL
    rw [Tryd.params6] at hA hval
    obtain ⟨v0, a, nm, la, lc, l, rfl, ha, hl⟩ := open_clones hval hA
    exact clones_law _ _ v0 a nm la lc l W (errT_of_laid hL) ha hl
set_option maxRecDepth 100000 in
theorem objectClones_holds : Rows.ObjectClonesSaid :=
  OpenClaim.holds_of_wide 6 Tryd.f6 rfl rfl rfl rfl rfl rfl rfl ⟨rfl, rfl, rfl, rfl, rfl⟩ rfl rfl rfl rfl rfl (by kernel_rfl) Tryd.func6 (by kernel_rfl)
    (of_decide_eq_true (by kernel_rfl)) (by unfold Func.isWrapper; first | (rw [if_pos (by decide +kernel)]; kernel_rfl) | (rw [if_neg (by decide +kernel)]; exact ⟨rfl, rfl⟩))
    (fun os started H enc _ => objectClones_lifted os started H enc)
set_option maxRecDepth 100000 in
theorem objectClones_card_holds : Rows.ObjectClonesCardSaid :=
  Claim7.holds_tied_plain_at .later [] [.data, .handle, .pinned] true (true, "c9ef34a3b1430f3da7a58cf7d2a0dc219fc45413ae4df5d7fd5e8962be034946") true objectClones_holds (fun _ h => by cases h) (by kernel_rfl) (fun _ h => by cases h) objectClones_row_tie rfl ⟨rfl, rfl⟩ (by kernel_rfl) rfl
    (fun f fn hf hfn => by
      obtain rfl : f = 6 := Option.some.inj ((show Tryd.prog.funcNamed "terrazzo/terrazzolaw08.ObjectClones" = some 6 by kernel_rfl).symm.trans hf) |>.symm
      obtain rfl : fn = Tryd.f6 := (Option.some.inj (Tryd.func6.symm.trans hfn)).symm
      exact ⟨by kernel_rfl, fun j t ht => by
        rw [Tryd.params6] at ht
        have hm : t ∈ [25, 9, 35] := by simpa using Array.mem_of_getElem? ht
        have hall : ([25, 9, 35].all fun u => !Tryd.prog.wantsStandIn u) = true := by kernel_rfl
        exact (show Tryd.prog.wantsStandIn t = false by simpa using List.all_eq_true.1 hall t hm)⟩)
    (by kernel_rfl)
end Go.Proofs.YtfefnfgppgohgaaDoor
