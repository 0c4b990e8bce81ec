/- Proved: for every object and row of ops terrazzolaw09.TxnOwn answers true, and its arguments read afterwards as before. No condition. -/
import Derived.Test.YtgdilkhaopnhaaaGreatDoorOpenD
import Derived.Test.YtgdilkhaopnhaaaGreatDoorTab8
import Derived.Test.YtgdilkhaopnhaaaGreatDoorMR
import Derived.Test.YtgdilkhaopnhaaaGreatDoorCards
import Derived.Test.YtgdilkhaopnhaaaGreatDoorTie
import Derived.ChangeMaps5
import Derived.SevenTiedAt
import Derived.Lay
namespace Go.Proofs.YtgdilkhaopnhaaaGreatDoor
open Go.ChangeShapes Go.WideShapes Go.ChangeAt Go.RowKit Go.Joins Go.ChangeMaps

section
variable {H : Type} {enc : TypeId × Value → H}
set_option maxRecDepth 100000 in
theorem open_town {W : World} {base : Nat} {args : Array Value} {ds : List (DataW H)} {p : List MemPlace}
    (hval : ∀ (j : Nat) t v, (#[25, 26] : Array TypeId)[j]? = some t → args[j]? = some v → Value.okWide Tryz.prog W .any base t v)
    (h : DataW.TrodAll enc Tryz.prog W 0 (fun _ => true) true [25, 26] args.toList ds p) :
    ∃ v0 a la lc l, args = #[v0, .slice la (l : List OpD).length lc] ∧ ObV (Hp W) W v0 a ∧ SlE Enc.op (Hp W) W (.slice la l.length lc) l := by
  obtain ⟨v0, v1, d0, d1, p0, p1, rfl, rfl, rfl, h0, h1⟩ := trodAll_two h
  obtain ⟨a, ha⟩ := open_ob (hval 0 25 v0 rfl rfl) h0
  obtain ⟨l, hl⟩ := opn_row Tryz.underlying26 (by kernel_rfl) (by decide) opn_op (hval 1 26 v1 rfl rfl) h1
  obtain ⟨la, lc, rfl⟩ := hl.shape
  exact ⟨v0, a, la, lc, l, rfl, ha, hl⟩
end

set_option maxRecDepth 100000 in
theorem txnOwn_lifted (os : Os) (started : os.Started) (H : Type) (enc : TypeId × Value → H) :
    ReturnsInHanded {} Tryz.checked os 8 .any (fun w args => (Rows.txnOwnSpec.pre enc Tryz.prog Tryz.f8 [] false w args ∧ laidMetH Tryz.prog Rows.txnOwnRow.laid w) ∧ sizedMet enc Tryz.prog Tryz.f8 (OpenSpec.ofChange Rows.txnOwnSpec) false w args) (Rows.txnOwnSpec.post enc Tryz.prog Tryz.f8 false true false false) := by
  refine lift_law_laid os started rfl rfl ?_ ?_ (by kernel_rfl) Tryz.func8
    (ChangeSpec.witness_shaped (enc := enc) (C := Tryz.checked) (os := os) (X := fun w _ => laidMetH Tryz.prog Rows.txnOwnRow.laid w) false (wH os) #[.agg #[.slice none 0 0, .slice none 0 0, .int .i64 0], .slice none 0 0] 8 (wH_os os)
      (World.shaped_of_ZipB (by kernel_rfl) (by kernel_rfl)) (by kernel_rfl) (by kernel_rfl) (by kernel_rfl)
      (wH_met os _)) ?_
  · intro ds hn
    rw [Tryz.params8] at hn
    obtain ⟨d1, d2, rfl⟩ : ∃ d1 d2, ds = [d1, d2] := by match ds, hn with | [a, b], _ => exact ⟨a, b, rfl⟩
    exact ⟨rfl, rfl, rfl⟩
  · rw [Tryz.params8]
    intro t ht
    simp at ht
    rcases ht with rfl | rfl <;> exact ⟨by kernel_rfl, of_decide_eq_true (by kernel_rfl)⟩
  · intro W base args ds p hval hlt hfz hA hL
    rw [Tryz.params8] at hA hval
    obtain ⟨v0, a, la, lc, l, rfl, ha, hl⟩ := open_town hval hA
    exact town_law _ _ v0 a la lc l W (errT_of_laid hL) ha hl
set_option maxRecDepth 100000 in
theorem txnOwn_holds : Rows.TxnOwnSaid :=
  OpenClaim.holds_of_wide 8 Tryz.f8 rfl rfl rfl rfl rfl rfl rfl ⟨rfl, rfl, rfl, rfl, rfl⟩ rfl rfl rfl rfl rfl (by kernel_rfl) Tryz.func8 (by kernel_rfl)
    (of_decide_eq_true (by kernel_rfl)) (by unfold Func.isWrapper; first | (rw [if_pos (by decide +kernel)]; kernel_rfl) | (rw [if_neg (by decide +kernel)]; exact ⟨rfl, rfl⟩))
    (fun os started H enc _ => txnOwn_lifted os started H enc)
set_option maxRecDepth 100000 in
theorem txnOwn_card_holds : Rows.TxnOwnCardSaid :=
  Claim7.holds_tied_plain_at .later [] [.data, .handle, .pinned] true (true, "0a41fd0c01c50b010a4ba01cc9919ad9a077c60bed7356e89cd27b6b6dbd7dae") true txnOwn_holds (fun _ h => by cases h) (by kernel_rfl) (fun _ h => by cases h) txnOwn_row_tie rfl ⟨rfl, rfl⟩ (by kernel_rfl) rfl
    (fun f fn hf hfn => by
      obtain rfl : f = 8 := Option.some.inj ((show Tryz.prog.funcNamed "terrazzo/terrazzolaw09.TxnOwn" = some 8 by kernel_rfl).symm.trans hf) |>.symm
      obtain rfl : fn = Tryz.f8 := (Option.some.inj (Tryz.func8.symm.trans hfn)).symm
      exact ⟨by kernel_rfl, fun j t ht => by
        rw [Tryz.params8] at ht
        have hm : t ∈ [25, 26] := by simpa using Array.mem_of_getElem? ht
        have hall : ([25, 26].all fun u => !Tryz.prog.wantsStandIn u) = true := by kernel_rfl
        exact (show Tryz.prog.wantsStandIn t = false by simpa using List.all_eq_true.1 hall t hm)⟩)
    (by kernel_rfl)
end Go.Proofs.YtgdilkhaopnhaaaGreatDoor
