/- Proved: for every object and two rows of ops terrazzolaw09.TxnAll answers true, and its arguments read afterwards as before. No condition. -/
import Derived.Test.YtgdilkhaopnhaaaGreatDoorOpenD
import Derived.Test.YtgdilkhaopnhaaaGreatDoorTab8
import Derived.Test.YtgdilkhaopnhaaaGreatDoorL9e
import Derived.Test.YtgdilkhaopnhaaaGreatDoorCards
import Derived.Test.YtgdilkhaopnhaaaGreatDoorTie
import Derived.ChangeMaps5
import Derived.SevenTiedAt
import Derived.Lay
namespace Go.Proofs.YtgdilkhaopnhaaaGreatDoor
open Go.ChangeShapes Go.WideShapes Go.ChangeAt Go.RowKit Go.Joins Go.ChangeMaps

section
variable {H : Type} {enc : TypeId × Value → H}
set_option maxRecDepth 100000 in
theorem open_tall {W : World} {base : Nat} {args : Array Value} {ds : List (DataW H)} {p : List MemPlace}
    (hval : ∀ (j : Nat) t v, (#[25, 26, 26] : Array TypeId)[j]? = some t → args[j]? = some v → Value.okWide Tryz.prog W .any base t v)
    (h : DataW.TrodAll enc Tryz.prog W 0 (fun _ => true) true [25, 26, 26] args.toList ds p) :
    ∃ v0 a la lc l ma mc m, args = #[v0, .slice la (l : List OpD).length lc, .slice ma (m : List OpD).length mc] ∧ ObV (Hp W) W v0 a ∧ SlE Enc.op (Hp W) W (.slice la l.length lc) l ∧ SlE Enc.op (Hp W) W (.slice ma m.length mc) m := by
  obtain ⟨v0, v1, v2, d0, d1, d2, p0, p1, p2, rfl, rfl, rfl, h0, h1, h2⟩ := trodAll_three h
  obtain ⟨a, ha⟩ := open_ob (hval 0 25 v0 rfl rfl) h0
  obtain ⟨l, hl⟩ := opn_row Tryz.underlying26 (by kernel_rfl) (by decide) opn_op (hval 1 26 v1 rfl rfl) h1
  obtain ⟨la, lc, rfl⟩ := hl.shape
  obtain ⟨m, hm⟩ := opn_row Tryz.underlying26 (by kernel_rfl) (by decide) opn_op (hval 2 26 v2 rfl rfl) h2
  obtain ⟨ma, mc, rfl⟩ := hm.shape
  exact ⟨v0, a, la, lc, l, ma, mc, m, rfl, ha, hl, hm⟩
end

set_option maxRecDepth 100000 in
theorem txnAll_lifted (os : Os) (started : os.Started) (H : Type) (enc : TypeId × Value → H) :
    ReturnsInHanded {} Tryz.checked os 7 .any (fun w args => (Rows.txnAllSpec.pre enc Tryz.prog Tryz.f7 [] false w args ∧ laidMetH Tryz.prog Rows.txnAllRow.laid w) ∧ sizedMet enc Tryz.prog Tryz.f7 (OpenSpec.ofChange Rows.txnAllSpec) false w args) (Rows.txnAllSpec.post enc Tryz.prog Tryz.f7 false true false false) := by
  refine lift_law_laid os started rfl rfl ?_ ?_ (by kernel_rfl) Tryz.func7
    (ChangeSpec.witness_shaped (enc := enc) (C := Tryz.checked) (os := os) (X := fun w _ => laidMetH Tryz.prog Rows.txnAllRow.laid w) false (wH os) #[.agg #[.slice none 0 0, .slice none 0 0, .int .i64 0], .slice none 0 0, .slice none 0 0] 8 (wH_os os)
      (World.shaped_of_ZipB (by kernel_rfl) (by kernel_rfl)) (by kernel_rfl) (by kernel_rfl) (by kernel_rfl)
      (wH_met os _)) ?_
  · intro ds hn
    rw [Tryz.params7] at hn
    obtain ⟨d1, d2, d3, rfl⟩ : ∃ d1 d2 d3, ds = [d1, d2, d3] := by match ds, hn with | [a, b, c], _ => exact ⟨a, b, c, rfl⟩
    exact ⟨rfl, rfl, rfl⟩
  · rw [Tryz.params7]
    intro t ht
    simp at ht
    rcases ht with rfl | rfl | rfl <;> exact ⟨by kernel_rfl, of_decide_eq_true (by kernel_rfl)⟩
  · intro W base args ds p hval hlt hfz hA hL
    rw [Tryz.params7] at hA hval
    obtain ⟨v0, a, la, lc, l, ma, mc, m, rfl, ha, hl, hm⟩ := open_tall hval hA
    exact tall_law _ _ _ v0 a la lc l ma mc m W (errT_of_laid hL) ha hl hm
set_option maxRecDepth 100000 in
theorem txnAll_holds : Rows.TxnAllSaid :=
  OpenClaim.holds_of_wide 7 Tryz.f7 rfl rfl rfl rfl rfl rfl rfl ⟨rfl, rfl, rfl, rfl, rfl⟩ rfl rfl rfl rfl rfl (by kernel_rfl) Tryz.func7 (by kernel_rfl)
    (of_decide_eq_true (by kernel_rfl)) (by unfold Func.isWrapper; first | (rw [if_pos (by decide +kernel)]; kernel_rfl) | (rw [if_neg (by decide +kernel)]; exact ⟨rfl, rfl⟩))
    (fun os started H enc _ => txnAll_lifted os started H enc)
set_option maxRecDepth 100000 in
theorem txnAll_card_holds : Rows.TxnAllCardSaid :=
  Claim7.holds_tied_plain_at .later [] [.data, .handle, .pinned] true (true, "0a41fd0c01c50b010a4ba01cc9919ad9a077c60bed7356e89cd27b6b6dbd7dae") true txnAll_holds (fun _ h => by cases h) (by kernel_rfl) (fun _ h => by cases h) txnAll_row_tie rfl ⟨rfl, rfl⟩ (by kernel_rfl) rfl
    (fun f fn hf hfn => by
      obtain rfl : f = 7 := Option.some.inj ((show Tryz.prog.funcNamed "terrazzo/terrazzolaw09.TxnAll" = some 7 by kernel_rfl).symm.trans hf) |>.symm
      obtain rfl : fn = Tryz.f7 := (Option.some.inj (Tryz.func7.symm.trans hfn)).symm
      exact ⟨by kernel_rfl, fun j t ht => by
        rw [Tryz.params7] at ht
        have hm : t ∈ [25, 26, 26] := by simpa using Array.mem_of_getElem? ht
        have hall : ([25, 26, 26].all fun u => !Tryz.prog.wantsStandIn u) = true := by kernel_rfl
        exact (show Tryz.prog.wantsStandIn t = false by simpa using List.all_eq_true.1 hall t hm)⟩)
    (by kernel_rfl)
end Go.Proofs.YtgdilkhaopnhaaaGreatDoor
