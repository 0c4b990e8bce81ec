/- Proved: for every transaction and row of bytes terrazzolaw09.TxnBack answers true, and its arguments read afterwards as before. No condition. -/
import Derived.Test.YtgdilkhaopnhaaaGreatDoorOpenD
import Derived.Test.YtgdilkhaopnhaaaGreatDoorTab8
import Derived.Test.YtgdilkhaopnhaaaGreatDoorMQ
import Derived.Test.YtgdilkhaopnhaaaGreatDoorCards
import Derived.Test.YtgdilkhaopnhaaaGreatDoorTie
import Derived.ChangeMaps5
import Derived.SevenTiedAt
import Derived.Lay
namespace Go.Proofs.YtgdilkhaopnhaaaGreatDoor
open Go.ChangeShapes Go.WideShapes Go.ChangeAt Go.RowKit Go.Joins Go.ChangeMaps

section
variable {H : Type} {enc : TypeId × Value → H}
set_option maxRecDepth 100000 in
theorem open_tback {W : World} {base : Nat} {args : Array Value} {ds : List (DataW H)} {p : List MemPlace}
    (hval : ∀ (j : Nat) t v, (#[28, 22] : Array TypeId)[j]? = some t → args[j]? = some v → Value.okWide Tryz.prog W .any base t v)
    (h : DataW.TrodAll enc Tryz.prog W 0 (fun _ => true) true [28, 22] args.toList ds p) :
    ∃ va v1, ∃ t : TxD, ∃ d : List UInt8, args = #[.agg #[.string t.obj, va], v1] ∧ SlE Enc.op (Hp W) W va t.ops ∧ RB (Hp W) W v1 d := by
  obtain ⟨v0, v1, d0, d1, p0, p1, rfl, rfl, rfl, h0, h1⟩ := trodAll_two h
  obtain ⟨t, va, rfl, ht⟩ := open_tx (hval 0 28 v0 rfl rfl) h0
  obtain ⟨d, hd0⟩ := opn_row Tryz.underlying22 (by kernel_rfl) (by decide) opn_byte (hval 1 22 v1 rfl rfl) h1
  exact ⟨va, v1, t, d, rfl, ht, bts_of hd0⟩
end

set_option maxRecDepth 100000 in
theorem txnBack_lifted (os : Os) (started : os.Started) (H : Type) (enc : TypeId × Value → H) :
    ReturnsInHanded {} Tryz.checked os 5 .any (fun w args => (Rows.txnBackSpec.pre enc Tryz.prog Tryz.f5 [] false w args ∧ laidMetH Tryz.prog Rows.txnBackRow.laid w) ∧ sizedMet enc Tryz.prog Tryz.f5 (OpenSpec.ofChange Rows.txnBackSpec) false w args) (Rows.txnBackSpec.post enc Tryz.prog Tryz.f5 false true false false) := by
  refine lift_law_laid os started rfl rfl ?_ ?_ (by kernel_rfl) Tryz.func5
    (ChangeSpec.witness_shaped (enc := enc) (C := Tryz.checked) (os := os) (X := fun w _ => laidMetH Tryz.prog Rows.txnBackRow.laid w) false (wH os) #[.agg #[.string ByteArray.empty, .slice none 0 0], .slice none 0 0] 8 (wH_os os)
      (World.shaped_of_ZipB (by kernel_rfl) (by kernel_rfl)) (by kernel_rfl) (by kernel_rfl) (by kernel_rfl)
      (wH_met os _)) ?_
  · intro ds hn
    rw [Tryz.params5] at hn
    obtain ⟨d1, d2, rfl⟩ : ∃ d1 d2, ds = [d1, d2] := by match ds, hn with | [a, b], _ => exact ⟨a, b, rfl⟩
    exact ⟨rfl, rfl, rfl⟩
  · rw [Tryz.params5]
    intro t ht
    simp at ht
    rcases ht with rfl | rfl <;> exact ⟨by kernel_rfl, of_decide_eq_true (by kernel_rfl)⟩
  · intro W base args ds p hval hlt hfz hA hL
    rw [Tryz.params5] at hA hval
    obtain ⟨va, v1, t, d, rfl, ht, hd⟩ := open_tback hval hA
    exact tback_law _ _ va v1 t d W (errT_of_laid hL) ht hd
set_option maxRecDepth 100000 in
theorem txnBack_holds : Rows.TxnBackSaid :=
  OpenClaim.holds_of_wide 5 Tryz.f5 rfl rfl rfl rfl rfl rfl rfl ⟨rfl, rfl, rfl, rfl, rfl⟩ rfl rfl rfl rfl rfl (by kernel_rfl) Tryz.func5 (by kernel_rfl)
    (of_decide_eq_true (by kernel_rfl)) (by unfold Func.isWrapper; first | (rw [if_pos (by decide +kernel)]; kernel_rfl) | (rw [if_neg (by decide +kernel)]; exact ⟨rfl, rfl⟩))
    (fun os started H enc _ => txnBack_lifted os started H enc)
set_option maxRecDepth 100000 in
theorem txnBack_card_holds : Rows.TxnBackCardSaid :=
  Claim7.holds_tied_plain_at .later [] [.data, .handle, .pinned] true (true, "0a41fd0c01c50b010a4ba01cc9919ad9a077c60bed7356e89cd27b6b6dbd7dae") true txnBack_holds (fun _ h => by cases h) (by kernel_rfl) (fun _ h => by cases h) txnBack_row_tie rfl ⟨rfl, rfl⟩ (by kernel_rfl) rfl
    (fun f fn hf hfn => by
      obtain rfl : f = 5 := Option.some.inj ((show Tryz.prog.funcNamed "terrazzo/terrazzolaw09.TxnBack" = some 5 by kernel_rfl).symm.trans hf) |>.symm
      obtain rfl : fn = Tryz.f5 := (Option.some.inj (Tryz.func5.symm.trans hfn)).symm
      exact ⟨by kernel_rfl, fun j t ht => by
        rw [Tryz.params5] at ht
        have hm : t ∈ [28, 22] := by simpa using Array.mem_of_getElem? ht
        have hall : ([28, 22].all fun u => !Tryz.prog.wantsStandIn u) = true := by kernel_rfl
        exact (show Tryz.prog.wantsStandIn t = false by simpa using List.all_eq_true.1 hall t hm)⟩)
    (by kernel_rfl)
end Go.Proofs.YtgdilkhaopnhaaaGreatDoor
