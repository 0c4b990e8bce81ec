/- Proved: for every row of transactions and beginning terrazzolaw11.StoreNames answers true, and its arguments read afterwards as before. No condition. -/
import Derived.Test.YtohfckkgmijlnaaGreatDoorOpenD
import Derived.Test.YtohfckkgmijlnaaGreatDoorPJ
import Derived.Test.YtohfckkgmijlnaaGreatDoorL11e
import Derived.Test.YtohfckkgmijlnaaGreatDoorCards
import Derived.Test.YtohfckkgmijlnaaGreatDoorTie
import Derived.ChangeMaps5
import Derived.SevenTiedAt
import Derived.Lay
namespace Go.Proofs.YtohfckkgmijlnaaGreatDoor
open Go.ChangeShapes Go.WideShapes Go.ChangeAt Go.RowKit Go.Joins Go.ChangeMaps

section
variable {H : Type} {enc : TypeId × Value → H}
set_option maxRecDepth 100000 in
theorem open_storeNames {W : World} {base : Nat} {args : Array Value} {ds : List (DataW H)} {p : List MemPlace}
    (hval : ∀ (j : Nat) t v, (#[22, 9] : Array TypeId)[j]? = some t → args[j]? = some v → Value.okWide Tryz.prog W .any base t v)
    (h : DataW.TrodAll enc Tryz.prog W 0 (fun _ => true) true [22, 9] args.toList ds p) :
    ∃ v0, ∃ l0, ∃ s1, args = #[v0, .string s1] ∧ SlE Enc.txn (Hp W) W v0 l0 := by
  obtain ⟨v0, v1, d0, d1, p0, p1, rfl, rfl, rfl, h0, h1⟩ := trodAll_two h
  obtain ⟨l0, hl0⟩ := opn_row Tryz.underlying22 (by kernel_rfl) (by decide) opn_txn (hval 0 22 v0 rfl rfl) h0
  obtain ⟨s1, rfl, _⟩ := open_string Tryz.underlying9 (hval 1 9 v1 rfl rfl) h1
  exact ⟨v0, l0, s1, rfl, hl0⟩
end

set_option maxRecDepth 100000 in
theorem storeNames_lifted (os : Os) (started : os.Started) (H : Type) (enc : TypeId × Value → H) :
    ReturnsInHanded {} Tryz.checked os 8 .any (fun w args => (Rows.storeNamesSpec.pre enc Tryz.prog Tryz.f8 [] false w args ∧ laidMetH Tryz.prog Rows.storeNamesRow.laid w) ∧ sizedMet enc Tryz.prog Tryz.f8 (OpenSpec.ofChange Rows.storeNamesSpec) false w args) (Rows.storeNamesSpec.post enc Tryz.prog Tryz.f8 false true false false) := by
  refine lift_law_laid os started rfl rfl ?_ ?_ (by kernel_rfl) Tryz.func8
    (ChangeSpec.witness_shaped (enc := enc) (C := Tryz.checked) (os := os) (X := fun w _ => laidMetH Tryz.prog Rows.storeNamesRow.laid w) false (wH os) #[.slice none 0 0, .string ByteArray.empty] 8 (wH_os os)
      (World.shaped_of_ZipB (by kernel_rfl) (by kernel_rfl)) (by kernel_rfl) (by kernel_rfl) (by kernel_rfl)
      (wH_met os _)) ?_
  · intro ds hn
    rw [Tryz.params8] at hn
    obtain ⟨d1, d2, rfl⟩ : ∃ d1 d2, ds = [d1, d2] := by match ds, hn with | [a, b], _ => exact ⟨a, b, rfl⟩
    exact ⟨rfl, rfl, rfl⟩
  · rw [Tryz.params8]
    intro t ht
    simp at ht
    rcases ht with rfl | rfl <;> exact ⟨by kernel_rfl, of_decide_eq_true (by kernel_rfl)⟩
  · intro W base args ds p hval hlt hfz hA hL
    rw [Tryz.params8] at hA hval
    obtain ⟨v0, l0, s1, rfl, hl0⟩ := open_storeNames hval hA
    exact names_law v0 l0 s1 W (errT_of_laid hL) hl0
set_option maxRecDepth 100000 in
theorem storeNames_holds : Rows.StoreNamesSaid :=
  OpenClaim.holds_of_wide 8 Tryz.f8 rfl rfl rfl rfl rfl rfl rfl ⟨rfl, rfl, rfl, rfl, rfl⟩ rfl rfl rfl rfl rfl (by kernel_rfl) Tryz.func8 (by kernel_rfl)
    (of_decide_eq_true (by kernel_rfl)) (by unfold Func.isWrapper; first | (rw [if_pos (by decide +kernel)]; kernel_rfl) | (rw [if_neg (by decide +kernel)]; exact ⟨rfl, rfl⟩))
    (fun os started H enc _ => storeNames_lifted os started H enc)
set_option maxRecDepth 100000 in
theorem storeNames_card_holds : Rows.StoreNamesCardSaid :=
  Claim7.holds_tied_plain_at .later [] [.data, .handle, .pinned] true (true, "64d0f2d97060bb015fba45bbef8507d08c55d15d5ff93301e22369d3ee609536") true storeNames_holds (fun _ h => by cases h) (by kernel_rfl) (fun _ h => by cases h) storeNames_row_tie rfl ⟨rfl, rfl⟩ (by kernel_rfl) rfl
    (fun f fn hf hfn => by
      obtain rfl : f = 8 := Option.some.inj ((show Tryz.prog.funcNamed "terrazzo/terrazzolaw11.StoreNames" = some 8 by kernel_rfl).symm.trans hf) |>.symm
      obtain rfl : fn = Tryz.f8 := (Option.some.inj (Tryz.func8.symm.trans hfn)).symm
      exact ⟨by kernel_rfl, fun j t ht => by
        rw [Tryz.params8] at ht
        have hm : t ∈ [22, 9] := by simpa using Array.mem_of_getElem? ht
        have hall : ([22, 9].all fun u => !Tryz.prog.wantsStandIn u) = true := by kernel_rfl
        exact (show Tryz.prog.wantsStandIn t = false by simpa using List.all_eq_true.1 hall t hm)⟩)
    (by kernel_rfl)
end Go.Proofs.YtohfckkgmijlnaaGreatDoor
