/- Proved: for every room, row of transactions and beginning terrazzolaw11.StorePlays answers true, and its arguments read afterwards as before. No condition. -/
import Derived.Test.YtohfckkgmijlnaaGreatDoorOpenD
import Derived.Test.YtohfckkgmijlnaaGreatDoorPJ
import Derived.Test.YtohfckkgmijlnaaGreatDoorL11b
import Derived.Test.YtohfckkgmijlnaaGreatDoorCards
import Derived.Test.YtohfckkgmijlnaaGreatDoorTie
import Derived.ChangeMaps5
import Derived.SevenTiedAt
import Derived.Lay
namespace Go.Proofs.YtohfckkgmijlnaaGreatDoor
open Go.ChangeShapes Go.WideShapes Go.ChangeAt Go.RowKit Go.Joins Go.ChangeMaps

section
variable {H : Type} {enc : TypeId × Value → H}
set_option maxRecDepth 100000 in
theorem open_storePlays {W : World} {base : Nat} {args : Array Value} {ds : List (DataW H)} {p : List MemPlace}
    (hval : ∀ (j : Nat) t v, (#[3, 22, 9] : Array TypeId)[j]? = some t → args[j]? = some v → Value.okWide Tryz.prog W .any base t v)
    (h : DataW.TrodAll enc Tryz.prog W 0 (fun _ => true) true [3, 22, 9] args.toList ds p) :
    ∃ z0, ∃ v1, ∃ l1, ∃ s2, args = #[.int .i64 z0, v1, .string s2] ∧ SlE Enc.txn (Hp W) W v1 l1 := by
  obtain ⟨v0, v1, v2, d0, d1, d2, p0, p1, p2, rfl, rfl, rfl, h0, h1, h2⟩ := trodAll_three h
  obtain ⟨z0, rfl, _⟩ := open_int Tryz.underlying3 (hval 0 3 v0 rfl rfl) h0
  obtain ⟨l1, hl1⟩ := opn_row Tryz.underlying22 (by kernel_rfl) (by decide) opn_txn (hval 1 22 v1 rfl rfl) h1
  obtain ⟨s2, rfl, _⟩ := open_string Tryz.underlying9 (hval 2 9 v2 rfl rfl) h2
  exact ⟨z0, v1, l1, s2, rfl, hl1⟩
end

set_option maxRecDepth 100000 in
theorem storePlays_lifted (os : Os) (started : os.Started) (H : Type) (enc : TypeId × Value → H) :
    ReturnsInHanded {} Tryz.checked os 3 .any (fun w args => (Rows.storePlaysSpec.pre enc Tryz.prog Tryz.f3 [] false w args ∧ laidMetH Tryz.prog Rows.storePlaysRow.laid w) ∧ sizedMet enc Tryz.prog Tryz.f3 (OpenSpec.ofChange Rows.storePlaysSpec) false w args) (Rows.storePlaysSpec.post enc Tryz.prog Tryz.f3 false true false false) := by
  refine lift_law_laid os started rfl rfl ?_ ?_ (by kernel_rfl) Tryz.func3
    (ChangeSpec.witness_shaped (enc := enc) (C := Tryz.checked) (os := os) (X := fun w _ => laidMetH Tryz.prog Rows.storePlaysRow.laid w) false (wH os) #[.int .i64 0, .slice none 0 0, .string ByteArray.empty] 8 (wH_os os)
      (World.shaped_of_ZipB (by kernel_rfl) (by kernel_rfl)) (by kernel_rfl) (by kernel_rfl) (by kernel_rfl)
      (wH_met os _)) ?_
  · intro ds hn
    rw [Tryz.params3] at hn
    obtain ⟨d1, d2, d3, rfl⟩ : ∃ d1 d2 d3, ds = [d1, d2, d3] := by match ds, hn with | [a, b, c], _ => exact ⟨a, b, c, rfl⟩
    exact ⟨rfl, rfl, rfl⟩
  · rw [Tryz.params3]
    intro t ht
    simp at ht
    rcases ht with rfl | rfl | rfl <;> exact ⟨by kernel_rfl, of_decide_eq_true (by kernel_rfl)⟩
  · intro W base args ds p hval hlt hfz hA hL
    rw [Tryz.params3] at hA hval
    obtain ⟨z0, v1, l1, s2, rfl, hl1⟩ := open_storePlays hval hA
    exact plays_law z0 v1 l1 s2 W (errT_of_laid hL) hl1
set_option maxRecDepth 100000 in
theorem storePlays_holds : Rows.StorePlaysSaid :=
  OpenClaim.holds_of_wide 3 Tryz.f3 rfl rfl rfl rfl rfl rfl rfl ⟨rfl, rfl, rfl, rfl, rfl⟩ rfl rfl rfl rfl rfl (by kernel_rfl) Tryz.func3 (by kernel_rfl)
    (of_decide_eq_true (by kernel_rfl)) (by unfold Func.isWrapper; first | (rw [if_pos (by decide +kernel)]; kernel_rfl) | (rw [if_neg (by decide +kernel)]; exact ⟨rfl, rfl⟩))
    (fun os started H enc _ => storePlays_lifted os started H enc)
set_option maxRecDepth 100000 in
theorem storePlays_card_holds : Rows.StorePlaysCardSaid :=
  Claim7.holds_tied_plain_at .later [] [.data, .handle, .pinned] true (true, "64d0f2d97060bb015fba45bbef8507d08c55d15d5ff93301e22369d3ee609536") true storePlays_holds (fun _ h => by cases h) (by kernel_rfl) (fun _ h => by cases h) storePlays_row_tie rfl ⟨rfl, rfl⟩ (by kernel_rfl) rfl
    (fun f fn hf hfn => by
      obtain rfl : f = 3 := Option.some.inj ((show Tryz.prog.funcNamed "terrazzo/terrazzolaw11.StorePlays" = some 3 by kernel_rfl).symm.trans hf) |>.symm
      obtain rfl : fn = Tryz.f3 := (Option.some.inj (Tryz.func3.symm.trans hfn)).symm
      exact ⟨by kernel_rfl, fun j t ht => by
        rw [Tryz.params3] at ht
        have hm : t ∈ [3, 22, 9] := by simpa using Array.mem_of_getElem? ht
        have hall : ([3, 22, 9].all fun u => !Tryz.prog.wantsStandIn u) = true := by kernel_rfl
        exact (show Tryz.prog.wantsStandIn t = false by simpa using List.all_eq_true.1 hall t hm)⟩)
    (by kernel_rfl)
end Go.Proofs.YtohfckkgmijlnaaGreatDoor
