/- Proved: for every room and row of transactions terrazzolaw11.StoreRoom answers true, and its arguments read afterwards as before. No condition. -/
import Derived.Test.YtohfckkgmijlnaaGreatDoorOpenD
import Derived.Test.YtohfckkgmijlnaaGreatDoorPJ
import Derived.Test.YtohfckkgmijlnaaGreatDoorL11d
import Derived.Test.YtohfckkgmijlnaaGreatDoorCards
import Derived.Test.YtohfckkgmijlnaaGreatDoorTie
import Derived.ChangeMaps5
import Derived.SevenTiedAt
import Derived.Lay
namespace Go.Proofs.YtohfckkgmijlnaaGreatDoor
open Go.ChangeShapes Go.WideShapes Go.ChangeAt Go.RowKit Go.Joins Go.ChangeMaps

section
variable {H : Type} {enc : TypeId × Value → H}
set_option maxRecDepth 100000 in
theorem open_storeRoom {W : World} {base : Nat} {args : Array Value} {ds : List (DataW H)} {p : List MemPlace}
    (hval : ∀ (j : Nat) t v, (#[3, 22] : Array TypeId)[j]? = some t → args[j]? = some v → Value.okWide Tryz.prog W .any base t v)
    (h : DataW.TrodAll enc Tryz.prog W 0 (fun _ => true) true [3, 22] args.toList ds p) :
    ∃ z0, ∃ v1, ∃ l1, args = #[.int .i64 z0, v1] ∧ SlE Enc.txn (Hp W) W v1 l1 := by
  obtain ⟨v0, v1, d0, d1, p0, p1, rfl, rfl, rfl, h0, h1⟩ := trodAll_two h
  obtain ⟨z0, rfl, _⟩ := open_int Tryz.underlying3 (hval 0 3 v0 rfl rfl) h0
  obtain ⟨l1, hl1⟩ := opn_row Tryz.underlying22 (by kernel_rfl) (by decide) opn_txn (hval 1 22 v1 rfl rfl) h1
  exact ⟨z0, v1, l1, rfl, hl1⟩
end

set_option maxRecDepth 100000 in
theorem storeRoom_lifted (os : Os) (started : os.Started) (H : Type) (enc : TypeId × Value → H) :
    ReturnsInHanded {} Tryz.checked os 5 .any (fun w args => (Rows.storeRoomSpec.pre enc Tryz.prog Tryz.f5 [] false w args ∧ laidMetH Tryz.prog Rows.storeRoomRow.laid w) ∧ sizedMet enc Tryz.prog Tryz.f5 (OpenSpec.ofChange Rows.storeRoomSpec) false w args) (Rows.storeRoomSpec.post enc Tryz.prog Tryz.f5 false true false false) := by
  refine lift_law_laid os started rfl rfl ?_ ?_ (by kernel_rfl) Tryz.func5
    (ChangeSpec.witness_shaped (enc := enc) (C := Tryz.checked) (os := os) (X := fun w _ => laidMetH Tryz.prog Rows.storeRoomRow.laid w) false (wH os) #[.int .i64 0, .slice none 0 0] 8 (wH_os os)
      (World.shaped_of_ZipB (by kernel_rfl) (by kernel_rfl)) (by kernel_rfl) (by kernel_rfl) (by kernel_rfl)
      (wH_met os _)) ?_
  · intro ds hn
    rw [Tryz.params5] at hn
    obtain ⟨d1, d2, rfl⟩ : ∃ d1 d2, ds = [d1, d2] := by match ds, hn with | [a, b], _ => exact ⟨a, b, rfl⟩
    exact ⟨rfl, rfl, rfl⟩
  · rw [Tryz.params5]
    intro t ht
    simp at ht
    rcases ht with rfl | rfl <;> exact ⟨by kernel_rfl, of_decide_eq_true (by kernel_rfl)⟩
  · intro W base args ds p hval hlt hfz hA hL
    rw [Tryz.params5] at hA hval
    obtain ⟨z0, v1, l1, rfl, hl1⟩ := open_storeRoom hval hA
    exact room_law z0 v1 l1 W (errT_of_laid hL) hl1
set_option maxRecDepth 100000 in
theorem storeRoom_holds : Rows.StoreRoomSaid :=
  OpenClaim.holds_of_wide 5 Tryz.f5 rfl rfl rfl rfl rfl rfl rfl ⟨rfl, rfl, rfl, rfl, rfl⟩ rfl rfl rfl rfl rfl (by kernel_rfl) Tryz.func5 (by kernel_rfl)
    (of_decide_eq_true (by kernel_rfl)) (by unfold Func.isWrapper; first | (rw [if_pos (by decide +kernel)]; kernel_rfl) | (rw [if_neg (by decide +kernel)]; exact ⟨rfl, rfl⟩))
    (fun os started H enc _ => storeRoom_lifted os started H enc)
set_option maxRecDepth 100000 in
theorem storeRoom_card_holds : Rows.StoreRoomCardSaid :=
  Claim7.holds_tied_plain_at .later [] [.data, .handle, .pinned] true (true, "64d0f2d97060bb015fba45bbef8507d08c55d15d5ff93301e22369d3ee609536") true storeRoom_holds (fun _ h => by cases h) (by kernel_rfl) (fun _ h => by cases h) storeRoom_row_tie rfl ⟨rfl, rfl⟩ (by kernel_rfl) rfl
    (fun f fn hf hfn => by
      obtain rfl : f = 5 := Option.some.inj ((show Tryz.prog.funcNamed "terrazzo/terrazzolaw11.StoreRoom" = some 5 by kernel_rfl).symm.trans hf) |>.symm
      obtain rfl : fn = Tryz.f5 := (Option.some.inj (Tryz.func5.symm.trans hfn)).symm
      exact ⟨by kernel_rfl, fun j t ht => by
        rw [Tryz.params5] at ht
        have hm : t ∈ [3, 22] := by simpa using Array.mem_of_getElem? ht
        have hall : ([3, 22].all fun u => !Tryz.prog.wantsStandIn u) = true := by kernel_rfl
        exact (show Tryz.prog.wantsStandIn t = false by simpa using List.all_eq_true.1 hall t hm)⟩)
    (by kernel_rfl)
end Go.Proofs.YtohfckkgmijlnaaGreatDoor
