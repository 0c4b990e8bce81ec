/- Proved: for every row of transactions, transaction and room terrazzolaw11.StoreApart answers true, and its arguments read afterwards as before. No condition. -/
import Derived.Test.YtohfckkgmijlnaaGreatDoorOpenD
import Derived.Test.YtohfckkgmijlnaaGreatDoorPJ
import Derived.Test.YtohfckkgmijlnaaGreatDoorL11c
import Derived.Test.YtohfckkgmijlnaaGreatDoorCards
import Derived.Test.YtohfckkgmijlnaaGreatDoorTie
import Derived.ChangeMaps5
import Derived.SevenTiedAt
import Derived.Lay
namespace Go.Proofs.YtohfckkgmijlnaaGreatDoor
open Go.ChangeShapes Go.WideShapes Go.ChangeAt Go.RowKit Go.Joins Go.ChangeMaps

section
variable {H : Type} {enc : TypeId × Value → H}
set_option maxRecDepth 100000 in
theorem open_storeApart {W : World} {base : Nat} {args : Array Value} {ds : List (DataW H)} {p : List MemPlace}
    (hval : ∀ (j : Nat) t v, (#[22, 33, 3] : Array TypeId)[j]? = some t → args[j]? = some v → Value.okWide Tryz.prog W .any base t v)
    (h : DataW.TrodAll enc Tryz.prog W 0 (fun _ => true) true [22, 33, 3] args.toList ds p) :
    ∃ v0, ∃ l0, ∃ t1 : TxD, ∃ va1, ∃ z2, args = #[v0, .agg #[.string t1.obj, va1], .int .i64 z2] ∧ SlE Enc.txn (Hp W) W v0 l0 ∧ SlE Enc.op (Hp W) W va1 t1.ops := by
  obtain ⟨v0, v1, v2, d0, d1, d2, p0, p1, p2, rfl, rfl, rfl, h0, h1, h2⟩ := trodAll_three h
  obtain ⟨l0, hl0⟩ := opn_row Tryz.underlying22 (by kernel_rfl) (by decide) opn_txn (hval 0 22 v0 rfl rfl) h0
  obtain ⟨t1, va1, rfl, ht1⟩ := open_tx (hval 1 33 v1 rfl rfl) h1
  obtain ⟨z2, rfl, _⟩ := open_int Tryz.underlying3 (hval 2 3 v2 rfl rfl) h2
  exact ⟨v0, l0, t1, va1, z2, rfl, hl0, ht1⟩
end

set_option maxRecDepth 100000 in
theorem storeApart_lifted (os : Os) (started : os.Started) (H : Type) (enc : TypeId × Value → H) :
    ReturnsInHanded {} Tryz.checked os 4 .any (fun w args => (Rows.storeApartSpec.pre enc Tryz.prog Tryz.f4 [] false w args ∧ laidMetH Tryz.prog Rows.storeApartRow.laid w) ∧ sizedMet enc Tryz.prog Tryz.f4 (OpenSpec.ofChange Rows.storeApartSpec) false w args) (Rows.storeApartSpec.post enc Tryz.prog Tryz.f4 false true false false) := by
  refine lift_law_laid os started rfl rfl ?_ ?_ (by kernel_rfl) Tryz.func4
    (ChangeSpec.witness_shaped (enc := enc) (C := Tryz.checked) (os := os) (X := fun w _ => laidMetH Tryz.prog Rows.storeApartRow.laid w) false (wH os) #[.slice none 0 0, .agg #[.string ByteArray.empty, .slice none 0 0], .int .i64 0] 8 (wH_os os)
      (World.shaped_of_ZipB (by kernel_rfl) (by kernel_rfl)) (by kernel_rfl) (by kernel_rfl) (by kernel_rfl)
      (wH_met os _)) ?_
  · intro ds hn
    rw [Tryz.params4] at hn
    obtain ⟨d1, d2, d3, rfl⟩ : ∃ d1 d2 d3, ds = [d1, d2, d3] := by match ds, hn with | [a, b, c], _ => exact ⟨a, b, c, rfl⟩
    exact ⟨rfl, rfl, rfl⟩
  · rw [Tryz.params4]
    intro t ht
    simp at ht
    rcases ht with rfl | rfl | rfl <;> exact ⟨by kernel_rfl, of_decide_eq_true (by kernel_rfl)⟩
  · intro W base args ds p hval hlt hfz hA hL
    rw [Tryz.params4] at hA hval
    obtain ⟨v0, l0, t1, va1, z2, rfl, hl0, ht1⟩ := open_storeApart hval hA
    exact apart_law v0 l0 t1 va1 z2 W (errT_of_laid hL) hl0 ht1
set_option maxRecDepth 100000 in
theorem storeApart_holds : Rows.StoreApartSaid :=
  OpenClaim.holds_of_wide 4 Tryz.f4 rfl rfl rfl rfl rfl rfl rfl ⟨rfl, rfl, rfl, rfl, rfl⟩ rfl rfl rfl rfl rfl (by kernel_rfl) Tryz.func4 (by kernel_rfl)
    (of_decide_eq_true (by kernel_rfl)) (by unfold Func.isWrapper; first | (rw [if_pos (by decide +kernel)]; kernel_rfl) | (rw [if_neg (by decide +kernel)]; exact ⟨rfl, rfl⟩))
    (fun os started H enc _ => storeApart_lifted os started H enc)
set_option maxRecDepth 100000 in
theorem storeApart_card_holds : Rows.StoreApartCardSaid :=
  Claim7.holds_tied_plain_at .later [] [.data, .handle, .pinned] true (true, "64d0f2d97060bb015fba45bbef8507d08c55d15d5ff93301e22369d3ee609536") true storeApart_holds (fun _ h => by cases h) (by kernel_rfl) (fun _ h => by cases h) storeApart_row_tie rfl ⟨rfl, rfl⟩ (by kernel_rfl) rfl
    (fun f fn hf hfn => by
      obtain rfl : f = 4 := Option.some.inj ((show Tryz.prog.funcNamed "terrazzo/terrazzolaw11.StoreApart" = some 4 by kernel_rfl).symm.trans hf) |>.symm
      obtain rfl : fn = Tryz.f4 := (Option.some.inj (Tryz.func4.symm.trans hfn)).symm
      exact ⟨by kernel_rfl, fun j t ht => by
        rw [Tryz.params4] at ht
        have hm : t ∈ [22, 33, 3] := by simpa using Array.mem_of_getElem? ht
        have hall : ([22, 33, 3].all fun u => !Tryz.prog.wantsStandIn u) = true := by kernel_rfl
        exact (show Tryz.prog.wantsStandIn t = false by simpa using List.all_eq_true.1 hall t hm)⟩)
    (by kernel_rfl)
end Go.Proofs.YtohfckkgmijlnaaGreatDoor
