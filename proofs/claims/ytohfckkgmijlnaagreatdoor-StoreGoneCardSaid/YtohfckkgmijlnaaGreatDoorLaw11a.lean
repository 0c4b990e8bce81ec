/- Proved: for every row of transactions, name and bytes terrazzolaw11.StoreGone answers true, and its arguments read afterwards as before. No condition. -/
import Derived.Test.YtohfckkgmijlnaaGreatDoorOpenD
import Derived.Test.YtohfckkgmijlnaaGreatDoorPJ
import Derived.Test.YtohfckkgmijlnaaGreatDoorL11a
import Derived.Test.YtohfckkgmijlnaaGreatDoorCards
import Derived.Test.YtohfckkgmijlnaaGreatDoorTie
import Derived.ChangeMaps5
import Derived.SevenTiedAt
import Derived.Lay
namespace Go.Proofs.YtohfckkgmijlnaaGreatDoor
open Go.ChangeShapes Go.WideShapes Go.ChangeAt Go.RowKit Go.Joins Go.ChangeMaps

section
variable {H : Type} {enc : TypeId × Value → H}
set_option maxRecDepth 100000 in
theorem open_gone {W : World} {base : Nat} {args : Array Value} {ds : List (DataW H)} {p : List MemPlace}
    (hval : ∀ (j : Nat) t v, (#[22, 9, 38] : Array TypeId)[j]? = some t → args[j]? = some v → Value.okWide Tryz.prog W .any base t v)
    (h : DataW.TrodAll enc Tryz.prog W 0 (fun _ => true) true [22, 9, 38] args.toList ds p) :
    ∃ v0 l nm v2 bs, args = #[v0, .string nm, v2] ∧ SlE Enc.txn (Hp W) W v0 l ∧ RB (Hp W) W v2 bs := by
  obtain ⟨v0, v1, v2, d0, d1, d2, p0, p1, p2, rfl, rfl, rfl, h0, h1, h2⟩ := trodAll_three h
  obtain ⟨l, hl⟩ := opn_row Tryz.underlying22 (by kernel_rfl) (by decide) opn_txn (hval 0 22 v0 rfl rfl) h0
  obtain ⟨nm, rfl, _⟩ := open_string Tryz.underlying9 (hval 1 9 v1 rfl rfl) h1
  obtain ⟨bs, hb⟩ := opn_row Tryz.underlying38 (by kernel_rfl) (by decide) opn_byte (hval 2 38 v2 rfl rfl) h2
  exact ⟨v0, l, nm, v2, bs, rfl, hl, bts_of hb⟩
end

set_option maxRecDepth 100000 in
theorem storeGone_lifted (os : Os) (started : os.Started) (H : Type) (enc : TypeId × Value → H) :
    ReturnsInHanded {} Tryz.checked os 6 .any (fun w args => (Rows.storeGoneSpec.pre enc Tryz.prog Tryz.f6 [] false w args ∧ laidMetH Tryz.prog Rows.storeGoneRow.laid w) ∧ sizedMet enc Tryz.prog Tryz.f6 (OpenSpec.ofChange Rows.storeGoneSpec) false w args) (Rows.storeGoneSpec.post enc Tryz.prog Tryz.f6 false true false false) := by
  refine lift_law_laid os started rfl rfl ?_ ?_ (by kernel_rfl) Tryz.func6
    (ChangeSpec.witness_shaped (enc := enc) (C := Tryz.checked) (os := os) (X := fun w _ => laidMetH Tryz.prog Rows.storeGoneRow.laid w) false (wH os) #[.slice none 0 0, .string ByteArray.empty, .slice none 0 0] 8 (wH_os os)
      (World.shaped_of_ZipB (by kernel_rfl) (by kernel_rfl)) (by kernel_rfl) (by kernel_rfl) (by kernel_rfl)
      (wH_met os _)) ?_
  · intro ds hn
    rw [Tryz.params6] at hn
    obtain ⟨d1, d2, d3, rfl⟩ : ∃ d1 d2 d3, ds = [d1, d2, d3] := by match ds, hn with | [a, b, c], _ => exact ⟨a, b, c, rfl⟩
    exact ⟨rfl, rfl, rfl⟩
  · rw [Tryz.params6]
    intro t ht
    simp at ht
    rcases ht with rfl | rfl | rfl <;> exact ⟨by kernel_rfl, of_decide_eq_true (by kernel_rfl)⟩
  · intro W base args ds p hval hlt hfz hA hL
    rw [Tryz.params6] at hA hval
    obtain ⟨v0, l, nm, v2, bs, rfl, hl, hb⟩ := open_gone hval hA
    exact gone_law v0 v2 l nm bs W (errT_of_laid hL) hl hb
set_option maxRecDepth 100000 in
theorem storeGone_holds : Rows.StoreGoneSaid :=
  OpenClaim.holds_of_wide 6 Tryz.f6 rfl rfl rfl rfl rfl rfl rfl ⟨rfl, rfl, rfl, rfl, rfl⟩ rfl rfl rfl rfl rfl (by kernel_rfl) Tryz.func6 (by kernel_rfl)
    (of_decide_eq_true (by kernel_rfl)) (by unfold Func.isWrapper; first | (rw [if_pos (by decide +kernel)]; kernel_rfl) | (rw [if_neg (by decide +kernel)]; exact ⟨rfl, rfl⟩))
    (fun os started H enc _ => storeGone_lifted os started H enc)
set_option maxRecDepth 100000 in
theorem storeGone_card_holds : Rows.StoreGoneCardSaid :=
  Claim7.holds_tied_plain_at .later [] [.data, .handle, .pinned] true (true, "64d0f2d97060bb015fba45bbef8507d08c55d15d5ff93301e22369d3ee609536") true storeGone_holds (fun _ h => by cases h) (by kernel_rfl) (fun _ h => by cases h) storeGone_row_tie rfl ⟨rfl, rfl⟩ (by kernel_rfl) rfl
    (fun f fn hf hfn => by
      obtain rfl : f = 6 := Option.some.inj ((show Tryz.prog.funcNamed "terrazzo/terrazzolaw11.StoreGone" = some 6 by kernel_rfl).symm.trans hf) |>.symm
      obtain rfl : fn = Tryz.f6 := (Option.some.inj (Tryz.func6.symm.trans hfn)).symm
      exact ⟨by kernel_rfl, fun j t ht => by
        rw [Tryz.params6] at ht
        have hm : t ∈ [22, 9, 38] := by simpa using Array.mem_of_getElem? ht
        have hall : ([22, 9, 38].all fun u => !Tryz.prog.wantsStandIn u) = true := by kernel_rfl
        exact (show Tryz.prog.wantsStandIn t = false by simpa using List.all_eq_true.1 hall t hm)⟩)
    (by kernel_rfl)
end Go.Proofs.YtohfckkgmijlnaaGreatDoor
