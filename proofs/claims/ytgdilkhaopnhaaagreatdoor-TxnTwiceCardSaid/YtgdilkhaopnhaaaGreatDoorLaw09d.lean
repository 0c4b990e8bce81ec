/- Proved: for every object, number and ops terrazzolaw09.TxnTwice answers true, and its arguments read afterwards as before. No condition. -/
import Derived.Test.YtgdilkhaopnhaaaGreatDoorOpenD
import Derived.Test.YtgdilkhaopnhaaaGreatDoorTab8
import Derived.Test.YtgdilkhaopnhaaaGreatDoorL9d
import Derived.Test.YtgdilkhaopnhaaaGreatDoorCards
import Derived.Test.YtgdilkhaopnhaaaGreatDoorTie
import Derived.ChangeMaps5
import Derived.SevenTiedAt
import Derived.Lay
namespace Go.Proofs.YtgdilkhaopnhaaaGreatDoor
open Go.ChangeShapes Go.WideShapes Go.ChangeAt Go.RowKit Go.Joins Go.ChangeMaps

section
variable {H : Type} {enc : TypeId × Value → H}
set_option maxRecDepth 100000 in
theorem open_twice {W : World} {base : Nat} {args : Array Value} {ds : List (DataW H)} {p : List MemPlace}
    (hval : ∀ (j : Nat) t v, (#[25, 3, 26] : Array TypeId)[j]? = some t → args[j]? = some v → Value.okWide Tryz.prog W .any base t v)
    (h : DataW.TrodAll enc Tryz.prog W 0 (fun _ => true) true [25, 3, 26] args.toList ds p) :
    ∃ v0 a n la lc l, args = #[v0, .int .i64 n, .slice la (l : List OpD).length lc] ∧ ObV (Hp W) W v0 a ∧ SlE Enc.op (Hp W) W (.slice la l.length lc) l := by
  obtain ⟨v0, v1, v2, d0, d1, d2, p0, p1, p2, rfl, rfl, rfl, h0, h1, h2⟩ := trodAll_three h
  obtain ⟨a, ha⟩ := open_ob (hval 0 25 v0 rfl rfl) h0
  obtain ⟨n, rfl, _⟩ := open_int Tryz.underlying3 (hval 1 3 v1 rfl rfl) h1
  obtain ⟨l, hl⟩ := opn_row Tryz.underlying26 (by kernel_rfl) (by decide) opn_op (hval 2 26 v2 rfl rfl) h2
  obtain ⟨la, lc, rfl⟩ := hl.shape
  exact ⟨v0, a, n, la, lc, l, rfl, ha, hl⟩
end

set_option maxRecDepth 100000 in
theorem txnTwice_lifted (os : Os) (started : os.Started) (H : Type) (enc : TypeId × Value → H) :
    ReturnsInHanded {} Tryz.checked os 6 .any (fun w args => (Rows.txnTwiceSpec.pre enc Tryz.prog Tryz.f6 [] false w args ∧ laidMetH Tryz.prog Rows.txnTwiceRow.laid w) ∧ sizedMet enc Tryz.prog Tryz.f6 (OpenSpec.ofChange Rows.txnTwiceSpec) false w args) (Rows.txnTwiceSpec.post enc Tryz.prog Tryz.f6 false true false false) := by
  refine lift_law_laid os started rfl rfl ?_ ?_ (by kernel_rfl) Tryz.func6
    (ChangeSpec.witness_shaped (enc := enc) (C := Tryz.checked) (os := os) (X := fun w _ => laidMetH Tryz.prog Rows.txnTwiceRow.laid w) false (wH os) #[.agg #[.slice none 0 0, .slice none 0 0, .int .i64 0], .int .i64 0, .slice none 0 0] 8 (wH_os os)
      (World.shaped_of_ZipB (by kernel_rfl) (by kernel_rfl)) (by kernel_rfl) (by kernel_rfl) (by kernel_rfl)
      (wH_met os _)) ?_
  · intro ds hn
    rw [Tryz.params6] at hn
    obtain ⟨d1, d2, d3, rfl⟩ : ∃ d1 d2 d3, ds = [d1, d2, d3] := by match ds, hn with | [a, b, c], _ => exact ⟨a, b, c, rfl⟩
    exact ⟨rfl, rfl, rfl⟩
  · rw [Tryz.params6]
    intro t ht
    simp at ht
    rcases ht with rfl | rfl | rfl <;> exact ⟨by kernel_rfl, of_decide_eq_true (by kernel_rfl)⟩
  · intro W base args ds p hval hlt hfz hA hL
    rw [Tryz.params6] at hA hval
    obtain ⟨v0, a, n, la, lc, l, rfl, ha, hl⟩ := open_twice hval hA
    exact ttwice_law _ _ v0 a n la lc l W (errT_of_laid hL) ha hl
set_option maxRecDepth 100000 in
theorem txnTwice_holds : Rows.TxnTwiceSaid :=
  OpenClaim.holds_of_wide 6 Tryz.f6 rfl rfl rfl rfl rfl rfl rfl ⟨rfl, rfl, rfl, rfl, rfl⟩ rfl rfl rfl rfl rfl (by kernel_rfl) Tryz.func6 (by kernel_rfl)
    (of_decide_eq_true (by kernel_rfl)) (by unfold Func.isWrapper; first | (rw [if_pos (by decide +kernel)]; kernel_rfl) | (rw [if_neg (by decide +kernel)]; exact ⟨rfl, rfl⟩))
    (fun os started H enc _ => txnTwice_lifted os started H enc)
set_option maxRecDepth 100000 in
theorem txnTwice_card_holds : Rows.TxnTwiceCardSaid :=
  Claim7.holds_tied_plain_at .later [] [.data, .handle, .pinned] true (true, "0a41fd0c01c50b010a4ba01cc9919ad9a077c60bed7356e89cd27b6b6dbd7dae") true txnTwice_holds (fun _ h => by cases h) (by kernel_rfl) (fun _ h => by cases h) txnTwice_row_tie rfl ⟨rfl, rfl⟩ (by kernel_rfl) rfl
    (fun f fn hf hfn => by
      obtain rfl : f = 6 := Option.some.inj ((show Tryz.prog.funcNamed "terrazzo/terrazzolaw09.TxnTwice" = some 6 by kernel_rfl).symm.trans hf) |>.symm
      obtain rfl : fn = Tryz.f6 := (Option.some.inj (Tryz.func6.symm.trans hfn)).symm
      exact ⟨by kernel_rfl, fun j t ht => by
        rw [Tryz.params6] at ht
        have hm : t ∈ [25, 3, 26] := by simpa using Array.mem_of_getElem? ht
        have hall : ([25, 3, 26].all fun u => !Tryz.prog.wantsStandIn u) = true := by kernel_rfl
        exact (show Tryz.prog.wantsStandIn t = false by simpa using List.all_eq_true.1 hall t hm)⟩)
    (by kernel_rfl)
end Go.Proofs.YtgdilkhaopnhaaaGreatDoor
