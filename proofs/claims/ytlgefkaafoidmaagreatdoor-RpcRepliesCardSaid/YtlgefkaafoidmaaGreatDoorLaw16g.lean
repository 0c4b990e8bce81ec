/- Proved: for every reply and bytes terrazzolaw16.RpcReplies answers true, and its arguments read afterwards as before. No condition. -/
import Derived.Test.YtlgefkaafoidmaaGreatDoorOpenD
import Derived.Test.YtlgefkaafoidmaaGreatDoorGB
import Derived.Test.YtlgefkaafoidmaaGreatDoorL16g
import Derived.Test.YtlgefkaafoidmaaGreatDoorCards
import Derived.Test.YtlgefkaafoidmaaGreatDoorTie
import Derived.SevenTiedAt
import Derived.Lay
namespace Go.Proofs.YtlgefkaafoidmaaGreatDoor
open Go.ChangeShapes Go.WideShapes Go.ChangeAt Go.RowKit Go.Joins

section
variable {H : Type} {enc : TypeId × Value → H}
set_option maxRecDepth 100000 in
theorem open_replies {W : World} {base : Nat} {args : Array Value} {ds : List (DataW H)} {p : List MemPlace}
    (hval : ∀ (j : Nat) t v, (#[40, 27] : Array TypeId)[j]? = some t → args[j]? = some v → Value.okWide Tryz.prog W .any base t v)
    (h : DataW.TrodAll enc Tryz.prog W 0 (fun _ => true) true [40, 27] args.toList ds p) : ∃ v0 v1 q l, args = #[v0, v1] ∧ RpV (Hp W) W v0 q ∧ RB (Hp W) W v1 l := by
  obtain ⟨v0, v1, d0, d1, p0, p1, rfl, rfl, rfl, h0, h1⟩ := trodAll_two h
  obtain ⟨q, hq⟩ := open_rp (hval 0 40 v0 rfl rfl) h0
  obtain ⟨l, hl⟩ := opn_row Tryz.underlying27 (by kernel_rfl) (by decide) opn_byte (hval 1 27 v1 rfl rfl) h1
  exact ⟨v0, v1, q, l, rfl, hq, bts_of hl⟩
end

set_option maxRecDepth 100000 in
theorem rpcReplies_lifted (os : Os) (started : os.Started) (H : Type) (enc : TypeId × Value → H) :
    ReturnsInHanded {} Tryz.checked os 4 .any (fun w args => (Rows.rpcRepliesSpec.pre enc Tryz.prog Tryz.f4 [] false w args ∧ laidMetH Tryz.prog Rows.rpcRepliesRow.laid w) ∧ sizedMet enc Tryz.prog Tryz.f4 (OpenSpec.ofChange Rows.rpcRepliesSpec) false w args) (Rows.rpcRepliesSpec.post enc Tryz.prog Tryz.f4 false true false false) := by
  refine lift_law_laid os started rfl rfl ?_ ?_ (by kernel_rfl) Tryz.func4
    (ChangeSpec.witness_shaped (enc := enc) (C := Tryz.checked) (os := os) (X := fun w _ => laidMetH Tryz.prog Rows.rpcRepliesRow.laid w) false (World.laidAll Tryz.prog os Rows.rpcRepliesRow.laid) #[.agg #[.int .i64 0, .int .i64 0, .int .i64 0, .int .i64 0, .int .i64 0, .int .i64 0, .bool false, .slice none 0 0, .slice none 0 0, .int .i64 0], .slice none 0 0] 8 (World.laidAll_os _ _ _)
      (World.shaped_of_ZipB (by kernel_rfl) (by kernel_rfl)) (by kernel_rfl) (by kernel_rfl) (by kernel_rfl)
      (by rw [MakeChecks.laidMetH_plain _ _ _ (by kernel_rfl)]; exact laidMet_laidAll _ (by kernel_rfl) (by kernel_rfl))) ?_
  · intro ds hn
    rw [Tryz.params4] at hn
    obtain ⟨d1, d2, rfl⟩ : ∃ d1 d2, ds = [d1, d2] := by match ds, hn with | [a, b], _ => exact ⟨a, b, rfl⟩
    exact ⟨rfl, rfl, rfl⟩
  · rw [Tryz.params4]
    intro t ht
    simp at ht
    rcases ht with rfl | rfl <;> exact ⟨by kernel_rfl, of_decide_eq_true (by kernel_rfl)⟩
  · intro W base args ds p hval hlt hfz hA hL
    rw [Tryz.params4] at hA hval
    obtain ⟨v0, v1, q, l, rfl, hq, hl⟩ := open_replies hval hA
    obtain ⟨hT, hg⟩ := tab_of_laid hL
    exact replies_law _ _ v0 v1 q l W hT hg hq hl
set_option maxRecDepth 100000 in
theorem rpcReplies_holds : Rows.RpcRepliesSaid :=
  OpenClaim.holds_of_wide 4 Tryz.f4 rfl rfl rfl rfl rfl rfl rfl ⟨rfl, rfl, rfl, rfl, rfl⟩ rfl rfl rfl rfl rfl (by kernel_rfl) Tryz.func4 (by kernel_rfl)
    (of_decide_eq_true (by kernel_rfl)) (by unfold Func.isWrapper; first | (rw [if_pos (by decide +kernel)]; kernel_rfl) | (rw [if_neg (by decide +kernel)]; exact ⟨rfl, rfl⟩))
    (fun os started H enc _ => rpcReplies_lifted os started H enc)
set_option maxRecDepth 100000 in
theorem rpcReplies_card_holds : Rows.RpcRepliesCardSaid :=
  Claim7.holds_tied_plain_at .later [] [.data, .data, .pinned] true (true, "f6cb1860ec1ea056a12c1ccb6468546a48d9509450e46b7dcc70b5847e73a808") true rpcReplies_holds (fun _ h => by cases h) (by kernel_rfl) (fun _ h => by cases h) rpcReplies_row_tie rfl ⟨rfl, rfl⟩ (by kernel_rfl) rfl
    (fun f fn hf hfn => by
      obtain rfl : f = 4 := Option.some.inj ((show Tryz.prog.funcNamed "terrazzo/terrazzolaw16.RpcReplies" = some 4 by kernel_rfl).symm.trans hf) |>.symm
      obtain rfl : fn = Tryz.f4 := (Option.some.inj (Tryz.func4.symm.trans hfn)).symm
      exact ⟨by kernel_rfl, fun j t ht => by
        rw [Tryz.params4] at ht
        have hm : t ∈ [40, 27] := by simpa using Array.mem_of_getElem? ht
        have hall : ([40, 27].all fun u => !Tryz.prog.wantsStandIn u) = true := by kernel_rfl
        exact (show Tryz.prog.wantsStandIn t = false by simpa using List.all_eq_true.1 hall t hm)⟩)
    (by kernel_rfl)
end Go.Proofs.YtlgefkaafoidmaaGreatDoor
