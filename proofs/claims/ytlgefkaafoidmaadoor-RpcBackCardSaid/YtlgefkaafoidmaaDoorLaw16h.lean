/- Proved: for every request and reply terrazzolaw16.RpcBack answers true, and its arguments read afterwards as before. No condition. -/
import Derived.Test.YtlgefkaafoidmaaDoorOpenD
import Derived.Test.YtlgefkaafoidmaaDoorGB
import Derived.Test.YtlgefkaafoidmaaDoorL16h
import Derived.Test.YtlgefkaafoidmaaDoorCards
import Derived.Test.YtlgefkaafoidmaaDoorTie
import Derived.SevenTiedAt
import Derived.Lay
namespace Go.Proofs.YtlgefkaafoidmaaDoor
open Go.ChangeShapes Go.WideShapes Go.ChangeAt Go.RowKit Go.Joins

section
variable {H : Type} {enc : TypeId × Value → H}
set_option maxRecDepth 100000 in
theorem open_back {W : World} {base : Nat} {args : Array Value} {ds : List (DataW H)} {p : List MemPlace}
    (hval : ∀ (j : Nat) t v, (#[26, 33] : Array TypeId)[j]? = some t → args[j]? = some v → Value.okWide Tryd.prog W .any base t v)
    (h : DataW.TrodAll enc Tryd.prog W 0 (fun _ => true) true [26, 33] args.toList ds p) : ∃ v0 v1 q r, args = #[v0, v1] ∧ RqV (Hp W) W v0 q ∧ RpV (Hp W) W v1 r := by
  obtain ⟨v0, v1, d0, d1, p0, p1, rfl, rfl, rfl, h0, h1⟩ := trodAll_two h
  obtain ⟨q, hq⟩ := open_rq (hval 0 26 v0 rfl rfl) h0
  obtain ⟨r, hr⟩ := open_rp (hval 1 33 v1 rfl rfl) h1
  exact ⟨v0, v1, q, r, rfl, hq, hr⟩
end

set_option maxRecDepth 100000 in
theorem rpcBack_lifted (os : Os) (started : os.Started) (H : Type) (enc : TypeId × Value → H) :
    ReturnsInHanded {} Tryd.checked os 3 .any (fun w args => (Rows.rpcBackSpec.pre enc Tryd.prog Tryd.f3 [] false w args ∧ laidMetH Tryd.prog Rows.rpcBackRow.laid w) ∧ sizedMet enc Tryd.prog Tryd.f3 (OpenSpec.ofChange Rows.rpcBackSpec) false w args) (Rows.rpcBackSpec.post enc Tryd.prog Tryd.f3 false true false false) := by
  refine lift_law_laid os started rfl rfl ?_ ?_ (by kernel_rfl) Tryd.func3
    (ChangeSpec.witness_shaped (enc := enc) (C := Tryd.checked) (os := os) (X := fun w _ => laidMetH Tryd.prog Rows.rpcBackRow.laid w) false (World.laidAll Tryd.prog os Rows.rpcBackRow.laid) #[.agg #[.int .i64 0, .int .i64 0, .int .i64 0, .int .i64 0, .int .i64 0, .int .i64 0, .int .i64 0, .string ByteArray.empty, .slice none 0 0], .agg #[.int .i64 0, .int .i64 0, .int .i64 0, .int .i64 0, .int .i64 0, .int .i64 0, .bool false, .slice none 0 0, .slice none 0 0, .int .i64 0]] 8 (World.laidAll_os _ _ _)
      (World.shaped_of_ZipB (by kernel_rfl) (by kernel_rfl)) (by kernel_rfl) (by kernel_rfl) (by kernel_rfl)
      (by rw [MakeChecks.laidMetH_plain _ _ _ (by kernel_rfl)]; exact laidMet_laidAll _ (by kernel_rfl) (by kernel_rfl))) ?_
  · intro ds hn
    rw [Tryd.params3] at hn
    obtain ⟨d1, d2, rfl⟩ : ∃ d1 d2, ds = [d1, d2] := by match ds, hn with | [a, b], _ => exact ⟨a, b, rfl⟩
    exact ⟨rfl, rfl, rfl⟩
  · rw [Tryd.params3]
    intro t ht
    simp at ht
    rcases ht with rfl | rfl <;> exact ⟨by kernel_rfl, of_decide_eq_true (by kernel_rfl)⟩
  · intro W base args ds p hval hlt hfz hA hL
    rw [Tryd.params3] at hA hval
    obtain ⟨v0, v1, q, r, rfl, hq, hr⟩ := open_back hval hA
    obtain ⟨hT, hg⟩ := tab_of_laid hL
    exact back_law _ _ v0 v1 q r W hT hg hq hr
set_option maxRecDepth 100000 in
theorem rpcBack_holds : Rows.RpcBackSaid :=
  OpenClaim.holds_of_wide 3 Tryd.f3 rfl rfl rfl rfl rfl rfl rfl ⟨rfl, rfl, rfl, rfl, rfl⟩ rfl rfl rfl rfl rfl (by kernel_rfl) Tryd.func3 (by kernel_rfl)
    (of_decide_eq_true (by kernel_rfl)) (by unfold Func.isWrapper; first | (rw [if_pos (by decide +kernel)]; kernel_rfl) | (rw [if_neg (by decide +kernel)]; exact ⟨rfl, rfl⟩))
    (fun os started H enc _ => rpcBack_lifted os started H enc)
set_option maxRecDepth 100000 in
theorem rpcBack_card_holds : Rows.RpcBackCardSaid :=
  Claim7.holds_tied_plain_at .later [] [.data, .data, .pinned] true (true, "ff9b7f211136a68815885f323778bb1b09ef58366eeffdaf787ddba21440c958") true rpcBack_holds (fun _ h => by cases h) (by kernel_rfl) (fun _ h => by cases h) rpcBack_row_tie rfl ⟨rfl, rfl⟩ (by kernel_rfl) rfl
    (fun f fn hf hfn => by
      obtain rfl : f = 3 := Option.some.inj ((show Tryd.prog.funcNamed "terrazzo/terrazzolaw16.RpcBack" = some 3 by kernel_rfl).symm.trans hf) |>.symm
      obtain rfl : fn = Tryd.f3 := (Option.some.inj (Tryd.func3.symm.trans hfn)).symm
      exact ⟨by kernel_rfl, fun j t ht => by
        rw [Tryd.params3] at ht
        have hm : t ∈ [26, 33] := by simpa using Array.mem_of_getElem? ht
        have hall : ([26, 33].all fun u => !Tryd.prog.wantsStandIn u) = true := by kernel_rfl
        exact (show Tryd.prog.wantsStandIn t = false by simpa using List.all_eq_true.1 hall t hm)⟩)
    (by kernel_rfl)
end Go.Proofs.YtlgefkaafoidmaaDoor
