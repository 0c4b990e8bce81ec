/- Proved: for every script of acts, terrazzolaw16.RpcCaches answers true, and its argument reads afterwards as before. No condition. -/
import Derived.Test.YtidikciankcopaaDoorTab
import Derived.Test.YtidikciankcopaaDoorCchL
import Derived.Test.YtidikciankcopaaDoorCards
import Derived.Test.YtidikciankcopaaDoorTie
import Derived.SevenTiedAt
import Derived.Lay
namespace Go.Proofs.YtidikciankcopaaDoor
open Go.ChangeShapes Go.WideShapes Go.ChangeAt Go.RowKit Go.Joins

section
variable {H : Type} {enc : TypeId × Value → H}
set_option maxRecDepth 100000 in
theorem open_caches {W : World} {base : Nat} {args : Array Value} {ds : List (DataW H)} {p : List MemPlace}
    (hval : ∀ (j : Nat) t v, (#[22] : Array TypeId)[j]? = some t → args[j]? = some v → Value.okWide Tryd.prog W .any base t v)
    (h : DataW.TrodAll enc Tryd.prog W 0 (fun _ => true) true [22] args.toList ds p) : ∃ a n c l, args = #[.slice a n c] ∧ SlE Enc.act (Hp W) W (.slice a n c) l := by
  obtain ⟨v0, d0, rfl, rfl, h0⟩ := trodAll_one h
  obtain ⟨l, hl⟩ := opn_acts (hval 0 22 v0 rfl rfl) h0
  obtain ⟨a, c, rfl⟩ := hl.shape
  exact ⟨a, _, c, l, rfl, hl⟩
end

set_option maxRecDepth 100000 in
theorem rpcCaches_lifted (os : Os) (started : os.Started) (H : Type) (enc : TypeId × Value → H) :
    ReturnsInHanded {} Tryd.checked os 5 .any (fun w args => (Rows.rpcCachesSpec.pre enc Tryd.prog Tryd.f5 [] false w args ∧ laidMetH Tryd.prog Rows.rpcCachesRow.laid w) ∧ sizedMet enc Tryd.prog Tryd.f5 (OpenSpec.ofChange Rows.rpcCachesSpec) false w args) (Rows.rpcCachesSpec.post enc Tryd.prog Tryd.f5 false true false false) := by
  refine lift_law_laid os started rfl rfl ?_ ?_ (by kernel_rfl) Tryd.func5
    (ChangeSpec.witness_shaped (enc := enc) (C := Tryd.checked) (os := os) (X := fun w _ => laidMetH Tryd.prog Rows.rpcCachesRow.laid w) false (World.laidAll Tryd.prog os Rows.rpcCachesRow.laid) #[.slice none 0 0] 8 (World.laidAll_os _ _ _)
      (World.shaped_of_ZipB (by kernel_rfl) (by kernel_rfl)) (by kernel_rfl) (by kernel_rfl) (by kernel_rfl)
      (by rw [MakeChecks.laidMetH_plain _ _ _ (by kernel_rfl)]; exact laidMet_laidAll _ (by kernel_rfl) (by kernel_rfl))) ?_
  · intro ds hn
    rw [Tryd.params5] at hn
    obtain ⟨d1, rfl⟩ : ∃ d1, ds = [d1] := by match ds, hn with | [a], _ => exact ⟨a, rfl⟩
    exact ⟨rfl, rfl, rfl⟩
  · rw [Tryd.params5]
    intro t ht
    simp at ht
    rcases ht with rfl <;> exact ⟨by kernel_rfl, of_decide_eq_true (by kernel_rfl)⟩
  · intro W base args ds p hval hlt hfz hA hL
    rw [Tryd.params5] at hA hval
    obtain ⟨a, n, c, l, rfl, hl⟩ := open_caches hval hA
    obtain ⟨hT, hg⟩ := tab_of_laid hL
    exact caches_law a n c l W hT hg hl
set_option maxRecDepth 100000 in
theorem rpcCaches_holds : Rows.RpcCachesSaid :=
  OpenClaim.holds_of_wide 5 Tryd.f5 rfl rfl rfl rfl rfl rfl rfl ⟨rfl, rfl, rfl, rfl, rfl⟩ rfl rfl rfl rfl rfl (by kernel_rfl) Tryd.func5 (by kernel_rfl)
    (of_decide_eq_true (by kernel_rfl)) (by unfold Func.isWrapper; first | (rw [if_pos (by decide +kernel)]; kernel_rfl) | (rw [if_neg (by decide +kernel)]; exact ⟨rfl, rfl⟩))
    (fun os started H enc _ => rpcCaches_lifted os started H enc)
set_option maxRecDepth 100000 in
theorem rpcCaches_card_holds : Rows.RpcCachesCardSaid :=
  Claim7.holds_tied_plain_at .later [] [.data, .data, .pinned] true (true, "7f9a4c32da41915d5c96ab085384fbea57c06600070d94d9e4b5cb0ac43421fc") true rpcCaches_holds (fun _ h => by cases h) (by kernel_rfl) (fun _ h => by cases h) rpcCaches_row_tie rfl ⟨rfl, rfl⟩ (by kernel_rfl) rfl
    (fun f fn hf hfn => by
      obtain rfl : f = 5 := Option.some.inj ((show Tryd.prog.funcNamed "terrazzo/terrazzolaw16.RpcCaches" = some 5 by kernel_rfl).symm.trans hf) |>.symm
      obtain rfl : fn = Tryd.f5 := (Option.some.inj (Tryd.func5.symm.trans hfn)).symm
      exact ⟨by kernel_rfl, fun j t ht => by
        rw [Tryd.params5] at ht
        have hm : t ∈ [22] := by simpa using Array.mem_of_getElem? ht
        have hall : ([22].all fun u => !Tryd.prog.wantsStandIn u) = true := by kernel_rfl
        exact (show Tryd.prog.wantsStandIn t = false by simpa using List.all_eq_true.1 hall t hm)⟩)
    (by kernel_rfl)
end Go.Proofs.YtidikciankcopaaDoor
