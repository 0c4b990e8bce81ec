/- Proved: for every client, life and script of acts, terrazzolaw16.RpcSessions answers true, and its arguments read afterwards as before. No condition. -/
import Derived.Test.YtidikciankcopaaDoorTab
import Derived.Test.YtidikciankcopaaDoorSesL
import Derived.Test.YtidikciankcopaaDoorCards
import Derived.Test.YtidikciankcopaaDoorTie
import Derived.SevenTiedAt
import Derived.Lay
namespace Go.Proofs.YtidikciankcopaaDoor
open Go.ChangeShapes Go.WideShapes Go.ChangeAt Go.RowKit Go.Joins

section
variable {H : Type} {enc : TypeId × Value → H}
set_option maxRecDepth 100000 in
theorem open_sess {W : World} {base : Nat} {args : Array Value} {ds : List (DataW H)} {p : List MemPlace}
    (hval : ∀ (j : Nat) t v, (#[3, 3, 22] : Array TypeId)[j]? = some t → args[j]? = some v → Value.okWide Tryd.prog W .any base t v)
    (h : DataW.TrodAll enc Tryd.prog W 0 (fun _ => true) true [3, 3, 22] args.toList ds p) : ∃ x y a n c l, args = #[.int .i64 x, .int .i64 y, .slice a n c] ∧ SlE Enc.act (Hp W) W (.slice a n c) l := by
  obtain ⟨v0, v1, v2, d0, d1, d2, p0, p1, p2, rfl, rfl, rfl, h0, h1, h2⟩ := trodAll_three h
  obtain ⟨x, rfl, rfl, rfl, wx⟩ := open_int Tryd.underlying3 (hval 0 3 v0 rfl rfl) h0
  obtain ⟨y, rfl, rfl, rfl, wy⟩ := open_int Tryd.underlying3 (hval 1 3 v1 rfl rfl) h1
  obtain ⟨l, hl⟩ := opn_acts (hval 2 22 v2 rfl rfl) h2
  obtain ⟨a, c, rfl⟩ := hl.shape
  exact ⟨x, y, a, _, c, l, rfl, hl⟩
end

set_option maxRecDepth 100000 in
theorem rpcSessions_lifted (os : Os) (started : os.Started) (H : Type) (enc : TypeId × Value → H) :
    ReturnsInHanded {} Tryd.checked os 3 .any (fun w args => (Rows.rpcSessionsSpec.pre enc Tryd.prog Tryd.f3 [] false w args ∧ laidMetH Tryd.prog Rows.rpcSessionsRow.laid w) ∧ sizedMet enc Tryd.prog Tryd.f3 (OpenSpec.ofChange Rows.rpcSessionsSpec) false w args) (Rows.rpcSessionsSpec.post enc Tryd.prog Tryd.f3 false true false false) := by
  refine lift_law_laid os started rfl rfl ?_ ?_ (by kernel_rfl) Tryd.func3
    (ChangeSpec.witness_shaped (enc := enc) (C := Tryd.checked) (os := os) (X := fun w _ => laidMetH Tryd.prog Rows.rpcSessionsRow.laid w) false (World.laidAll Tryd.prog os Rows.rpcSessionsRow.laid) #[.int .i64 0, .int .i64 0, .slice none 0 0] 8 (World.laidAll_os _ _ _)
      (World.shaped_of_ZipB (by kernel_rfl) (by kernel_rfl)) (by kernel_rfl) (by kernel_rfl) (by kernel_rfl)
      (by rw [MakeChecks.laidMetH_plain _ _ _ (by kernel_rfl)]; exact laidMet_laidAll _ (by kernel_rfl) (by kernel_rfl))) ?_
  · intro ds hn
    rw [Tryd.params3] at hn
    obtain ⟨d1, d2, d3, rfl⟩ : ∃ d1 d2 d3, ds = [d1, d2, d3] := by match ds, hn with | [a, b, c], _ => exact ⟨a, b, c, rfl⟩
    exact ⟨rfl, rfl, rfl⟩
  · rw [Tryd.params3]
    intro t ht
    simp at ht
    rcases ht with rfl | rfl | rfl <;> exact ⟨by kernel_rfl, of_decide_eq_true (by kernel_rfl)⟩
  · intro W base args ds p hval hlt hfz hA hL
    rw [Tryd.params3] at hA hval
    obtain ⟨x, y, a, n, c, l, rfl, hl⟩ := open_sess hval hA
    obtain ⟨hT, hg⟩ := tab_of_laid hL
    exact sessions_law x y a n c l W hT hg hl
set_option maxRecDepth 100000 in
theorem rpcSessions_holds : Rows.RpcSessionsSaid :=
  OpenClaim.holds_of_wide 3 Tryd.f3 rfl rfl rfl rfl rfl rfl rfl ⟨rfl, rfl, rfl, rfl, rfl⟩ rfl rfl rfl rfl rfl (by kernel_rfl) Tryd.func3 (by kernel_rfl)
    (of_decide_eq_true (by kernel_rfl)) (by unfold Func.isWrapper; first | (rw [if_pos (by decide +kernel)]; kernel_rfl) | (rw [if_neg (by decide +kernel)]; exact ⟨rfl, rfl⟩))
    (fun os started H enc _ => rpcSessions_lifted os started H enc)
set_option maxRecDepth 100000 in
theorem rpcSessions_card_holds : Rows.RpcSessionsCardSaid :=
  Claim7.holds_tied_plain_at .later [] [.data, .data, .pinned] true (true, "7f9a4c32da41915d5c96ab085384fbea57c06600070d94d9e4b5cb0ac43421fc") true rpcSessions_holds (fun _ h => by cases h) (by kernel_rfl) (fun _ h => by cases h) rpcSessions_row_tie rfl ⟨rfl, rfl⟩ (by kernel_rfl) rfl
    (fun f fn hf hfn => by
      obtain rfl : f = 3 := Option.some.inj ((show Tryd.prog.funcNamed "terrazzo/terrazzolaw16.RpcSessions" = some 3 by kernel_rfl).symm.trans hf) |>.symm
      obtain rfl : fn = Tryd.f3 := (Option.some.inj (Tryd.func3.symm.trans hfn)).symm
      exact ⟨by kernel_rfl, fun j t ht => by
        rw [Tryd.params3] at ht
        have hm : t ∈ [3, 3, 22] := by simpa using Array.mem_of_getElem? ht
        have hall : ([3, 3, 22].all fun u => !Tryd.prog.wantsStandIn u) = true := by kernel_rfl
        exact (show Tryd.prog.wantsStandIn t = false by simpa using List.all_eq_true.1 hall t hm)⟩)
    (by kernel_rfl)
end Go.Proofs.YtidikciankcopaaDoor
