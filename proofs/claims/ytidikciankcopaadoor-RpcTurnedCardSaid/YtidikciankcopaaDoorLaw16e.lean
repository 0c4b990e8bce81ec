/- Proved: for every request, place and bit, terrazzolaw16.RpcTurned answers true, and its arguments read afterwards as before. No condition. -/
import Derived.Test.YtidikciankcopaaDoorOpenD
import Derived.Test.YtidikciankcopaaDoorTab
import Derived.Test.YtidikciankcopaaDoorTrnL
import Derived.Test.YtidikciankcopaaDoorCards
import Derived.Test.YtidikciankcopaaDoorTie
import Derived.SevenTiedAt
import Derived.Lay
namespace Go.Proofs.YtidikciankcopaaDoor
open Go.ChangeShapes Go.WideShapes Go.ChangeAt Go.RowKit Go.Joins

section
variable {H : Type} {enc : TypeId × Value → H}
set_option maxRecDepth 100000 in
theorem open_turned {W : World} {base : Nat} {args : Array Value} {ds : List (DataW H)} {p : List MemPlace}
    (hval : ∀ (j : Nat) t v, (#[30, 3, 5] : Array TypeId)[j]? = some t → args[j]? = some v → Value.okWide Tryd.prog W .any base t v)
    (h : DataW.TrodAll enc Tryd.prog W 0 (fun _ => true) true [30, 3, 5] args.toList ds p) : ∃ v0 x y q, args = #[v0, .int .i64 x, .int .u8 y] ∧ RqV (Hp W) W v0 q ∧ (0 ≤ y ∧ y ≤ 255) := by
  obtain ⟨v0, v1, v2, d0, d1, d2, p0, p1, p2, rfl, rfl, rfl, h0, h1, h2⟩ := trodAll_three h
  obtain ⟨q, hq⟩ := open_rq (hval 0 30 v0 rfl rfl) h0
  obtain ⟨x, rfl, rfl, rfl, wx⟩ := open_int Tryd.underlying3 (hval 1 3 v1 rfl rfl) h1
  obtain ⟨y, rfl, rfl, rfl, wy⟩ := open_int Tryd.underlying5 (hval 2 5 v2 rfl rfl) h2
  exact ⟨v0, x, y, q, rfl, hq, by simpa [Lit.wf, IntKind.min, IntKind.max, IntKind.signed, IntKind.bits] using wy⟩
end

set_option maxRecDepth 100000 in
theorem rpcTurned_lifted (os : Os) (started : os.Started) (H : Type) (enc : TypeId × Value → H) :
    ReturnsInHanded {} Tryd.checked os 4 .any (fun w args => (Rows.rpcTurnedSpec.pre enc Tryd.prog Tryd.f4 [] false w args ∧ laidMetH Tryd.prog Rows.rpcTurnedRow.laid w) ∧ sizedMet enc Tryd.prog Tryd.f4 (OpenSpec.ofChange Rows.rpcTurnedSpec) false w args) (Rows.rpcTurnedSpec.post enc Tryd.prog Tryd.f4 false true false false) := by
  refine lift_law_laid os started rfl rfl ?_ ?_ (by kernel_rfl) Tryd.func4
    (ChangeSpec.witness_shaped (enc := enc) (C := Tryd.checked) (os := os) (X := fun w _ => laidMetH Tryd.prog Rows.rpcTurnedRow.laid w) false (World.laidAll Tryd.prog os Rows.rpcTurnedRow.laid) #[.agg #[.int .i64 0, .int .i64 0, .int .i64 0, .int .i64 0, .int .i64 0, .int .i64 0, .int .i64 0, .string ByteArray.empty, .slice none 0 0], .int .i64 0, .int .u8 0] 8 (World.laidAll_os _ _ _)
      (World.shaped_of_ZipB (by kernel_rfl) (by kernel_rfl)) (by kernel_rfl) (by kernel_rfl) (by kernel_rfl)
      (by rw [MakeChecks.laidMetH_plain _ _ _ (by kernel_rfl)]; exact laidMet_laidAll _ (by kernel_rfl) (by kernel_rfl))) ?_
  · intro ds hn
    rw [Tryd.params4] at hn
    obtain ⟨d1, d2, d3, rfl⟩ : ∃ d1 d2 d3, ds = [d1, d2, d3] := by match ds, hn with | [a, b, c], _ => exact ⟨a, b, c, rfl⟩
    exact ⟨rfl, rfl, rfl⟩
  · rw [Tryd.params4]
    intro t ht
    simp at ht
    rcases ht with rfl | rfl | rfl <;> exact ⟨by kernel_rfl, of_decide_eq_true (by kernel_rfl)⟩
  · intro W base args ds p hval hlt hfz hA hL
    rw [Tryd.params4] at hA hval
    obtain ⟨v0, x, y, q, rfl, hq, hy⟩ := open_turned hval hA
    obtain ⟨hT, hg⟩ := tab_of_laid hL
    exact turned_law _ v0 q x y W hT hg hq hy
set_option maxRecDepth 100000 in
theorem rpcTurned_holds : Rows.RpcTurnedSaid :=
  OpenClaim.holds_of_wide 4 Tryd.f4 rfl rfl rfl rfl rfl rfl rfl ⟨rfl, rfl, rfl, rfl, rfl⟩ rfl rfl rfl rfl rfl (by kernel_rfl) Tryd.func4 (by kernel_rfl)
    (of_decide_eq_true (by kernel_rfl)) (by unfold Func.isWrapper; first | (rw [if_pos (by decide +kernel)]; kernel_rfl) | (rw [if_neg (by decide +kernel)]; exact ⟨rfl, rfl⟩))
    (fun os started H enc _ => rpcTurned_lifted os started H enc)
set_option maxRecDepth 100000 in
theorem rpcTurned_card_holds : Rows.RpcTurnedCardSaid :=
  Claim7.holds_tied_plain_at .later [] [.data, .data, .pinned] true (true, "7f9a4c32da41915d5c96ab085384fbea57c06600070d94d9e4b5cb0ac43421fc") true rpcTurned_holds (fun _ h => by cases h) (by kernel_rfl) (fun _ h => by cases h) rpcTurned_row_tie rfl ⟨rfl, rfl⟩ (by kernel_rfl) rfl
    (fun f fn hf hfn => by
      obtain rfl : f = 4 := Option.some.inj ((show Tryd.prog.funcNamed "terrazzo/terrazzolaw16.RpcTurned" = some 4 by kernel_rfl).symm.trans hf) |>.symm
      obtain rfl : fn = Tryd.f4 := (Option.some.inj (Tryd.func4.symm.trans hfn)).symm
      exact ⟨by kernel_rfl, fun j t ht => by
        rw [Tryd.params4] at ht
        have hm : t ∈ [30, 3, 5] := by simpa using Array.mem_of_getElem? ht
        have hall : ([30, 3, 5].all fun u => !Tryd.prog.wantsStandIn u) = true := by kernel_rfl
        exact (show Tryd.prog.wantsStandIn t = false by simpa using List.all_eq_true.1 hall t hm)⟩)
    (by kernel_rfl)
end Go.Proofs.YtidikciankcopaaDoor
