/- Proved: for every row of picks and every client, terrazzolaw16.RpcOnce answers true, and its arguments read afterwards as before. No condition. -/
import Derived.Test.YtidikciankcopaaDoorRowL
import Derived.Test.YtidikciankcopaaDoorTab
import Derived.Test.YtidikciankcopaaDoorOnce16
import Derived.Test.YtidikciankcopaaDoorCards
import Derived.Test.YtidikciankcopaaDoorTie
import Derived.SevenTiedAt
import Derived.Lay
namespace Go.Proofs.YtidikciankcopaaDoor
open Go.ChangeShapes Go.WideShapes Go.ChangeAt Go.RowKit

theorem intCells : Tryd.prog.cellsOf 3 = 1 := by kernel_rfl
section
variable {H : Type} {enc : TypeId × Value → H}
set_option maxRecDepth 100000 in
theorem open_row {W : World} {base : Nat} {v : Value} {d : DataW H} {p : List MemPlace} (hv : Value.okWide Tryd.prog W .any base 69 v)
    (h : DataW.Trod enc Tryd.prog W 0 (fun _ => true) true 69 v d p) : ∃ a n c l, v = .slice a n c ∧ PickR W a n l := by
  obtain ⟨a1, len, cap, rfl⟩ := okWide_slice Tryd.underlying69 hv
  obtain ⟨fuel, hf⟩ := h
  rcases open_ints Tryd.underlying69 Tryd.underlying3 intCells hf with ⟨hcs, hx⟩ | ⟨a, len', cap', zs, hcs, _, hl, hm, hz, hx, hcell, hwz⟩
  · simp [Value.cells] at hcs
    obtain ⟨rfl, rfl, rfl⟩ := hcs
    exact ⟨_, _, _, [], rfl, rfl, fun k hk => by omega⟩
  · simp [Value.cells] at hcs
    obtain ⟨rfl, rfl, rfl⟩ := hcs
    simp only [if_true] at hz
    refine ⟨_, _, _, zs.take len, rfl, by simp; omega, fun k hk => ?_⟩
    obtain ⟨b, off, rfl, hj⟩ := ints_at hcell (by omega)
    have := hj k (by omega)
    refine ⟨b, off, rfl, ?_⟩
    rw [this]
    have hkz : k < zs.length := by omega
    simp [List.getD_eq_getElem?_getD, hkz]
set_option maxRecDepth 100000 in
theorem open_once {W : World} {base : Nat} {args : Array Value} {ds : List (DataW H)} {p : List MemPlace}
    (hval : ∀ (j : Nat) t v, (#[69, 3] : Array TypeId)[j]? = some t → args[j]? = some v → Value.okWide Tryd.prog W .any base t v)
    (h : DataW.TrodAll enc Tryd.prog W 0 (fun _ => true) true [69, 3] args.toList ds p) : ∃ a n c l x, args = #[.slice a n c, .int .i64 x] ∧ PickR W a n l := by
  obtain ⟨v0, v1, d0, d1, p0, p1, rfl, rfl, rfl, h0, h1⟩ := trodAll_two h
  obtain ⟨a1, n1, c1, l1, rfl, r1⟩ := open_row (hval 0 69 v0 rfl rfl) h0
  obtain ⟨x, rfl, rfl, rfl, wx⟩ := open_int Tryd.underlying3 (hval 1 3 v1 rfl rfl) h1
  exact ⟨a1, n1, c1, l1, x, rfl, r1⟩
end

set_option maxRecDepth 100000 in
theorem rpcOnce_lifted (os : Os) (started : os.Started) (H : Type) (enc : TypeId × Value → H) :
    ReturnsInHanded {} Tryd.checked os 6 .any (fun w args => (Rows.rpcOnceSpec.pre enc Tryd.prog Tryd.f6 [] false w args ∧ laidMetH Tryd.prog Rows.rpcOnceRow.laid w) ∧ sizedMet enc Tryd.prog Tryd.f6 (OpenSpec.ofChange Rows.rpcOnceSpec) false w args) (Rows.rpcOnceSpec.post enc Tryd.prog Tryd.f6 false true false false) := by
  refine lift_law_laid os started rfl rfl ?_ ?_ (by kernel_rfl) Tryd.func6
    (ChangeSpec.witness_shaped (enc := enc) (C := Tryd.checked) (os := os) (X := fun w _ => laidMetH Tryd.prog Rows.rpcOnceRow.laid w) false (World.laidAll Tryd.prog os Rows.rpcOnceRow.laid) #[.slice none 0 0, .int .i64 0] 8 (World.laidAll_os _ _ _)
      (World.shaped_of_ZipB (by kernel_rfl) (by kernel_rfl)) (by kernel_rfl) (by kernel_rfl) (by kernel_rfl)
      (by rw [MakeChecks.laidMetH_plain _ _ _ (by kernel_rfl)]; exact laidMet_laidAll _ (by kernel_rfl) (by kernel_rfl))) ?_
  · intro ds hn
    rw [Tryd.params6] at hn
    obtain ⟨d1, d2, rfl⟩ : ∃ d1 d2, ds = [d1, d2] := by match ds, hn with | [a, b], _ => exact ⟨a, b, rfl⟩
    exact ⟨rfl, rfl, rfl⟩
  · rw [Tryd.params6]
    intro t ht
    simp at ht
    rcases ht with rfl | rfl <;> exact ⟨by kernel_rfl, of_decide_eq_true (by kernel_rfl)⟩
  · intro W base args ds p hval hlt hfz hA hL
    rw [Tryd.params6] at hA hval
    obtain ⟨a, n, c, l, x, rfl, hr⟩ := open_once hval hA
    obtain ⟨hT, hg⟩ := tab_of_laid hL
    exact once_any a n c l x W hT hg hr
set_option maxRecDepth 100000 in
theorem rpcOnce_holds : Rows.RpcOnceSaid :=
  OpenClaim.holds_of_wide 6 Tryd.f6 rfl rfl rfl rfl rfl rfl rfl ⟨rfl, rfl, rfl, rfl, rfl⟩ rfl rfl rfl rfl rfl (by kernel_rfl) Tryd.func6 (by kernel_rfl)
    (of_decide_eq_true (by kernel_rfl)) (by unfold Func.isWrapper; first | (rw [if_pos (by decide +kernel)]; kernel_rfl) | (rw [if_neg (by decide +kernel)]; exact ⟨rfl, rfl⟩))
    (fun os started H enc _ => rpcOnce_lifted os started H enc)
set_option maxRecDepth 100000 in
theorem rpcOnce_card_holds : Rows.RpcOnceCardSaid :=
  Claim7.holds_tied_plain_at .later [] [.data, .data, .pinned] true (true, "7f9a4c32da41915d5c96ab085384fbea57c06600070d94d9e4b5cb0ac43421fc") true rpcOnce_holds (fun _ h => by cases h) (by kernel_rfl) (fun _ h => by cases h) rpcOnce_row_tie rfl ⟨rfl, rfl⟩ (by kernel_rfl) rfl
    (fun f fn hf hfn => by
      obtain rfl : f = 6 := Option.some.inj ((show Tryd.prog.funcNamed "terrazzo/terrazzolaw16.RpcOnce" = some 6 by kernel_rfl).symm.trans hf) |>.symm
      obtain rfl : fn = Tryd.f6 := (Option.some.inj (Tryd.func6.symm.trans hfn)).symm
      exact ⟨by kernel_rfl, fun j t ht => by
        rw [Tryd.params6] at ht
        have hm : t ∈ [69, 3] := by simpa using Array.mem_of_getElem? ht
        have hall : ([69, 3].all fun u => !Tryd.prog.wantsStandIn u) = true := by kernel_rfl
        exact (show Tryd.prog.wantsStandIn t = false by simpa using List.all_eq_true.1 hall t hm)⟩)
    (by kernel_rfl)
end Go.Proofs.YtidikciankcopaaDoor
