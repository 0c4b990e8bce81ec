/- The walk of terrazzoref01.Ints, at two rows that are the same. -/
import Derived.Test.YtiikkglgoanpbaaLib
import Derived.Test.YtiikkglgoanpbaaChecked
namespace Go.Proofs.Ytiikkglgoanpbaa
open Go.RowKit

set_option maxRecDepth 100000 in
set_option maxHeartbeats 800000 in
theorem ints_same (a b : Value) (l : List Int) (n : Nat) (w : World) (hn : n = l.length) (hl : n ≤ 1000000) (ha : Sl w 1 a n (l.map (Value.int .i64))) (hb : Sl w 1 b n (l.map (Value.int .i64))) :
    Calls Try.prog 15 #[a, b] w fun e w' => e = .returned (.bool true) ∧ Below w.heap.size w w' := by
  subst hn
  have key : ∀ aa bb : Option Addr, ∀ ca cb : Nat, l.length ≤ 0 → Calls Try.prog 15 #[.slice aa l.length ca, .slice bb l.length cb] w fun e w' => e = .returned (.bool true) ∧ Below w.heap.size w w' := by
    intro aa bb ca cb h0
    clear ha hb hl
    go_enter Try.func15, Try.ntmps15
    go_wp2
    refine wp_loop_once ?_
    go_wp2
    go_ret
    exact ⟨rfl, Below.refl _ _⟩
  rcases Nat.lt_or_ge 0 l.length with hp | hp
  · rcases ha.2 with ⟨_, h0⟩ | ⟨ba, oa, ca, rfl, hla, hca, hxa⟩
    · omega
    rcases hb.2 with ⟨_, h0⟩ | ⟨bb, ob, cb, rfl, hlb, hcb, hxb⟩
    · omega
    clear ha hb key hp
    go_enter Try.func15, Try.ntmps15
    go_wp2
    go_loopw [5] (fun i wr => ∃ k : Nat, k ≤ l.length ∧ i = .int .i64 k ∧ ∃ nq, wr = w.drewN nq) (fun i _ => l.length - (intOf i).toNat)
    case atStart => exact ⟨0, Nat.zero_le _, rfl, 0, rfl⟩
    case round =>
      obtain ⟨k, hk, rfl, nq, rfl⟩ := hrel
      by_cases hlt : k < l.length
      · have hq : (l.map (Value.int .i64))[k]? = some (.int .i64 l[k]) := by rw [List.getElem?_map, List.getElem?_eq_getElem hlt]; rfl
        have a0 : w.cell? ⟨ba, oa + k, none⟩ = some (.int .i64 l[k]) := (hxa _ (by omega)).trans hq
        have b0 : w.cell? ⟨bb, ob + k, none⟩ = some (.int .i64 l[k]) := (hxb _ (by omega)).trans hq
        generalize l[k] = p at *
        clear hq hxa hxb
        go_wp2
        go_quiet (fail)
        go_wp2
        go_roundw
        case rel => exact ⟨k + 1, by omega, by go_num, _, rfl⟩
        case measure => simp [intOf]; omega
      · go_wp2
        go_ret
        exact ⟨rfl, below_drewN (Below.refl _ _) _⟩
  · obtain ⟨aa, ca, rfl⟩ : ∃ aa ca, a = .slice aa l.length ca := by
      rcases ha.2 with ⟨rfl, h0⟩ | ⟨ba, oa, ca, rfl, _⟩
      · exact ⟨_, _, by rw [h0]⟩
      · exact ⟨_, _, rfl⟩
    obtain ⟨bb, cb, rfl⟩ : ∃ bb cb, b = .slice bb l.length cb := by
      rcases hb.2 with ⟨rfl, h0⟩ | ⟨bb, ob, cb, rfl, _⟩
      · exact ⟨_, _, by rw [h0]⟩
      · exact ⟨_, _, rfl⟩
    exact key _ _ _ _ hp
end Go.Proofs.Ytiikkglgoanpbaa
