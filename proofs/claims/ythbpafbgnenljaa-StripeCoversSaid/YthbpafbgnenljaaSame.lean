/- The walk of the reference's Same, at two rows that are the same. -/
import Derived.Test.YthbpafbgnenljaaPieces3
namespace Go.Proofs.Ythbpafbgnenljaa
open Go.RowKit

theorem pc_eq (p : Pc) (w : World) : (binOp .neq 37 (pcV p) (pcV p)).run Try.prog w = .ok (.bool false) w := by
  go_simp

set_option maxHeartbeats 800000 in
theorem same_any (a b : Value) (l : List Pc) (w : World) (hl : l.length ≤ 1000) (ha : Sl w 4 a l.length (pcCells l)) (hb : Sl w 4 b l.length (pcCells l)) :
    Calls Try.prog 16 #[a, b] w fun e w' => e = .returned (.bool true) ∧ Below w.heap.size w w' := by
  rcases ha.2 with ⟨rfl, h0⟩ | ⟨ba, oa, ca, rfl, hla, hca, hxa⟩
  · obtain rfl : l = [] := List.eq_nil_of_length_eq_zero h0
    rcases hb.2 with ⟨rfl, h0⟩ | ⟨bb, ob, cb, rfl, hlb, hcb, hxb⟩
    · clear ha hb h0 hl
      go_enter Try.func16, Try.ntmps16
      go_wp2
      refine wp_loop_once ?_
      go_wp2
      go_ret
      exact ⟨rfl, Below.refl _ _⟩
    · clear ha hb h0 hl hxb
      go_enter Try.func16, Try.ntmps16
      go_wp2
      refine wp_loop_once ?_
      go_wp2
      go_ret
      exact ⟨rfl, Below.refl _ _⟩
  · rcases hb.2 with ⟨rfl, h0⟩ | ⟨bb, ob, cb, rfl, hlb, hcb, hxb⟩
    · obtain rfl : l = [] := List.eq_nil_of_length_eq_zero h0
      clear ha hb h0 hl hxa
      go_enter Try.func16, Try.ntmps16
      go_wp2
      refine wp_loop_once ?_
      go_wp2
      go_ret
      exact ⟨rfl, Below.refl _ _⟩
    · clear ha hb
      go_enter Try.func16, Try.ntmps16
      go_wp2
      go_loopw [5] (fun i wr => ∃ k : Nat, k ≤ l.length ∧ i = .int .i64 k ∧ ∃ nq, wr = w.drewN nq) (fun i _ => l.length - (intOf i).toNat)
      case atStart => exact ⟨0, Nat.zero_le _, rfl, 0, rfl⟩
      case round =>
        obtain ⟨k, hk, rfl, nq, rfl⟩ := hrel
        by_cases hlt : k < l.length
        · have hq := pcCells_at l k hlt
          have a0 : w.cell? ⟨ba, oa + k * 4, none⟩ = some (.int .i64 l[k].ob) := (hxa _ (by omega)).trans hq.1
          have a1 : w.cell? ⟨ba, oa + k * 4 + 1, none⟩ = some (.int .i64 l[k].off) := (show _ = _ from (hxa (k * 4 + 1) (by omega))).trans hq.2.1
          have a2 : w.cell? ⟨ba, oa + k * 4 + 2, none⟩ = some (.int .i64 l[k].len) := (show _ = _ from (hxa (k * 4 + 2) (by omega))).trans hq.2.2.1
          have a3 : w.cell? ⟨ba, oa + k * 4 + 3, none⟩ = some (.int .i64 l[k].fr) := (show _ = _ from (hxa (k * 4 + 3) (by omega))).trans hq.2.2.2
          have b0 : w.cell? ⟨bb, ob + k * 4, none⟩ = some (.int .i64 l[k].ob) := (hxb _ (by omega)).trans hq.1
          have b1 : w.cell? ⟨bb, ob + k * 4 + 1, none⟩ = some (.int .i64 l[k].off) := (show _ = _ from (hxb (k * 4 + 1) (by omega))).trans hq.2.1
          have b2 : w.cell? ⟨bb, ob + k * 4 + 2, none⟩ = some (.int .i64 l[k].len) := (show _ = _ from (hxb (k * 4 + 2) (by omega))).trans hq.2.2.1
          have b3 : w.cell? ⟨bb, ob + k * 4 + 3, none⟩ = some (.int .i64 l[k].fr) := (show _ = _ from (hxb (k * 4 + 3) (by omega))).trans hq.2.2.2
          generalize l[k] = p at *
          clear hq hxa hxb
          go_wp2
          go_quiet (fail)
          have T := Lib.hid (pc_eq p)
          go_wp2
          go_roundw
          case rel => exact ⟨k + 1, by omega, by go_num, _, rfl⟩
          case measure => simp [intOf]; omega
        · go_wp2
          go_ret
          exact ⟨rfl, below_drewN (Below.refl _ _) _⟩
end Go.Proofs.Ythbpafbgnenljaa
