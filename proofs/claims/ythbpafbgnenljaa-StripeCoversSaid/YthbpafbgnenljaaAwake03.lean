/- The laws' example: awake. -/
import Derived.Test.YthbpafbgnenljaaSame
import Derived.Test.YthbpafbgnenljaaAfter
namespace Go.Proofs.Ythbpafbgnenljaa
open Go.RowKit

theorem ex_pl : PO 2 3 4 7 = 0 ∧ PK 2 3 4 7 = 3 ∧ BK 2 3 4 0 3 = 7 ∧ OB 2 3 4 13 = 4 ∧ ckE 2 3 4 = 0 := by decide
theorem ex_pcs : PCS 2 3 4 1 4 = [⟨0, 1, 1, 0⟩, ⟨1, 0, 2, 1⟩, ⟨2, 0, 1, 3⟩] := by rfl
theorem ex_rm : Rm 2 3 4 0 7 3 := by
  refine Rm.yes (by decide) (by omega) (by omega) (by omega) (by omega) ⟨by omega, by omega, fun k k0 k1 => ?_⟩
  obtain rfl | rfl | rfl | rfl : k = 0 ∨ k = 1 ∨ k = 2 ∨ k = 3 := by omega
  all_goals decide

set_option maxHeartbeats 1600000 in
theorem awake_any (w : World) : Calls Try.prog 9 #[] w fun e w' => e = .returned (.bool true) ∧ Below w.heap.size w w' := by
  obtain ⟨p1, p2, p3, p4, p5⟩ := ex_pl
  have P1 := Lib.hid p1
  have P2 := Lib.hid p2
  have P3 := Lib.hid p3
  have P4 := Lib.hid p4
  have P5 := Lib.hid p5
  clear p1 p2 p3 p4 p5
  go_enter Try.func9, Try.ntmps9
  go_wp2_with fail
  refine (place_any _ _ _ _ _).mono ?_
  rintro e w1 ⟨rfl, hb⟩
  rw [P1.out, P2.out]
  have x0 : w1.cell? ⟨w.heap.size, 0, none⟩ = some (.int .i64 2) := cellExt hb (by simp)
  have x1 : w1.cell? ⟨w.heap.size, 1, none⟩ = some (.int .i64 3) := cellExt hb (by simp)
  have x2 : w1.cell? ⟨w.heap.size, 2, none⟩ = some (.int .i64 4) := cellExt hb (by simp)
  have hB : Below w.heap.size w w1 := by (repeat' (first | exact Below.refl _ _ | refine below_drewN ?_ _ | refine Below.drew ?_ | refine Below.alloc ?_ (by first | exact Nat.le_refl _ | (simp; done) | (simp; omega)) _ | (refine Below.trans ?_ (Below.mono (by assumption) (by first | exact Nat.le_refl _ | (simp; done) | (simp; omega))))))
  clear hb
  go_wp2_with fail
  refine (pieces_any _ _ _ _ _ _).mono ?_
  rintro e w2 ⟨v, rfl, hv, hb⟩
  rw [ex_pcs] at hv
  replace x0 := cellExt hb x0
  replace x1 := cellExt hb x1
  replace x2 := cellExt hb x2
  replace hB := hB.trans (hb.mono hB.size)
  clear hb
  obtain ⟨hx, ⟨rfl, h0⟩ | ⟨b, off, cap, rfl, hlt, hc, hr⟩⟩ := hv
  · simp at h0
  have y0 : w2.cell? ⟨b, off + 1 * 4, none⟩ = some (.int .i64 1) := (hr (1 * 4) (by simp)).trans rfl
  have y1 : w2.cell? ⟨b, off + 1 * 4 + 1, none⟩ = some (.int .i64 0) := (show _ = _ from (hr (1 * 4 + 1) (by simp))).trans rfl
  have y2 : w2.cell? ⟨b, off + 1 * 4 + 2, none⟩ = some (.int .i64 2) := (show _ = _ from (hr (1 * 4 + 2) (by simp))).trans rfl
  have y3 : w2.cell? ⟨b, off + 1 * 4 + 3, none⟩ = some (.int .i64 1) := (show _ = _ from (hr (1 * 4 + 3) (by simp))).trans rfl
  clear hr hx hlt hc
  go_wp2_with fail
  refine (check_any _ _ _ _).mono ?_
  rintro e w3 ⟨rfl, hb⟩
  rw [P5.out]
  replace x0 := cellExt hb x0
  replace x1 := cellExt hb x1
  replace x2 := cellExt hb x2
  replace y0 := cellExt hb y0
  replace y1 := cellExt hb y1
  replace y2 := cellExt hb y2
  replace y3 := cellExt hb y3
  replace hB := hB.trans (hb.mono hB.size)
  clear hb
  go_wp2_with fail
  refine (back_any _ _ _ _ _ _).mono ?_
  rintro e w4 ⟨rfl, hb⟩
  rw [P3.out]
  replace x0 := cellExt hb x0
  replace x1 := cellExt hb x1
  replace x2 := cellExt hb x2
  replace hB := hB.trans (hb.mono hB.size)
  replace y0 := cellExt hb y0
  replace y1 := cellExt hb y1
  replace y2 := cellExt hb y2
  replace y3 := cellExt hb y3
  clear hb
  go_wp2_with fail
  refine (objects_any _ _ _ _ _).mono ?_
  rintro e w5 ⟨rfl, hb⟩
  rw [P4.out]
  replace x0 := cellExt hb x0
  replace x1 := cellExt hb x1
  replace x2 := cellExt hb x2
  replace hB := hB.trans (hb.mono hB.size)
  clear hb y0 y1 y2 y3
  go_wp2_with fail
  refine (room_any _ _ _ _ _ _).mono ?_
  rintro e w6 ⟨r, rfl, hr, hb⟩
  obtain rfl := Rm.one hr ex_rm
  replace hB := hB.trans (hb.mono hB.size)
  clear hb hr
  go_wp2_with fail
  go_ret
  exact ⟨rfl, hB⟩
end Go.Proofs.Ythbpafbgnenljaa
