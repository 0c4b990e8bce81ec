/- The walks of the laws StripePlaces, StripePieces, StripeRooms. -/
import Derived.Test.YthbpafbgnenljaaAwake03
namespace Go.Proofs.Ythbpafbgnenljaa
open Go.RowKit

noncomputable def rmF (u c o ob s : Int) : Int := @Classical.epsilon _ ⟨0⟩ (Rm u c o ob s)
theorem rm_eq {u c o ob s r : Int} (h : Rm u c o ob s r) : r = rmF u c o ob s := h.one (@Classical.epsilon_spec _ (Rm u c o ob s) ⟨r, h⟩)
theorem room_det (u c o ob s : Int) (w : World) :
    Calls Try.prog 21 #[lay u c o, .int .i64 ob, .int .i64 s] w fun e w' => e = .returned (.int .i64 (rmF u c o ob s)) ∧ Below w.heap.size w w' :=
  (room_any u c o ob s w).mono fun _ _ ⟨r, he, hr, hb⟩ => ⟨by rw [he, rm_eq hr], hb⟩
theorem refRoom_det (u c o ob s : Int) (w : World) :
    Calls Try.prog 22 #[lay u c o, .int .i64 ob, .int .i64 s] w fun e w' => e = .returned (.int .i64 (rmF u c o ob s)) ∧ Below w.heap.size w w' :=
  (refRoom_any u c o ob s w).mono fun _ _ ⟨r, he, hr, hb⟩ => ⟨by rw [he, rm_eq hr], hb⟩

set_option maxHeartbeats 800000 in
theorem law_rooms (u c o ob s : Int) (w : World) :
    Calls Try.prog 5 #[lay u c o, .int .i64 ob, .int .i64 s] w fun e w' => e = .returned (.bool true) ∧ Below w.heap.size w w' := by
  go_enter Try.func5, Try.ntmps5
  go_wp2_with (go_at_call 9; refine (awake_any _).mono ?_; rintro e w1 ⟨rfl, hb⟩)
  have x0 : ∀ n : After w1, n.w.cell? ⟨w.heap.size, 0, none⟩ = some (.int .i64 u) := after_cell (cellExt hb (by simp))
  have x1 : ∀ n : After w1, n.w.cell? ⟨w.heap.size, 1, none⟩ = some (.int .i64 c) := after_cell (cellExt hb (by simp))
  have x2 : ∀ n : After w1, n.w.cell? ⟨w.heap.size, 2, none⟩ = some (.int .i64 o) := after_cell (cellExt hb (by simp))
  have hB : Below w.heap.size w w1 := by ((repeat' (first | exact Below.refl _ _ | refine below_drewN ?_ _ | refine Below.drew ?_ | refine Below.alloc ?_ ?_ _ | refine Below.trans ?_ (Below.mono (by assumption) ?_))); all_goals (first | exact Nat.le_refl _ | exact Below.size (by assumption) | omega | (simp; done) | (simp; omega)))
  (refine wp_region_after (by kernel_rfl) (by kernel_rfl) ?_
   repeat (first | go_big_quiet_skip | (go_big_quiet_want; go_big_quiet_op; (first | go_big_quiet_on | (apply Exists.intro; refine ⟨fun _ => ?_, ?_⟩; (focus ((first | (go_at_call 19; exact calls_after (objects_any _ _ _ _ _)) | (go_at_call 20; exact calls_after (refObjects_any _ _ _ _ _)) | (go_at_call 21; exact calls_after (room_det _ _ _ _ _ _)) | (go_at_call 22; exact calls_after (refRoom_det _ _ _ _ _ _))))); go_big_quiet_on))))
   refine wpQuiet_nil ?_
   intro _ hw'
   obtain ⟨nq, hw''⟩ := hw'
   subst hw''
   have hq := nq.h)
  go_wp2
  go_ret
  exact ⟨rfl, by ((repeat' (first | exact Below.refl _ _ | refine below_drewN ?_ _ | refine Below.drew ?_ | refine Below.alloc ?_ ?_ _ | refine Below.trans ?_ (Below.mono (by assumption) ?_))); all_goals (first | exact Nat.le_refl _ | exact Below.size (by assumption) | omega | (simp; done) | (simp; omega)))⟩

set_option maxHeartbeats 1600000 in
theorem law_places (u c o off ob : Int) (w : World) :
    Calls Try.prog 3 #[lay u c o, .int .i64 off, .int .i64 ob] w fun e w' => e = .returned (.bool true) ∧ Below w.heap.size w w' := by
  cases hok : okB u c o
  all_goals
    have HK := Lib.hid hok
    clear hok
    go_enter Try.func3, Try.ntmps3
    go_wp2_with fail
    refine (awake_any _).mono ?_
    rintro e w1 ⟨rfl, hb⟩
    have x0 : w1.cell? ⟨w.heap.size, 0, none⟩ = some (.int .i64 u) := cellExt hb (by simp)
    have x1 : w1.cell? ⟨w.heap.size, 1, none⟩ = some (.int .i64 c) := cellExt hb (by simp)
    have x2 : w1.cell? ⟨w.heap.size, 2, none⟩ = some (.int .i64 o) := cellExt hb (by simp)
    have hB : Below w.heap.size w w1 := by ((repeat' (first | exact Below.refl _ _ | refine below_drewN ?_ _ | refine Below.drew ?_ | refine Below.alloc ?_ ?_ _ | refine Below.trans ?_ (Below.mono (by assumption) ?_))); all_goals (first | exact Nat.le_refl _ | exact Below.size (by assumption) | omega | (simp; done) | (simp; omega)))
    clear hb
    go_wp2_with fail
    refine (refMay_any _ _ _ _).mono ?_
    rintro e w2 ⟨rfl, hb⟩
    rw [HK.out]
    replace x0 := cellExt hb x0
    replace x1 := cellExt hb x1
    replace x2 := cellExt hb x2
    replace hB := hB.trans (hb.mono hB.size)
    clear hb
    go_wp2_with fail
    refine (place_any _ _ _ _ _).mono ?_
    rintro e w3 ⟨rfl, hb⟩
    replace x0 := cellExt hb x0
    replace x1 := cellExt hb x1
    replace x2 := cellExt hb x2
    replace hB := hB.trans (hb.mono hB.size)
    clear hb
    go_wp2_with fail
    refine (refPlace_any _ _ _ _ _).mono ?_
    rintro e w4 ⟨rfl, hb⟩
    replace x0 := after_cell (cellExt hb x0)
    replace x1 := after_cell (cellExt hb x1)
    replace x2 := after_cell (cellExt hb x2)
    replace hB := hB.trans (hb.mono hB.size)
    clear hb
    go_wp2_with fail
    (refine wp_region_after (by kernel_rfl) (by kernel_rfl) ?_
     repeat (first | go_big_quiet_skip | (go_big_quiet_want; go_big_quiet_op; (first | go_big_quiet_on | (apply Exists.intro; refine ⟨fun _ => ?_, ?_⟩; (focus ((first | (go_at_call 13; exact calls_after (check_ok _ _ _ _ HK.out)) | (go_at_call 13; exact calls_after (check_no _ _ _ _ HK.out)) | (go_at_call 15; exact calls_after (refBack_any _ _ _ _ _ _)) | (go_at_call 14; exact calls_after (back_any _ _ _ _ _ _))))); go_big_quiet_on))))
     refine wpQuiet_nil ?_
     intro _ hw'
     obtain ⟨nq, hw''⟩ := hw'
     subst hw''
     have hq := nq.h)
    go_wp2
    go_ret
    exact ⟨rfl, by ((repeat' (first | exact Below.refl _ _ | refine below_drewN ?_ _ | refine Below.drew ?_ | refine Below.alloc ?_ ?_ _ | refine Below.trans ?_ (Below.mono (by assumption) ?_))); all_goals (first | exact Nat.le_refl _ | exact Below.size (by assumption) | omega | (simp; done) | (simp; omega)))⟩

theorem length_PCS (u c o off n : Int) : (PCS u c o off n).length ≤ 1000 := by
  unfold PCS
  split
  · rename_i h
    simp only [Bool.and_eq_true, decide_eq_true_eq] at h
    have := length_pcs u c o off n.toNat
    omega
  · simp

set_option maxHeartbeats 1600000 in
theorem law_pieces (u c o off n : Int) (w : World) :
    Calls Try.prog 4 #[lay u c o, .int .i64 off, .int .i64 n] w fun e w' => e = .returned (.bool true) ∧ Below w.heap.size w w' := by
  go_enter Try.func4, Try.ntmps4
  go_wp2_with fail
  refine (awake_any _).mono ?_
  rintro e w1 ⟨rfl, hb⟩
  have x0 : w1.cell? ⟨w.heap.size, 0, none⟩ = some (.int .i64 u) := cellExt hb (by simp)
  have x1 : w1.cell? ⟨w.heap.size, 1, none⟩ = some (.int .i64 c) := cellExt hb (by simp)
  have x2 : w1.cell? ⟨w.heap.size, 2, none⟩ = some (.int .i64 o) := cellExt hb (by simp)
  have hB : Below w.heap.size w w1 := by ((repeat' (first | exact Below.refl _ _ | refine below_drewN ?_ _ | refine Below.drew ?_ | refine Below.alloc ?_ ?_ _ | refine Below.trans ?_ (Below.mono (by assumption) ?_))); all_goals (first | exact Nat.le_refl _ | exact Below.size (by assumption) | omega | (simp; done) | (simp; omega)))
  clear hb
  go_wp2_with fail
  go_region_held3 (fun w' => w'.cell? ⟨w.heap.size, 0, none⟩ = some (.int .i64 u) ∧ w'.cell? ⟨w.heap.size, 1, none⟩ = some (.int .i64 c) ∧ w'.cell? ⟨w.heap.size, 2, none⟩ = some (.int .i64 o))
    (first | go_keep | (go_split_ands; refine ⟨cellExt hbC (by assumption), cellExt hbC (by assumption), cellExt hbC (by assumption)⟩) | (go_split_ands; refine ⟨cellExt hbB (by assumption), cellExt hbB (by assumption), cellExt hbB (by assumption)⟩) | (go_split_ands; refine ⟨cellExt hbA (by assumption), cellExt hbA (by assumption), cellExt hbA (by assumption)⟩))
    (first | (go_at_call 17; refine (pieces_any _ _ _ _ _ _).mono ?_; rintro e w2 ⟨v1, rfl, hv1, hbA⟩) | (go_at_call 18; refine (refPieces_any _ _ _ _ _ _).mono ?_; rintro e w3 ⟨v2, rfl, hv2, hbB⟩) | (go_at_call 16; refine (same_any _ _ (PCS u c o off n) _ (length_PCS _ _ _ _ _) (hv1.mono hbB) hv2).mono ?_; rintro e w4 ⟨rfl, hbC⟩))
  replace hB := (hB.drew.trans (hbA.mono hB.size)).trans ((hbB.mono (Nat.le_trans hB.size hbA.size)).trans (hbC.mono (Nat.le_trans (Nat.le_trans hB.size hbA.size) hbB.size)))
  go_wp2
  go_ret
  exact ⟨rfl, hB⟩
end Go.Proofs.Ythbpafbgnenljaa
