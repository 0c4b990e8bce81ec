/- The walks of txn.right and txn.Check. -/
import Derived.Test.YtgdilkhaopnhaaaGreatDoorMB
namespace Go.Proofs.YtgdilkhaopnhaaaGreatDoor
open Go.RowKit Go.WideShapes

def opP (o : OpD) : Prop := 1 ≤ o.kind ∧ o.kind ≤ 14 ∧ 0 ≤ o.off ∧ o.off ≤ 1099511627776 ∧ 0 ≤ o.n ∧ o.n ≤ 1099511627776 ∧ (o.name.size : Int) ≤ 12 ∧ (o.data.length : Int) ≤ 2048
instance (o : OpD) : Decidable (opP o) := by unfold opP; infer_instance
def opB (o : OpD) : Bool := decide (opP o)
set_option maxRecDepth 100000 in
set_option maxHeartbeats 4000000 in
theorem tright_any (o : OpD) (a : Option Addr) (c : Nat) (w : World) : Calls Tryz.prog 30 #[.agg #[.int .i64 o.kind, .int .i64 o.off, .int .i64 o.n, .string o.name, .slice a o.data.length c]] w fun e w' => e = .returned (.bool (opB o)) ∧ Below w.heap.size w w' := by
  obtain ⟨k, f, n, nm, d⟩ := o
  simp only
  by_cases h0 : (1 : Int) ≤ k
  · by_cases h1 : k ≤ (14 : Int)
    · by_cases h2 : (0 : Int) ≤ f
      · by_cases h3 : f ≤ (1099511627776 : Int)
        · by_cases h4 : (0 : Int) ≤ n
          · by_cases h5 : n ≤ (1099511627776 : Int)
            · by_cases h6 : (nm.size : Int) ≤ 12
              · by_cases h7 : (d.length : Int) ≤ 2048
                · have HV : Hid (opB ⟨k, f, n, nm, d⟩ = true) := by show opB _ = _; simp only [opB, opP]; exact decide_eq_true (by omega)
                  go_enter Tryz.func30, Tryz.ntmps30
                  go_wp2
                  go_ret
                  exact ⟨by rw [HV.out]; rfl, by ((repeat' (first | exact Below.refl _ _ | refine below_drewN ?_ _ | refine Below.drew ?_ | refine Below.alloc ?_ ?_ _ | refine Below.trans ?_ (Below.mono (by assumption) ?_))); all_goals (first | exact Nat.le_refl _ | exact Below.size (by assumption) | omega | (simp; done) | (simp; omega)))⟩
                · have HV : Hid (opB ⟨k, f, n, nm, d⟩ = false) := by show opB _ = _; simp only [opB, opP]; exact decide_eq_false (by omega)
                  go_enter Tryz.func30, Tryz.ntmps30
                  go_wp2
                  go_ret
                  exact ⟨by rw [HV.out]; rfl, by ((repeat' (first | exact Below.refl _ _ | refine below_drewN ?_ _ | refine Below.drew ?_ | refine Below.alloc ?_ ?_ _ | refine Below.trans ?_ (Below.mono (by assumption) ?_))); all_goals (first | exact Nat.le_refl _ | exact Below.size (by assumption) | omega | (simp; done) | (simp; omega)))⟩
              · have HV : Hid (opB ⟨k, f, n, nm, d⟩ = false) := by show opB _ = _; simp only [opB, opP]; exact decide_eq_false (by omega)
                go_enter Tryz.func30, Tryz.ntmps30
                go_wp2
                go_ret
                exact ⟨by rw [HV.out]; rfl, by ((repeat' (first | exact Below.refl _ _ | refine below_drewN ?_ _ | refine Below.drew ?_ | refine Below.alloc ?_ ?_ _ | refine Below.trans ?_ (Below.mono (by assumption) ?_))); all_goals (first | exact Nat.le_refl _ | exact Below.size (by assumption) | omega | (simp; done) | (simp; omega)))⟩
            · have HV : Hid (opB ⟨k, f, n, nm, d⟩ = false) := by show opB _ = _; simp only [opB, opP]; exact decide_eq_false (by omega)
              go_enter Tryz.func30, Tryz.ntmps30
              go_wp2
              go_ret
              exact ⟨by rw [HV.out]; rfl, by ((repeat' (first | exact Below.refl _ _ | refine below_drewN ?_ _ | refine Below.drew ?_ | refine Below.alloc ?_ ?_ _ | refine Below.trans ?_ (Below.mono (by assumption) ?_))); all_goals (first | exact Nat.le_refl _ | exact Below.size (by assumption) | omega | (simp; done) | (simp; omega)))⟩
          · have HV : Hid (opB ⟨k, f, n, nm, d⟩ = false) := by show opB _ = _; simp only [opB, opP]; exact decide_eq_false (by omega)
            go_enter Tryz.func30, Tryz.ntmps30
            go_wp2
            go_ret
            exact ⟨by rw [HV.out]; rfl, by ((repeat' (first | exact Below.refl _ _ | refine below_drewN ?_ _ | refine Below.drew ?_ | refine Below.alloc ?_ ?_ _ | refine Below.trans ?_ (Below.mono (by assumption) ?_))); all_goals (first | exact Nat.le_refl _ | exact Below.size (by assumption) | omega | (simp; done) | (simp; omega)))⟩
        · have HV : Hid (opB ⟨k, f, n, nm, d⟩ = false) := by show opB _ = _; simp only [opB, opP]; exact decide_eq_false (by omega)
          go_enter Tryz.func30, Tryz.ntmps30
          go_wp2
          go_ret
          exact ⟨by rw [HV.out]; rfl, by ((repeat' (first | exact Below.refl _ _ | refine below_drewN ?_ _ | refine Below.drew ?_ | refine Below.alloc ?_ ?_ _ | refine Below.trans ?_ (Below.mono (by assumption) ?_))); all_goals (first | exact Nat.le_refl _ | exact Below.size (by assumption) | omega | (simp; done) | (simp; omega)))⟩
      · have HV : Hid (opB ⟨k, f, n, nm, d⟩ = false) := by show opB _ = _; simp only [opB, opP]; exact decide_eq_false (by omega)
        go_enter Tryz.func30, Tryz.ntmps30
        go_wp2
        go_ret
        exact ⟨by rw [HV.out]; rfl, by ((repeat' (first | exact Below.refl _ _ | refine below_drewN ?_ _ | refine Below.drew ?_ | refine Below.alloc ?_ ?_ _ | refine Below.trans ?_ (Below.mono (by assumption) ?_))); all_goals (first | exact Nat.le_refl _ | exact Below.size (by assumption) | omega | (simp; done) | (simp; omega)))⟩
    · have HV : Hid (opB ⟨k, f, n, nm, d⟩ = false) := by show opB _ = _; simp only [opB, opP]; exact decide_eq_false (by omega)
      go_enter Tryz.func30, Tryz.ntmps30
      go_wp2
      go_ret
      exact ⟨by rw [HV.out]; rfl, by ((repeat' (first | exact Below.refl _ _ | refine below_drewN ?_ _ | refine Below.drew ?_ | refine Below.alloc ?_ ?_ _ | refine Below.trans ?_ (Below.mono (by assumption) ?_))); all_goals (first | exact Nat.le_refl _ | exact Below.size (by assumption) | omega | (simp; done) | (simp; omega)))⟩
  · have HV : Hid (opB ⟨k, f, n, nm, d⟩ = false) := by show opB _ = _; simp only [opB, opP]; exact decide_eq_false (by omega)
    go_enter Tryz.func30, Tryz.ntmps30
    go_wp2
    go_ret
    exact ⟨by rw [HV.out]; rfl, by ((repeat' (first | exact Below.refl _ _ | refine below_drewN ?_ _ | refine Below.drew ?_ | refine Below.alloc ?_ ?_ _ | refine Below.trans ?_ (Below.mono (by assumption) ?_))); all_goals (first | exact Nat.le_refl _ | exact Below.size (by assumption) | omega | (simp; done) | (simp; omega)))⟩
/-- what Check tells of a transaction -/
def txE (t : TxD) : Int := if 12 < t.ops.length then 2 else if nameB t.obj && t.ops.all opB then 0 else 1
theorem all_succ (ops : List OpD) (k : Nat) (hk : k < ops.length) : (ops.take (k + 1)).all opB = ((ops.take k).all opB && opB ops[k]) := by
  rw [List.take_succ_eq_append_getElem hk, List.all_append]
  simp
set_option maxRecDepth 100000 in
set_option maxHeartbeats 4000000 in
theorem tcheck_any (A : Nat → Prop) (t : TxD) (va : Value) (w : World) (h : SlE Enc.op A w va t.ops) : Calls Tryz.prog 13 #[.agg #[.string t.obj, va]] w fun e w' => e = .returned (.int .i64 (txE t)) ∧ Below w.heap.size w w' := by
  obtain ⟨a, c, rfl⟩ := h.shape
  obtain ⟨ob, ops⟩ := t
  simp only at *
  have HS := Lib.hid h
  clear h
  by_cases hl : 12 < ops.length
  · have hl' : (12 : Int) < ops.length := by omega
    have HV : Hid (txE ⟨ob, ops⟩ = 2) := if_pos hl
    go_enter Tryz.func13, Tryz.ntmps13
    go_wp2
    go_ret
    exact ⟨by rw [HV.out]; rfl, by ((repeat' (first | exact Below.refl _ _ | refine below_drewN ?_ _ | refine Below.drew ?_ | refine Below.alloc ?_ ?_ _ | refine Below.trans ?_ (Below.mono (by assumption) ?_))); all_goals (first | exact Nat.le_refl _ | exact Below.size (by assumption) | omega | (simp; done) | (simp; omega)))⟩
  · have hl' : ¬ (12 : Int) < ops.length := by omega
    go_enter Tryz.func13, Tryz.ntmps13
    go_wp2_with fail
    refine (named_any ob _).mono ?_
    rintro e w1 ⟨rfl, hb1⟩
    have B1 := Lib.hid ((hb1.block w.heap.size (by simp)).trans (heap_alloc_new w _))
    have HW : Hid (Below w.heap.size w w1) := ((Below.refl _ w).alloc (Nat.le_refl _) _).trans (hb1.mono (by simp))
    have HS1 := Lib.hid (HS.out.ext HW.out)
    obtain ⟨x1, -⟩ := blk_cell (i := 1) B1.out
    simp at x1
    have lx := (Array.getElem?_eq_some_iff.1 B1.out).1
    have HB0 : Hid (nameB ob = (nameB ob && (ops.take 0).all opB)) := by show _ = _; simp
    have HV : Hid (txE ⟨ob, ops⟩ = if (nameB ob && (ops.take ops.length).all opB) then 0 else 1) := by show _ = _; rw [List.take_length]; exact if_neg hl
    clear hb1 HS
    generalize nameB ob = NB at *
    go_wp2
    go_loopw [3, 16] (fun q3 q16 wr => ∃ (k : Nat) (bb : Bool), k ≤ ops.length ∧ q16 = .int .i64 k ∧ q3 = .bool bb ∧ Hid (bb = (NB && (ops.take k).all opB)) ∧ Below w1.heap.size w1 wr) (fun _ q16 _ => ops.length - (intOf q16).toNat)
    case atStart => exact ⟨0, _, Nat.zero_le _, rfl, rfl, HB0, Below.refl _ _⟩
    case round =>
      obtain ⟨k, bb, hk, rfl, rfl, HBB, hbr⟩ := hrel
      have HBR := Lib.hid hbr
      have hsr := hbr.size
      clear hbr HB0
      by_cases hlt : k < ops.length
      · have HAS := Lib.hid (all_succ ops k hlt)
        obtain ⟨b, off, v, rfl, hb, -, c0, c1, c2, c3, c4, hv⟩ := Ops.at (HS1.out.ext HBR.out) hlt
        obtain ⟨va, vc, rfl⟩ := hv.shape
        clear hv
        generalize ops[k] = o at *
        cases bb with
        | false =>
          have HN : Hid (false = (NB && (ops.take (k + 1)).all opB)) := by
            show _ = _
            rw [HAS.out, ← Bool.and_assoc, ← HBB.out]
            rfl
          clear HAS HBB
          go_wp2
          go_roundw
          case rel => exact ⟨k + 1, _, by omega, by go_num, rfl, HN, HBR.out.trans (Below.mono (by ((repeat' (first | exact Below.refl _ _ | refine below_drewN ?_ _ | refine Below.drew ?_ | refine Below.alloc ?_ ?_ _ | refine Below.trans ?_ (Below.mono (by assumption) ?_))); all_goals (first | exact Nat.le_refl _ | exact Below.size (by assumption) | omega | (simp; done) | (simp; omega))) : Below wr.heap.size wr _) hsr)⟩
          case measure => simp [intOf]; omega
        | true =>
          have HN : Hid (opB o = (NB && (ops.take (k + 1)).all opB)) := by
            show _ = _
            rw [HAS.out, ← Bool.and_assoc, ← HBB.out, Bool.true_and]
          clear HAS HBB
          obtain ⟨k1, f1, n1, nm1, d1⟩ := o
          simp only at c0 c1 c2 c3 c4
          go_wp2_with fail
          refine (tright_any ⟨k1, f1, n1, nm1, d1⟩ va vc _).mono ?_
          rintro e w5 ⟨rfl, hb5⟩
          generalize opB ⟨k1, f1, n1, nm1, d1⟩ = OB at *
          have HB5 : Hid (Below w1.heap.size w1 w5) := HBR.out.trans (((Below.refl _ wr).alloc (Nat.le_refl _) _).trans (hb5.mono (by simp)) |>.mono hsr)
          clear hb5
          go_wp2
          go_roundw
          case rel => exact ⟨k + 1, _, by omega, by go_num, rfl, HN, HB5.out⟩
          case measure => simp [intOf]; omega
      · obtain rfl : k = ops.length := by omega
        cases bb with
        | false =>
          go_wp2
          go_ret
          exact ⟨by rw [HV.out, ← HBB.out]; rfl, HW.out.trans (HBR.out.mono HW.out.size)⟩
        | true =>
          go_wp2
          go_ret
          exact ⟨by rw [HV.out, ← HBB.out]; rfl, HW.out.trans (HBR.out.mono HW.out.size)⟩
end Go.Proofs.YtgdilkhaopnhaaaGreatDoor
