/- The walks of terrazzoref08.May and At. -/
import Derived.Test.YtlgefkaafoidmaaGreatDoorGM
namespace Go.Proofs.YtlgefkaafoidmaaGreatDoor
open Go.RowKit Go.WideShapes

theorem may_no {o : ObD} {k : Nat} (hlt : k < o.keys.length) (h : chkAt o.keys k = false) : mayB o = false := by
  cases hm : mayB o with
  | false => rfl
  | true =>
    unfold mayB at hm
    rw [Bool.and_eq_true] at hm
    rw [chkTo_at hm.2 k hlt] at h
    cases h
set_option maxRecDepth 100000 in
set_option maxHeartbeats 4000000 in
theorem rmay8_any (A : Nat → Prop) (v : Value) (o : ObD) (w : World) (hv : ObV A w v o) (hl : o.keys.length ≤ 100000) :
    Calls Tryz.prog 77 #[v] w (Says (mayB o) w) := by
  obtain ⟨dv, kv, rfl, hd, hk⟩ := hv
  obtain ⟨da, dc, rfl⟩ := hd.shape
  obtain ⟨ka, kc, rfl⟩ := hk.shape
  have HM : Hid (∀ k, k < o.keys.length → chkAt o.keys k = false → mayB o = false) := Lib.hid fun k => may_no
  have HMY : Hid (headB o = true → chkTo o.keys o.keys.length = true → mayB o = true) := Lib.hid fun h1 h2 => by unfold mayB; rw [h1, h2]; rfl
  have HMN : Hid (headB o = false → mayB o = false) := Lib.hid fun h => by unfold mayB; rw [h]; rfl
  have hc := headC o
  generalize mayB o = M at *
  generalize hhb : headB o = hb at *
  have HH := Lib.hid hhb
  clear hhb
  obtain ⟨od, ks, os⟩ := o
  simp only at *
  have HK := Lib.hid hk
  clear hd hk
  rcases hc with ⟨d1, d2, d3, d4⟩ | ⟨d1⟩ | ⟨d1, d2⟩ | ⟨d1, d2, d3⟩ | ⟨d1, d2, d3, d4⟩
  case no1 | no2 | no3 | no4 =>
    go_enter Tryz.func77, Tryz.ntmps77
    go_wp2
    go_ret
    exact ⟨ret_bool (HMN.out (by trivial)).symm, by ((repeat' (first | exact Below.refl _ _ | refine below_drewN ?_ _ | refine Below.drew ?_ | refine Below.alloc ?_ ?_ _ | refine Below.trans ?_ (Below.mono (by assumption) ?_))); all_goals (first | exact Nat.le_refl _ | exact Below.size (by assumption) | omega | (simp; done) | (simp; omega)))⟩
  go_enter Tryz.func77, Tryz.ntmps77
  go_wp2
  obtain ⟨w0, hw0⟩ : ∃ w0, w0 = w.alloc (.cells #[.slice da od.length dc, .slice ka ks.length kc, .int .i64 os] 38) := ⟨_, rfl⟩
  rw [← hw0]
  have hw : Below w.heap.size w w0 := by rw [hw0]; ((repeat' (first | exact Below.refl _ _ | refine below_drewN ?_ _ | refine Below.drew ?_ | refine Below.alloc ?_ ?_ _ | refine Below.trans ?_ (Below.mono (by assumption) ?_))); all_goals (first | exact Nat.le_refl _ | exact Below.size (by assumption) | omega | (simp; done) | (simp; omega)))
  have B0 : w0.heap[w.heap.size]? = some (.cells #[.slice da od.length dc, .slice ka ks.length kc, .int .i64 os] 38 (0, 0)) := by rw [hw0]; exact heap_alloc_new _ _
  have HW := Lib.hid hw
  have HK0 := Lib.hid (HK.out.ext hw)
  obtain ⟨x1, f1⟩ := blk_cell (i := 1) B0
  simp at x1
  clear hw hw0 B0 HK
  go_loopw [3] (fun q wr => ∃ k : Nat, k ≤ ks.length ∧ q = .int .i64 k ∧ chkTo ks k = true ∧ ∃ n, wr = w0.drewN n) (fun q _ => ks.length - (intOf q).toNat)
  case atStart => exact ⟨0, Nat.zero_le _, rfl, rfl, 0, rfl⟩
  case round =>
    obtain ⟨k, hk, rfl, hto, nq, rfl⟩ := hrel
    have HTO := Lib.hid hto
    clear hto
    by_cases hlt : k < ks.length
    · obtain ⟨b, off, v, rfl, hb, -, c3, c4, hv⟩ := Keys.at HK0.out hlt
      obtain ⟨va, vc, rfl⟩ := hv.shape
      clear hv
      have HCA : Hid (chkAt ks k = (keyB ks[k] && ordB ks k)) := chkAt_eq hlt
      have HNO : Hid (chkAt ks k = false → M = false) := Lib.hid fun h => HM.out k hlt h
      have HYE : Hid (chkAt ks k = true → chkTo ks (k + 1) = true) := Lib.hid fun h => by simp [chkTo, HTO.out, h]
      have hord : Hid (∀ j, k = j + 1 → ∃ pn, ordB ks k = ltS pn (ks[k]).name ∧ w0.cell? ⟨b, off + j * 2, none⟩ = some (.string pn)) := by
        intro j hj
        subst hj
        obtain ⟨b', off', v', e', -, -, c3', -, -⟩ := Keys.at HK0.out (i := j) (by omega)
        simp only [Option.some.injEq, Addr.mk.injEq] at e'
        obtain ⟨rfl, rfl, -⟩ := e'
        exact ⟨_, ordB_succ hlt, c3'⟩
      generalize hky : ks[k] = ky at *
      clear hky
      go_wp2_with fail
      refine (rname_any _ _).mono ?_
      rintro e w' ⟨rfl, rfl⟩
      cases hn : nameB ky.name with
      | false =>
        have HX : Hid (M = false) := Lib.hid (HNO.out (by rw [HCA.out]; simp [keyB, hn]))
        clear hn
        go_wp2
        go_big_quiet (fail)
        go_wp2
        go_ret
        exact ⟨ret_bool HX.out.symm, below_drewN (below_drewN HW.out _) _⟩
      | true =>
        by_cases hv : (ky.value.length : Int) ≤ 2048
        · have HKB : Hid (keyB ky = true) := by show keyB ky = true; simp only [keyB, hn, Bool.true_and, decide_eq_true_eq]; omega
          have hvd : decide ((2048 : Int) < ky.value.length) = false := by simp; omega
          clear hn
          rcases Nat.eq_zero_or_pos k with h0 | hp
          · have HO : Hid (ordB ks k = true) := by show ordB ks k = true; rw [h0]; rfl
            have HX : Hid (chkTo ks (k + 1) = true) := Lib.hid (HYE.out (by rw [HCA.out, HKB.out, HO.out]; rfl))
            subst h0
            simp only [Nat.zero_mul, Nat.add_zero, Int.ofNat_zero] at *
            go_wp2
            go_big_quiet (fail)
            go_wp2
            go_roundw
            case rel => exact ⟨1, by omega, by go_num, HX.out, _, rfl⟩
            case measure => simp [intOf]; omega
          · obtain ⟨j, hj⟩ : ∃ j, k = j + 1 := ⟨k - 1, by omega⟩
            obtain ⟨pn, e1, z0⟩ := hord.out j hj
            have hk0 : decide ((0 : Int) < k) = true := by simp; omega
            have hk1 : decide (0 < k) = true := by simp; omega
            have hw1 : IntKind.i64.wrap ((k : Int) - 1) = (j : Int) := by rw [IntKind.wrap_i64]; omega
            have hjl : (j : Int) < ks.length := by omega
            cases hlt2 : Op.bytesLess pn.toList ky.name.toList with
            | true =>
              have HO : Hid (ordB ks k = true) := e1.trans hlt2
              have HX : Hid (chkTo ks (k + 1) = true) := Lib.hid (HYE.out (by rw [HCA.out, HKB.out, HO.out]; rfl))
              clear e1 hj
              go_wp2
              go_big_quiet (fail)
              go_wp2
              go_roundw
              case rel => exact ⟨k + 1, by omega, by go_num, HX.out, _, rfl⟩
              case measure => simp [intOf]; omega
            | false =>
              have HO : Hid (ordB ks k = false) := e1.trans hlt2
              have HX : Hid (M = false) := Lib.hid (HNO.out (by rw [HCA.out, HKB.out, HO.out]; rfl))
              clear e1 hj
              go_wp2
              go_big_quiet (fail)
              go_wp2
              go_ret
              exact ⟨ret_bool HX.out.symm, below_drewN (below_drewN HW.out _) _⟩
        · have HKB : Hid (keyB ky = false) := by show keyB ky = false; simp only [keyB, hn, Bool.true_and, decide_eq_false_iff_not]; omega
          have HX : Hid (M = false) := Lib.hid (HNO.out (by rw [HCA.out, HKB.out]; rfl))
          have hvd : decide ((2048 : Int) < ky.value.length) = true := by simp; omega
          clear hn
          go_wp2
          go_big_quiet (fail)
          go_wp2
          go_ret
          exact ⟨ret_bool HX.out.symm, below_drewN (below_drewN HW.out _) _⟩
    · obtain rfl : k = ks.length := by omega
      go_wp2
      go_ret
      exact ⟨ret_bool (HMY.out (by trivial) HTO.out).symm, below_drewN HW.out _⟩
end Go.Proofs.YtlgefkaafoidmaaGreatDoor
