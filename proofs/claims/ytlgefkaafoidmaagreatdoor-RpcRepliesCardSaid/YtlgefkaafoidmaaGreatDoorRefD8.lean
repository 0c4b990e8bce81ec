/- The walk of terrazzoref08.Same at any two objects. -/
import Derived.Test.YtlgefkaafoidmaaGreatDoorGM
namespace Go.Proofs.YtlgefkaafoidmaaGreatDoor
open Go.RowKit Go.WideShapes

theorem neBL (l m : List UInt8) : ((⟨l.toArray⟩ : ByteArray).toList != (⟨m.toArray⟩ : ByteArray).toList) = !decide (l = m) := by
  rw [bne, eqBL]
theorem neL (a b : ByteArray) : (a.toList != b.toList) = !decide (a = b) := by
  rw [bne, eqL]
theorem eqAt_eq {xs ys : List KyD} {k : Nat} (h1 : k < xs.length) (h2 : k < ys.length) : eqAt xs ys k = keyEq xs[k] ys[k] := by
  unfold eqAt
  rw [List.getElem?_eq_getElem h1, List.getElem?_eq_getElem h2]
set_option maxRecDepth 100000 in
set_option maxHeartbeats 8000000 in
theorem rsame_any (A B : Nat → Prop) (a b : ObD) (va vb : Value) (w : World) (ha : ObV A w va a) (hb : ObV B w vb b) (hl : a.keys.length ≤ 100000) (hl2 : b.keys.length ≤ 100000) :
    Calls Tryz.prog 52 #[va, vb] w (Says (sameB a b) w) := by
  obtain ⟨dva, kva, rfl, hda, hka⟩ := ha
  obtain ⟨dvb, kvb, rfl, hdb, hkb⟩ := hb
  obtain ⟨daa, dca, rfl⟩ := hda.shape
  obtain ⟨dab, dcb, rfl⟩ := hdb.shape
  obtain ⟨aa, ca, rfl⟩ := hka.shape
  obtain ⟨ab, cb, rfl⟩ := hkb.shape
  obtain ⟨S, hS⟩ : ∃ S, sameB a b = S := ⟨_, rfl⟩
  rw [hS]
  have HS := Lib.hid hS
  clear hS
  obtain ⟨od, ks, os⟩ := a
  obtain ⟨od', ks', os'⟩ := b
  simp only at *
  have HA := Lib.hid hka
  have HB := Lib.hid hkb
  have t1 : ∀ o1 o2, (Go.convert 27 9 (.slice daa od.length dca)).run Tryz.prog ((w.alloc o1).alloc o2) = .ok (.string ⟨od.toArray⟩) ((w.alloc o1).alloc o2) := fun o1 o2 => cnv_bytes hda _ (by ((repeat' (first | exact Below.refl _ _ | refine below_drewN ?_ _ | refine Below.drew ?_ | refine Below.alloc ?_ ?_ _ | refine Below.trans ?_ (Below.mono (by assumption) ?_))); all_goals (first | exact Nat.le_refl _ | exact Below.size (by assumption) | omega | (simp; done) | (simp; omega))))
  have t2 : ∀ o1 o2, (Go.convert 27 9 (.slice dab od'.length dcb)).run Tryz.prog ((w.alloc o1).alloc o2) = .ok (.string ⟨od'.toArray⟩) ((w.alloc o1).alloc o2) := fun o1 o2 => cnv_bytes hdb _ (by ((repeat' (first | exact Below.refl _ _ | refine below_drewN ?_ _ | refine Below.drew ?_ | refine Below.alloc ?_ ?_ _ | refine Below.trans ?_ (Below.mono (by assumption) ?_))); all_goals (first | exact Nat.le_refl _ | exact Below.size (by assumption) | omega | (simp; done) | (simp; omega))))
  clear hka hkb hda hdb
  by_cases h1 : od = od'
  case neg =>
    have HX : Hid (S = false) := by show S = false; rw [← HS.out]; simp [sameB, h1]
    have q1 := eqBL od od'
    rw [decide_eq_false h1] at q1
    have q1n : (od == od') = false := by simpa using h1
    clear h1
    go_enter Tryz.func52, Tryz.ntmps52
    go_wp2
    go_ret
    exact ⟨ret_bool HX.out.symm, by ((repeat' (first | exact Below.refl _ _ | refine below_drewN ?_ _ | refine Below.drew ?_ | refine Below.alloc ?_ ?_ _ | refine Below.trans ?_ (Below.mono (by assumption) ?_))); all_goals (first | exact Nat.le_refl _ | exact Below.size (by assumption) | omega | (simp; done) | (simp; omega)))⟩
  subst h1
  by_cases h2 : os = os'
  case neg =>
    have HX : Hid (S = false) := by show S = false; rw [← HS.out]; simp [sameB, h2]
    have q2 : (os != os') = true := by simpa using h2
    have q3 : (os == os') = false := by simpa using h2
    clear h2
    go_enter Tryz.func52, Tryz.ntmps52
    go_wp2
    go_ret
    exact ⟨ret_bool HX.out.symm, by ((repeat' (first | exact Below.refl _ _ | refine below_drewN ?_ _ | refine Below.drew ?_ | refine Below.alloc ?_ ?_ _ | refine Below.trans ?_ (Below.mono (by assumption) ?_))); all_goals (first | exact Nat.le_refl _ | exact Below.size (by assumption) | omega | (simp; done) | (simp; omega)))⟩
  subst h2
  by_cases h3 : ks.length = ks'.length
  case neg =>
    have HX : Hid (S = false) := by show S = false; rw [← HS.out]; simp [sameB, sameK, h3]
    have q2 : ((ks.length : Int) != ks'.length) = true := by simp; omega
    have q3 : ((ks.length : Int) == ks'.length) = false := by simp; omega
    have q4 : (ks.length != ks'.length) = true := by simp; omega
    have q5 : (ks.length == ks'.length) = false := by simp; omega
    clear h3
    go_enter Tryz.func52, Tryz.ntmps52
    go_wp2
    go_ret
    exact ⟨ret_bool HX.out.symm, by ((repeat' (first | exact Below.refl _ _ | refine below_drewN ?_ _ | refine Below.drew ?_ | refine Below.alloc ?_ ?_ _ | refine Below.trans ?_ (Below.mono (by assumption) ?_))); all_goals (first | exact Nat.le_refl _ | exact Below.size (by assumption) | omega | (simp; done) | (simp; omega)))⟩
  have q2 : ((ks.length : Int) != ks'.length) = false := by simp; omega
  have q3 : ((ks.length : Int) == ks'.length) = true := by simp; omega
  have q4 : (ks.length != ks'.length) = false := by simp; omega
  have q5 : (ks.length == ks'.length) = true := by simp; omega
  have H3 := Lib.hid h3
  have HY : Hid (eqTo ks ks' ks.length = true → S = true) := by show _ → S = true; intro h; rw [← HS.out]; simp [sameB, sameK, h3, h3 ▸ h]
  have HN : Hid (∀ k, k < ks.length → eqAt ks ks' k = false → S = false) := by show ∀ k, _; intro k hk h; rw [← HS.out]; simp [sameB, sameK, eqTo_not hk h]
  clear h3
  go_enter Tryz.func52, Tryz.ntmps52
  go_wp2
  obtain ⟨w0, hw0⟩ : ∃ w0, w0 = (w.alloc (.cells #[.slice daa od.length dca, .slice aa ks.length ca, .int .i64 os] 38)).alloc (.cells #[.slice dab od.length dcb, .slice ab ks'.length cb, .int .i64 os] 38) := ⟨_, rfl⟩
  rw [← hw0]
  have B0 : w0.heap[w.heap.size]? = some (.cells #[.slice daa od.length dca, .slice aa ks.length ca, .int .i64 os] 38 (0, 0)) := by rw [hw0]; exact (Below.heap_alloc _ _ _ (by simp)).trans (heap_alloc_new _ _)
  have B1 : w0.heap[w.heap.size + 1]? = some (.cells #[.slice dab od.length dcb, .slice ab ks'.length cb, .int .i64 os] 38 (0, 0)) := by rw [hw0]; exact heap_alloc2_new _ _ _
  have hw : Below w.heap.size w w0 := by rw [hw0]; ((repeat' (first | exact Below.refl _ _ | refine below_drewN ?_ _ | refine Below.drew ?_ | refine Below.alloc ?_ ?_ _ | refine Below.trans ?_ (Below.mono (by assumption) ?_))); all_goals (first | exact Nat.le_refl _ | exact Below.size (by assumption) | omega | (simp; done) | (simp; omega)))
  have HA0 := Lib.hid (HA.out.ext hw)
  have HB0 := Lib.hid (HB.out.ext hw)
  have HW := Lib.hid hw
  obtain ⟨x1, f1⟩ := blk_cell (i := 1) B0
  obtain ⟨y1, g1⟩ := blk_cell (i := 1) B1
  simp at x1 y1
  clear hw0 hw B0 B1 HA HB t1 t2 q2 q3 q4 q5
  go_loopw [5] (fun q wr => ∃ k : Nat, k ≤ ks.length ∧ q = .int .i64 k ∧ eqTo ks ks' k = true ∧ ∃ n, wr = w0.drewN n) (fun q _ => ks.length - (intOf q).toNat)
  case atStart => exact ⟨0, Nat.zero_le _, rfl, rfl, 0, rfl⟩
  case round =>
    obtain ⟨k, hk, rfl, hto, nq, rfl⟩ := hrel
    have HTO := Lib.hid hto
    clear hto
    by_cases hlt : k < ks.length
    · have hlt2 : k < ks'.length := by have := H3.out; omega
      obtain ⟨b, off, v, rfl, hb, -, c3, c4, hv⟩ := Keys.at HA0.out hlt
      obtain ⟨b', off', v', rfl, hb', -, d3, d4, hv'⟩ := Keys.at HB0.out hlt2
      obtain ⟨va, vc, rfl⟩ := hv.shape
      obtain ⟨va', vc', rfl⟩ := hv'.shape
      have s1 : ∀ n, (Go.convert 27 9 (.slice va (ks[k]).value.length vc)).run Tryz.prog (w0.drewN n) = .ok (.string ⟨(ks[k]).value.toArray⟩) (w0.drewN n) := fun n => cnv_bytes hv _ (below_drewN (Below.refl _ _) _)
      have s2 : ∀ n, (Go.convert 27 9 (.slice va' (ks'[k]).value.length vc')).run Tryz.prog (w0.drewN n) = .ok (.string ⟨(ks'[k]).value.toArray⟩) (w0.drewN n) := fun n => cnv_bytes hv' _ (below_drewN (Below.refl _ _) _)
      have HEQ : Hid (eqAt ks ks' k = keyEq ks[k] ks'[k]) := eqAt_eq hlt hlt2
      have HNO : Hid (eqAt ks ks' k = false → S = false) := Lib.hid fun h => HN.out k hlt h
      have HYE : Hid (eqAt ks ks' k = true → eqTo ks ks' (k + 1) = true) := Lib.hid fun h => by simp [eqTo, HTO.out, h]
      generalize hky : ks[k] = x at *
      generalize hky' : ks'[k] = y at *
      clear hky hky' hv hv'
      by_cases hn : x.name = y.name
      · have e1 := eqL x.name y.name
        rw [decide_eq_true hn] at e1
        have e1n := neL x.name y.name
        rw [decide_eq_true hn] at e1n
        by_cases hv : x.value = y.value
        · have HX : Hid (eqTo ks ks' (k + 1) = true) := Lib.hid (HYE.out (by rw [HEQ.out]; simp [keyEq, hn, hv]))
          have e2 := eqBL x.value y.value
          rw [decide_eq_true hv] at e2
          have e2n : (x.value == y.value) = true := by simpa using hv
          clear hn hv
          go_wp2
          go_big_quiet (fail)
          go_wp2
          go_roundw
          case rel => exact ⟨k + 1, by omega, by go_num, HX.out, _, rfl⟩
          case measure => simp [intOf]; omega
        · have HX : Hid (S = false) := Lib.hid (HNO.out (by rw [HEQ.out]; simp [keyEq, hv]))
          have e2 := eqBL x.value y.value
          rw [decide_eq_false hv] at e2
          have e2n : (x.value == y.value) = false := by simpa using hv
          clear hn hv
          go_wp2
          go_big_quiet (fail)
          go_wp2
          go_ret
          exact ⟨ret_bool HX.out.symm, below_drewN (below_drewN HW.out _) _⟩
      · have HX : Hid (S = false) := Lib.hid (HNO.out (by rw [HEQ.out]; simp [keyEq, hn]))
        have e1 := eqL x.name y.name
        rw [decide_eq_false hn] at e1
        have e1n := neL x.name y.name
        rw [decide_eq_false hn] at e1n
        clear hn
        go_wp2
        go_big_quiet (fail)
        go_wp2
        go_ret
        exact ⟨ret_bool HX.out.symm, below_drewN (below_drewN HW.out _) _⟩
    · obtain rfl : k = ks.length := by omega
      go_wp2
      go_ret
      exact ⟨ret_bool (HY.out HTO.out).symm, below_drewN HW.out _⟩
end Go.Proofs.YtlgefkaafoidmaaGreatDoor
