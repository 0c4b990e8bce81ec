/- The walks of the references' Same, at data that are the same. The walks of terrazzoref16.SameRequest and SameReply, at data that are the same. -/
import Derived.Test.YtlgefkaafoidmaaGreatDoorGI
namespace Go.Proofs.YtlgefkaafoidmaaGreatDoor
open Go.RowKit Go.WideShapes

/-- a call that answers yes and makes nothing but memory -/
def Yes (w : World) (e : Ending) (w' : World) : Prop := e = .returned (.bool true) ∧ Below w.heap.size w w'
set_option maxRecDepth 100000 in
set_option maxHeartbeats 4000000 in
theorem same09_yes (A B : Nat → Prop) (t : TxD) (va vb : Value) (w : World) (ha : SlE Enc.op A w va t.ops) (hb : SlE Enc.op B w vb t.ops) (hl : t.ops.length ≤ 100000) :
    Calls Tryz.prog 46 #[.agg #[.string t.obj, va], .agg #[.string t.obj, vb]] w (Yes w) := by
  obtain ⟨aa, ca, rfl⟩ := ha.shape
  obtain ⟨ab, cb, rfl⟩ := hb.shape
  obtain ⟨ob, ops⟩ := t
  simp only at *
  have HA := Lib.hid ha
  have HB := Lib.hid hb
  clear ha hb
  go_enter Tryz.func46, Tryz.ntmps46
  go_wp2
  obtain ⟨w0, hw0⟩ : ∃ w0, w0 = (w.alloc (.cells #[.string ob, .slice aa ops.length ca] 24)).alloc (.cells #[.string ob, .slice ab ops.length cb] 24) := ⟨_, rfl⟩
  rw [← hw0]
  have B0 : w0.heap[w.heap.size]? = some (.cells #[.string ob, .slice aa ops.length ca] 24 (0, 0)) := by rw [hw0]; exact (Below.heap_alloc _ _ _ (by simp)).trans (heap_alloc_new _ _)
  have B1 : w0.heap[w.heap.size + 1]? = some (.cells #[.string ob, .slice ab ops.length cb] 24 (0, 0)) := by rw [hw0]; exact heap_alloc2_new _ _ _
  have hw : Below w.heap.size w w0 := by rw [hw0]; ((repeat' (first | exact Below.refl _ _ | refine below_drewN ?_ _ | refine Below.drew ?_ | refine Below.alloc ?_ ?_ _ | refine Below.trans ?_ (Below.mono (by assumption) ?_))); all_goals (first | exact Nat.le_refl _ | exact Below.size (by assumption) | omega | (simp; done) | (simp; omega)))
  have HA0 := Lib.hid (HA.out.ext hw)
  have HB0 := Lib.hid (HB.out.ext hw)
  have HW := Lib.hid hw
  have HB0' := Lib.hid B0
  have HB1' := Lib.hid B1
  clear hw0 hw B0 B1 HA HB
  go_loopw [5] (fun q wr => ∃ k : Nat, k ≤ ops.length ∧ q = .int .i64 k ∧ Below w0.heap.size w0 wr) (fun q _ => ops.length - (intOf q).toNat)
  case atStart => exact ⟨0, Nat.zero_le _, rfl, Below.refl _ _⟩
  case round =>
    obtain ⟨k, hk, rfl, hbr⟩ := hrel
    have HBR := Lib.hid hbr
    have h0 : w.heap.size < w0.heap.size := (Array.getElem?_eq_some_iff.1 HB0'.out).1
    have h1 : w.heap.size + 1 < w0.heap.size := (Array.getElem?_eq_some_iff.1 HB1'.out).1
    have hsr := hbr.size
    have hl0 : w.heap.size < wr.heap.size := by omega
    have hl1 : w.heap.size + 1 < wr.heap.size := by omega
    obtain ⟨x1, f1⟩ := blk_cell (i := 1) ((hbr.block _ h0).trans HB0'.out)
    obtain ⟨y1, g1⟩ := blk_cell (i := 1) ((hbr.block _ h1).trans HB1'.out)
    simp at x1 y1
    clear hbr
    by_cases hlt : k < ops.length
    · have HAr := Lib.hid (HA0.out.ext HBR.out)
      have HBr := Lib.hid (HB0.out.ext HBR.out)
      obtain ⟨b, off, v, rfl, hb, -, c0, c1, c2, c3, c4, hv⟩ := Ops.at HAr.out hlt
      obtain ⟨b', off', v', rfl, hb', -, d0, d1, d2, d3, d4, hv'⟩ := Ops.at HBr.out hlt
      obtain ⟨va, vc, rfl⟩ := hv.shape
      obtain ⟨va', vc', rfl⟩ := hv'.shape
      have s1 : ∀ o1 o2, (Go.convert 27 9 (.slice va (ops[k]).data.length vc)).run Tryz.prog ((wr.alloc o1).alloc o2) = .ok (.string ⟨(ops[k]).data.toArray⟩) ((wr.alloc o1).alloc o2) := fun o1 o2 => conv_bytes hv _ (by ((repeat' (first | exact Below.refl _ _ | refine below_drewN ?_ _ | refine Below.drew ?_ | refine Below.alloc ?_ ?_ _ | refine Below.trans ?_ (Below.mono (by assumption) ?_))); all_goals (first | exact Nat.le_refl _ | exact Below.size (by assumption) | omega | (simp; done) | (simp; omega))))
      have s2 : ∀ o1 o2, (Go.convert 27 9 (.slice va' (ops[k]).data.length vc')).run Tryz.prog ((wr.alloc o1).alloc o2) = .ok (.string ⟨(ops[k]).data.toArray⟩) ((wr.alloc o1).alloc o2) := fun o1 o2 => conv_bytes hv' _ (by ((repeat' (first | exact Below.refl _ _ | refine below_drewN ?_ _ | refine Below.drew ?_ | refine Below.alloc ?_ ?_ _ | refine Below.trans ?_ (Below.mono (by assumption) ?_))); all_goals (first | exact Nat.le_refl _ | exact Below.size (by assumption) | omega | (simp; done) | (simp; omega))))
      clear hv hv'
      go_wp2
      go_roundw
      case rel => exact ⟨k + 1, by omega, by go_num, HBR.out.trans (Below.mono (by ((repeat' (first | exact Below.refl _ _ | refine below_drewN ?_ _ | refine Below.drew ?_ | refine Below.alloc ?_ ?_ _ | refine Below.trans ?_ (Below.mono (by assumption) ?_))); all_goals (first | exact Nat.le_refl _ | exact Below.size (by assumption) | omega | (simp; done) | (simp; omega))) : Below wr.heap.size wr _) hsr)⟩
      case measure => simp [intOf]; omega
    · go_wp2
      go_ret
      exact ⟨rfl, HW.out.trans (HBR.out.mono HW.out.size)⟩
set_option maxRecDepth 100000 in
set_option maxHeartbeats 4000000 in
theorem same08_yes (A B A' B' : Nat → Prop) (o : ObD) (da db ka kb : Value) (w : World) (hda : RB A' w da o.data) (hdb : RB B' w db o.data) (ha : SlE Enc.key A w ka o.keys) (hb : SlE Enc.key B w kb o.keys) (hl : o.keys.length ≤ 100000) :
    Calls Tryz.prog 52 #[.agg #[da, ka, .int .i64 o.seq], .agg #[db, kb, .int .i64 o.seq]] w (Yes w) := by
  obtain ⟨aa, ca, rfl⟩ := ha.shape
  obtain ⟨ab, cb, rfl⟩ := hb.shape
  obtain ⟨daa, dca, rfl⟩ := hda.shape
  obtain ⟨dab, dcb, rfl⟩ := hdb.shape
  obtain ⟨od, ks, os⟩ := o
  simp only at *
  have HA := Lib.hid ha
  have HB := Lib.hid hb
  have t1 : ∀ o1 o2, (Go.convert 27 9 (.slice daa od.length dca)).run Tryz.prog ((w.alloc o1).alloc o2) = .ok (.string ⟨od.toArray⟩) ((w.alloc o1).alloc o2) := fun o1 o2 => conv_bytes hda _ (by ((repeat' (first | exact Below.refl _ _ | refine below_drewN ?_ _ | refine Below.drew ?_ | refine Below.alloc ?_ ?_ _ | refine Below.trans ?_ (Below.mono (by assumption) ?_))); all_goals (first | exact Nat.le_refl _ | exact Below.size (by assumption) | omega | (simp; done) | (simp; omega))))
  have t2 : ∀ o1 o2, (Go.convert 27 9 (.slice dab od.length dcb)).run Tryz.prog ((w.alloc o1).alloc o2) = .ok (.string ⟨od.toArray⟩) ((w.alloc o1).alloc o2) := fun o1 o2 => conv_bytes hdb _ (by ((repeat' (first | exact Below.refl _ _ | refine below_drewN ?_ _ | refine Below.drew ?_ | refine Below.alloc ?_ ?_ _ | refine Below.trans ?_ (Below.mono (by assumption) ?_))); all_goals (first | exact Nat.le_refl _ | exact Below.size (by assumption) | omega | (simp; done) | (simp; omega))))
  clear ha hb hda hdb
  go_enter Tryz.func52, Tryz.ntmps52
  go_wp2
  obtain ⟨w0, hw0⟩ : ∃ w0, w0 = (w.alloc (.cells #[.slice daa od.length dca, .slice aa ks.length ca, .int .i64 os] 38)).alloc (.cells #[.slice dab od.length dcb, .slice ab ks.length cb, .int .i64 os] 38) := ⟨_, rfl⟩
  rw [← hw0]
  have B0 : w0.heap[w.heap.size]? = some (.cells #[.slice daa od.length dca, .slice aa ks.length ca, .int .i64 os] 38 (0, 0)) := by rw [hw0]; exact (Below.heap_alloc _ _ _ (by simp)).trans (heap_alloc_new _ _)
  have B1 : w0.heap[w.heap.size + 1]? = some (.cells #[.slice dab od.length dcb, .slice ab ks.length cb, .int .i64 os] 38 (0, 0)) := by rw [hw0]; exact heap_alloc2_new _ _ _
  have hw : Below w.heap.size w w0 := by rw [hw0]; ((repeat' (first | exact Below.refl _ _ | refine below_drewN ?_ _ | refine Below.drew ?_ | refine Below.alloc ?_ ?_ _ | refine Below.trans ?_ (Below.mono (by assumption) ?_))); all_goals (first | exact Nat.le_refl _ | exact Below.size (by assumption) | omega | (simp; done) | (simp; omega)))
  have HA0 := Lib.hid (HA.out.ext hw)
  have HB0 := Lib.hid (HB.out.ext hw)
  have HW := Lib.hid hw
  have h0 : w.heap.size < w0.heap.size := (Array.getElem?_eq_some_iff.1 B0).1
  have h1 : w.heap.size + 1 < w0.heap.size := (Array.getElem?_eq_some_iff.1 B1).1
  obtain ⟨x1, f1⟩ := blk_cell (i := 1) B0
  obtain ⟨y1, g1⟩ := blk_cell (i := 1) B1
  simp at x1 y1
  clear hw0 hw B0 B1 HA HB t1 t2
  go_loopw [5] (fun q wr => ∃ k : Nat, k ≤ ks.length ∧ q = .int .i64 k ∧ ∃ n, wr = w0.drewN n) (fun q _ => ks.length - (intOf q).toNat)
  case atStart => exact ⟨0, Nat.zero_le _, rfl, 0, rfl⟩
  case round =>
    obtain ⟨k, hk, rfl, nq, rfl⟩ := hrel
    by_cases hlt : k < ks.length
    · obtain ⟨b, off, v, rfl, hb, -, c3, c4, hv⟩ := Keys.at HA0.out hlt
      obtain ⟨b', off', v', rfl, hb', -, d3, d4, hv'⟩ := Keys.at HB0.out hlt
      obtain ⟨va, vc, rfl⟩ := hv.shape
      obtain ⟨va', vc', rfl⟩ := hv'.shape
      have s1 : ∀ n, (Go.convert 27 9 (.slice va (ks[k]).value.length vc)).run Tryz.prog (w0.drewN n) = .ok (.string ⟨(ks[k]).value.toArray⟩) (w0.drewN n) := fun n => conv_bytes hv _ (below_drewN (Below.refl _ _) _)
      have s2 : ∀ n, (Go.convert 27 9 (.slice va' (ks[k]).value.length vc')).run Tryz.prog (w0.drewN n) = .ok (.string ⟨(ks[k]).value.toArray⟩) (w0.drewN n) := fun n => conv_bytes hv' _ (below_drewN (Below.refl _ _) _)
      clear hv hv'
      go_wp2
      go_quiet (fail)
      go_wp2
      go_roundw
      case rel => exact ⟨k + 1, by omega, by go_num, _, rfl⟩
      case measure => simp [intOf]; omega
    · go_wp2
      go_ret
      exact ⟨rfl, below_drewN HW.out _⟩
end Go.Proofs.YtlgefkaafoidmaaGreatDoor
namespace Go.Proofs.YtlgefkaafoidmaaGreatDoor
open Go.RowKit Go.WideShapes

set_option maxRecDepth 100000 in
set_option maxHeartbeats 4000000 in
theorem samerq_yes (A B : Nat → Prop) (q : RqD) (va vb : Value) (w : World) (ha : RqV A w va q) (hb : RqV B w vb q) (hl : q.txn.ops.length ≤ 100000) :
    Calls Tryz.prog 11 #[va, vb] w (Yes w) := by
  obtain ⟨oa, rfl, ha⟩ := ha
  obtain ⟨ob, rfl, hb⟩ := hb
  obtain ⟨aa, ca, rfl⟩ := ha.shape
  obtain ⟨ab, cb, rfl⟩ := hb.shape
  have HS : Hid (∀ W, Below w.heap.size w W → Calls Tryz.prog 46 #[.agg #[.string q.txn.obj, .slice aa q.txn.ops.length ca], .agg #[.string q.txn.obj, .slice ab q.txn.ops.length cb]] W (Yes W)) := fun W hW => same09_yes A B q.txn _ _ W (ha.ext hW) (hb.ext hW) hl
  clear ha hb hl
  obtain ⟨qc, ql, qs, qk, qi, qw, qn, qo, qops⟩ := q
  simp only [rqV] at *
  go_enter Tryz.func11, Tryz.ntmps11
  go_wp2_with fail
  have hA : Below w.heap.size w ((w.alloc (.cells #[.int .i64 qc, .int .i64 ql, .int .i64 qs, .int .i64 qk, .int .i64 qi, .int .i64 qw, .int .i64 qn, .string qo, .slice aa qops.length ca] 26)).alloc (.cells #[.int .i64 qc, .int .i64 ql, .int .i64 qs, .int .i64 qk, .int .i64 qi, .int .i64 qw, .int .i64 qn, .string qo, .slice ab qops.length cb] 26)) := by ((repeat' (first | exact Below.refl _ _ | refine below_drewN ?_ _ | refine Below.drew ?_ | refine Below.alloc ?_ ?_ _ | refine Below.trans ?_ (Below.mono (by assumption) ?_))); all_goals (first | exact Nat.le_refl _ | exact Below.size (by assumption) | omega | (simp; done) | (simp; omega)))
  refine (HS.out _ hA).mono ?_
  rintro e w1 ⟨rfl, hb1⟩
  have B0 := (hb1.block w.heap.size (by simp; omega)).trans ((Below.heap_alloc _ _ _ (by simp)).trans (heap_alloc_new w _))
  have B1 := (hb1.block (w.heap.size + 1) (by simp)).trans (heap_alloc2_new w _ _)
  have HW1 := Lib.hid (hA.trans (hb1.mono hA.size))
  have hs1 := hb1.size
  simp only [World.size_alloc] at hs1
  obtain ⟨x0, f0⟩ := blk_cell (i := 0) B0
  obtain ⟨x1, f1⟩ := blk_cell (i := 1) B0
  obtain ⟨x2, f2⟩ := blk_cell (i := 2) B0
  obtain ⟨x3, f3⟩ := blk_cell (i := 3) B0
  obtain ⟨x4, f4⟩ := blk_cell (i := 4) B0
  obtain ⟨x5, f5⟩ := blk_cell (i := 5) B0
  obtain ⟨x6, f6⟩ := blk_cell (i := 6) B0
  obtain ⟨y0, g0⟩ := blk_cell (i := 0) B1
  obtain ⟨y1, g1⟩ := blk_cell (i := 1) B1
  obtain ⟨y2, g2⟩ := blk_cell (i := 2) B1
  obtain ⟨y3, g3⟩ := blk_cell (i := 3) B1
  obtain ⟨y4, g4⟩ := blk_cell (i := 4) B1
  obtain ⟨y5, g5⟩ := blk_cell (i := 5) B1
  obtain ⟨y6, g6⟩ := blk_cell (i := 6) B1
  simp at x0 x1 x2 x3 x4 x5 x6 y0 y1 y2 y3 y4 y5 y6
  clear B0 B1 hb1 hA
  go_wp2
  go_ret
  exact ⟨rfl, HW1.out⟩
set_option maxRecDepth 100000 in
set_option maxHeartbeats 4000000 in
theorem samerp_yes (A B : Nat → Prop) (q : RpD) (va vb : Value) (w : World) (ha : RpV A w va q) (hb : RpV B w vb q) (hl : q.obj.keys.length ≤ 100000) :
    Calls Tryz.prog 17 #[va, vb] w (Yes w) := by
  obtain ⟨da, ka, rfl, hda, ha⟩ := ha
  obtain ⟨db, kb, rfl, hdb, hb⟩ := hb
  obtain ⟨aa, ca, rfl⟩ := ha.shape
  obtain ⟨ab, cb, rfl⟩ := hb.shape
  obtain ⟨daa, dca, rfl⟩ := hda.shape
  obtain ⟨dab, dcb, rfl⟩ := hdb.shape
  have HS : Hid (∀ W, Below w.heap.size w W → Calls Tryz.prog 52 #[.agg #[.slice daa q.obj.data.length dca, .slice aa q.obj.keys.length ca, .int .i64 q.obj.seq], .agg #[.slice dab q.obj.data.length dcb, .slice ab q.obj.keys.length cb, .int .i64 q.obj.seq]] W (Yes W)) := fun W hW => same08_yes A B A B q.obj _ _ _ _ W (hda.ext hW) (hdb.ext hW) (ha.ext hW) (hb.ext hW) hl
  clear ha hb hda hdb hl
  obtain ⟨qc, ql, qs, qe, qn, qx, qt, ⟨qd, qk, qo⟩⟩ := q
  simp only [rpV] at *
  go_enter Tryz.func17, Tryz.ntmps17
  go_wp2_with fail
  have hA : Below w.heap.size w ((w.alloc (.cells #[.int .i64 qc, .int .i64 ql, .int .i64 qs, .int .i64 qe, .int .i64 qn, .int .i64 qx, .bool qt, .slice daa qd.length dca, .slice aa qk.length ca, .int .i64 qo] 40)).alloc (.cells #[.int .i64 qc, .int .i64 ql, .int .i64 qs, .int .i64 qe, .int .i64 qn, .int .i64 qx, .bool qt, .slice dab qd.length dcb, .slice ab qk.length cb, .int .i64 qo] 40)) := by ((repeat' (first | exact Below.refl _ _ | refine below_drewN ?_ _ | refine Below.drew ?_ | refine Below.alloc ?_ ?_ _ | refine Below.trans ?_ (Below.mono (by assumption) ?_))); all_goals (first | exact Nat.le_refl _ | exact Below.size (by assumption) | omega | (simp; done) | (simp; omega)))
  refine (HS.out _ hA).mono ?_
  rintro e w1 ⟨rfl, hb1⟩
  have B0 := (hb1.block w.heap.size (by simp; omega)).trans ((Below.heap_alloc _ _ _ (by simp)).trans (heap_alloc_new w _))
  have B1 := (hb1.block (w.heap.size + 1) (by simp)).trans (heap_alloc2_new w _ _)
  have HW1 := Lib.hid (hA.trans (hb1.mono hA.size))
  have hs1 := hb1.size
  simp only [World.size_alloc] at hs1
  obtain ⟨x0, f0⟩ := blk_cell (i := 0) B0
  obtain ⟨x1, f1⟩ := blk_cell (i := 1) B0
  obtain ⟨x2, f2⟩ := blk_cell (i := 2) B0
  obtain ⟨x3, f3⟩ := blk_cell (i := 3) B0
  obtain ⟨x4, f4⟩ := blk_cell (i := 4) B0
  obtain ⟨x5, f5⟩ := blk_cell (i := 5) B0
  obtain ⟨x6, f6⟩ := blk_cell (i := 6) B0
  obtain ⟨y0, g0⟩ := blk_cell (i := 0) B1
  obtain ⟨y1, g1⟩ := blk_cell (i := 1) B1
  obtain ⟨y2, g2⟩ := blk_cell (i := 2) B1
  obtain ⟨y3, g3⟩ := blk_cell (i := 3) B1
  obtain ⟨y4, g4⟩ := blk_cell (i := 4) B1
  obtain ⟨y5, g5⟩ := blk_cell (i := 5) B1
  obtain ⟨y6, g6⟩ := blk_cell (i := 6) B1
  simp at x0 x1 x2 x3 x4 x5 x6 y0 y1 y2 y3 y4 y5 y6
  clear B0 B1 hb1 hA
  go_wp2
  go_ret
  exact ⟨rfl, HW1.out⟩
end Go.Proofs.YtlgefkaafoidmaaGreatDoor
