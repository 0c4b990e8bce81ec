/- The walks of terrazzoref16.SameRequest and SameReply, at data that are the same. -/
import Derived.Test.YtidikciankcopaaDoorSame16
namespace Go.Proofs.YtidikciankcopaaDoor
open Go.RowKit Go.WideShapes

set_option maxRecDepth 100000 in
set_option maxHeartbeats 4000000 in
theorem samerq_yes (A B : Nat → Prop) (q : RqD) (va vb : Value) (w : World) (ha : RqV A w va q) (hb : RqV B w vb q) (hl : q.txn.ops.length ≤ 100000) :
    Calls Tryd.prog 13 #[va, vb] w (Yes w) := by
  obtain ⟨oa, rfl, ha⟩ := ha
  obtain ⟨ob, rfl, hb⟩ := hb
  obtain ⟨aa, ca, rfl⟩ := ha.shape
  obtain ⟨ab, cb, rfl⟩ := hb.shape
  have HS : Hid (∀ W, Below w.heap.size w W → Calls Tryd.prog 29 #[.agg #[.string q.txn.obj, .slice aa q.txn.ops.length ca], .agg #[.string q.txn.obj, .slice ab q.txn.ops.length cb]] W (Yes W)) := fun W hW => same09_yes A B q.txn _ _ W (ha.ext hW) (hb.ext hW) hl
  clear ha hb hl
  obtain ⟨qc, ql, qs, qk, qi, qw, qn, qo, qops⟩ := q
  simp only [rqV] at *
  go_enter Tryd.func13, Tryd.ntmps13
  go_wp2_with fail
  have hA : Below w.heap.size w ((w.alloc (.cells #[.int .i64 qc, .int .i64 ql, .int .i64 qs, .int .i64 qk, .int .i64 qi, .int .i64 qw, .int .i64 qn, .string qo, .slice aa qops.length ca] 30)).alloc (.cells #[.int .i64 qc, .int .i64 ql, .int .i64 qs, .int .i64 qk, .int .i64 qi, .int .i64 qw, .int .i64 qn, .string qo, .slice ab qops.length cb] 30)) := by ((repeat' (first | exact Below.refl _ _ | refine below_drewN ?_ _ | refine Below.drew ?_ | refine Below.alloc ?_ ?_ _ | refine Below.trans ?_ (Below.mono (by assumption) ?_))); all_goals (first | exact Nat.le_refl _ | exact Below.size (by assumption) | omega | (simp; done) | (simp; omega)))
  refine (HS.out _ hA).mono ?_
  rintro e w1 ⟨rfl, hb1⟩
  have B0 := (hb1.block w.heap.size (by simp; omega)).trans ((Below.heap_alloc _ _ _ (by simp)).trans (heap_alloc_new w _))
  have B1 := (hb1.block (w.heap.size + 1) (by simp)).trans (heap_alloc2_new w _ _)
  have HW1 := Lib.hid (hA.trans (hb1.mono hA.size))
  have hs1 := hb1.size
  simp only [World.size_alloc] at hs1
  obtain ⟨x0, f0⟩ := blk_cell (i := 0) B0
  obtain ⟨x1, f1⟩ := blk_cell (i := 1) B0
  obtain ⟨x2, f2⟩ := blk_cell (i := 2) B0
  obtain ⟨x3, f3⟩ := blk_cell (i := 3) B0
  obtain ⟨x4, f4⟩ := blk_cell (i := 4) B0
  obtain ⟨x5, f5⟩ := blk_cell (i := 5) B0
  obtain ⟨x6, f6⟩ := blk_cell (i := 6) B0
  obtain ⟨y0, g0⟩ := blk_cell (i := 0) B1
  obtain ⟨y1, g1⟩ := blk_cell (i := 1) B1
  obtain ⟨y2, g2⟩ := blk_cell (i := 2) B1
  obtain ⟨y3, g3⟩ := blk_cell (i := 3) B1
  obtain ⟨y4, g4⟩ := blk_cell (i := 4) B1
  obtain ⟨y5, g5⟩ := blk_cell (i := 5) B1
  obtain ⟨y6, g6⟩ := blk_cell (i := 6) B1
  simp at x0 x1 x2 x3 x4 x5 x6 y0 y1 y2 y3 y4 y5 y6
  clear B0 B1 hb1 hA
  go_wp2
  go_ret
  exact ⟨rfl, HW1.out⟩
set_option maxRecDepth 100000 in
set_option maxHeartbeats 4000000 in
theorem samerp_yes (A B : Nat → Prop) (q : RpD) (va vb : Value) (w : World) (ha : RpV A w va q) (hb : RpV B w vb q) (hl : q.obj.keys.length ≤ 100000) :
    Calls Tryd.prog 27 #[va, vb] w (Yes w) := by
  obtain ⟨da, ka, rfl, hda, ha⟩ := ha
  obtain ⟨db, kb, rfl, hdb, hb⟩ := hb
  obtain ⟨aa, ca, rfl⟩ := ha.shape
  obtain ⟨ab, cb, rfl⟩ := hb.shape
  obtain ⟨daa, dca, rfl⟩ := hda.shape
  obtain ⟨dab, dcb, rfl⟩ := hdb.shape
  have HS : Hid (∀ W, Below w.heap.size w W → Calls Tryd.prog 42 #[.agg #[.slice daa q.obj.data.length dca, .slice aa q.obj.keys.length ca, .int .i64 q.obj.seq], .agg #[.slice dab q.obj.data.length dcb, .slice ab q.obj.keys.length cb, .int .i64 q.obj.seq]] W (Yes W)) := fun W hW => same08_yes A B A B q.obj _ _ _ _ W (hda.ext hW) (hdb.ext hW) (ha.ext hW) (hb.ext hW) hl
  clear ha hb hda hdb hl
  obtain ⟨qc, ql, qs, qe, qn, qx, qt, ⟨qd, qk, qo⟩⟩ := q
  simp only [rpV] at *
  go_enter Tryd.func27, Tryd.ntmps27
  go_wp2_with fail
  have hA : Below w.heap.size w ((w.alloc (.cells #[.int .i64 qc, .int .i64 ql, .int .i64 qs, .int .i64 qe, .int .i64 qn, .int .i64 qx, .bool qt, .slice daa qd.length dca, .slice aa qk.length ca, .int .i64 qo] 39)).alloc (.cells #[.int .i64 qc, .int .i64 ql, .int .i64 qs, .int .i64 qe, .int .i64 qn, .int .i64 qx, .bool qt, .slice dab qd.length dcb, .slice ab qk.length cb, .int .i64 qo] 39)) := by ((repeat' (first | exact Below.refl _ _ | refine below_drewN ?_ _ | refine Below.drew ?_ | refine Below.alloc ?_ ?_ _ | refine Below.trans ?_ (Below.mono (by assumption) ?_))); all_goals (first | exact Nat.le_refl _ | exact Below.size (by assumption) | omega | (simp; done) | (simp; omega)))
  refine (HS.out _ hA).mono ?_
  rintro e w1 ⟨rfl, hb1⟩
  have B0 := (hb1.block w.heap.size (by simp; omega)).trans ((Below.heap_alloc _ _ _ (by simp)).trans (heap_alloc_new w _))
  have B1 := (hb1.block (w.heap.size + 1) (by simp)).trans (heap_alloc2_new w _ _)
  have HW1 := Lib.hid (hA.trans (hb1.mono hA.size))
  have hs1 := hb1.size
  simp only [World.size_alloc] at hs1
  obtain ⟨x0, f0⟩ := blk_cell (i := 0) B0
  obtain ⟨x1, f1⟩ := blk_cell (i := 1) B0
  obtain ⟨x2, f2⟩ := blk_cell (i := 2) B0
  obtain ⟨x3, f3⟩ := blk_cell (i := 3) B0
  obtain ⟨x4, f4⟩ := blk_cell (i := 4) B0
  obtain ⟨x5, f5⟩ := blk_cell (i := 5) B0
  obtain ⟨x6, f6⟩ := blk_cell (i := 6) B0
  obtain ⟨y0, g0⟩ := blk_cell (i := 0) B1
  obtain ⟨y1, g1⟩ := blk_cell (i := 1) B1
  obtain ⟨y2, g2⟩ := blk_cell (i := 2) B1
  obtain ⟨y3, g3⟩ := blk_cell (i := 3) B1
  obtain ⟨y4, g4⟩ := blk_cell (i := 4) B1
  obtain ⟨y5, g5⟩ := blk_cell (i := 5) B1
  obtain ⟨y6, g6⟩ := blk_cell (i := 6) B1
  simp at x0 x1 x2 x3 x4 x5 x6 y0 y1 y2 y3 y4 y5 y6
  clear B0 B1 hb1 hA
  go_wp2
  go_ret
  exact ⟨rfl, HW1.out⟩
end Go.Proofs.YtidikciankcopaaDoor
