/- The walk of rpc.own. -/
import Derived.Test.YtidikciankcopaaDoorObjD
namespace Go.Proofs.YtidikciankcopaaDoor
open Go.RowKit Go.WideShapes

/-- a request as a value -/
def rqV (q : RqD) (ov : Value) : Value := .agg #[.int .i64 q.client, .int .i64 q.life, .int .i64 q.seq, .int .i64 q.kind, .int .i64 q.image, .int .i64 q.who, .int .i64 q.n, .string q.txn.obj, ov]
def RqV (A : Nat → Prop) (w : World) (v : Value) (q : RqD) : Prop := ∃ ov, v = rqV q ov ∧ SlE Enc.op A w ov q.txn.ops
structure RqD.okl (q : RqD) : Prop where
  ops : q.txn.ops.length ≤ 10000
  vals : ∀ k ∈ q.txn.ops, k.data.length ≤ 1000000
attribute [local go_sem ↓] Go.wp_at_zero Go.wp_at_succ
theorem set9_blk {w : World} {p : Nat} {t : TypeId} {a b c d e f g h i a' b' c' d' e' f' g' h' i' : Value} (hb : w.heap[p]? = some (.cells #[a, b, c, d, e, f, g, h, i] t (0, 0))) :
    (((((((((w.setCell ⟨p, 0, none⟩ a').setCell ⟨p, 1, none⟩ b').setCell ⟨p, 2, none⟩ c').setCell ⟨p, 3, none⟩ d').setCell ⟨p, 4, none⟩ e').setCell ⟨p, 5, none⟩ f').setCell ⟨p, 6, none⟩ g').setCell ⟨p, 7, none⟩ h').setCell ⟨p, 8, none⟩ i').heap[p]? = some (.cells #[a', b', c', d', e', f', g', h', i'] t (0, 0)) := by
  have := set_blk3 (j := 8) (v := i') (set_blk3 (j := 7) (v := h') (set_blk3 (j := 6) (v := g') (set_blk3 (j := 5) (v := f') (set_blk3 (j := 4) (v := e') (set_blk3 (j := 3) (v := d') (set_blk3 (j := 2) (v := c') (set_blk3 (j := 1) (v := b') (set_blk3 (j := 0) (v := a') hb))))))))
  simpa using this
theorem same9 {A : Nat → Prop} {w : World} {p : Nat} {a' b' c' d' e' f' g' h' i' : Value} (h : ¬ A p) :
    Same A w (((((((((w.setCell ⟨p, 0, none⟩ a').setCell ⟨p, 1, none⟩ b').setCell ⟨p, 2, none⟩ c').setCell ⟨p, 3, none⟩ d').setCell ⟨p, 4, none⟩ e').setCell ⟨p, 5, none⟩ f').setCell ⟨p, 6, none⟩ g').setCell ⟨p, 7, none⟩ h').setCell ⟨p, 8, none⟩ i') :=
  (Same.setCell (a := ⟨p, 8, none⟩) (Same.setCell (a := ⟨p, 7, none⟩) (Same.setCell (a := ⟨p, 6, none⟩) (Same.setCell (a := ⟨p, 5, none⟩) (Same.setCell (a := ⟨p, 4, none⟩) (Same.setCell (a := ⟨p, 3, none⟩) (Same.setCell (a := ⟨p, 2, none⟩) (Same.setCell (a := ⟨p, 1, none⟩) (Same.setCell (a := ⟨p, 0, none⟩) (Same.refl _ _) h a') h b') h c') h d') h e') h f') h g') h h') h i')
theorem below9 {B : Nat} {w0 w : World} {p : Nat} {a' b' c' d' e' f' g' h' i' : Value} (hb : Below B w0 w) (h : B ≤ p) :
    Below B w0 (((((((((w.setCell ⟨p, 0, none⟩ a').setCell ⟨p, 1, none⟩ b').setCell ⟨p, 2, none⟩ c').setCell ⟨p, 3, none⟩ d').setCell ⟨p, 4, none⟩ e').setCell ⟨p, 5, none⟩ f').setCell ⟨p, 6, none⟩ g').setCell ⟨p, 7, none⟩ h').setCell ⟨p, 8, none⟩ i') :=
  (Below.setCell (p := ⟨p, 8, none⟩) (Below.setCell (p := ⟨p, 7, none⟩) (Below.setCell (p := ⟨p, 6, none⟩) (Below.setCell (p := ⟨p, 5, none⟩) (Below.setCell (p := ⟨p, 4, none⟩) (Below.setCell (p := ⟨p, 3, none⟩) (Below.setCell (p := ⟨p, 2, none⟩) (Below.setCell (p := ⟨p, 1, none⟩) (Below.setCell (p := ⟨p, 0, none⟩) hb h a') h b') h c') h d') h e') h f') h g') h h') h i')
def rq0 : Array Value := #[.int .i64 0, .int .i64 0, .int .i64 0, .int .i64 0, .int .i64 0, .int .i64 0, .int .i64 0, .string ByteArray.empty, .slice none 0 0]
def rqC (q : RqD) (ov : Value) : Array Value := #[.int .i64 q.client, .int .i64 q.life, .int .i64 q.seq, .int .i64 q.kind, .int .i64 q.image, .int .i64 q.who, .int .i64 q.n, .string q.txn.obj, ov]
set_option maxRecDepth 100000 in
set_option maxHeartbeats 4000000 in
theorem own_any (A : Nat → Prop) (v : Value) (q : RqD) (w : World) (hv : RqV A w v q) (ho : q.okl) :
    Calls Tryd.prog 28 #[v] w fun e w' => ∃ v', e = .returned v' ∧ RqV (fun b => w.heap.size ≤ b) w' v' q ∧ Below w.heap.size w w' := by
  obtain ⟨kv, rfl, hk⟩ := hv
  obtain ⟨cs, hcs, hks⟩ := SlE.cells (F := Fb.op) hk
  obtain ⟨ka, kc, rfl⟩ := hks.shape
  have HK : Hid (SlA A w 5 _ q.txn.ops.length cs.flatten) := Lib.hid hks
  have HC := Lib.hid hcs
  have hl2 := ho.ops
  have HL3 := Lib.hid ho.vals
  clear hk hcs hks ho
  obtain ⟨qc, ql, qs, qk, qi, qw, qn, qo, qops⟩ := q
  simp only [rqV] at *
  go_enter Tryd.func28, Tryd.ntmps28
  go_wp2_with fail
  have hSA : SlA (fun b => A b ∧ b < w.heap.size) ((w.alloc (.cells #[.int .i64 qc, .int .i64 ql, .int .i64 qs, .int .i64 qk, .int .i64 qi, .int .i64 qw, .int .i64 qn, .string qo, .slice ka qops.length kc] 30)).alloc (.cells #[.int .i64 0, .int .i64 0, .int .i64 0, .int .i64 0, .int .i64 0, .int .i64 0, .int .i64 0, .string ByteArray.empty, .slice none 0 0] 30)) 5 (.slice ka qops.length kc) qops.length cs.flatten :=
    SlA.mono (SlA.cut HK.out) (Same.alloc (Same.alloc (Same.refl _ _) _) _)
  refine (oclone_any _ _ qops.length cs.flatten _ hl2 hSA HC.out.one).mono ?_
  rintro e w2 ⟨v2, rfl, h2, hb2⟩
  have B0 : w2.heap[w.heap.size]? = some (.cells #[.int .i64 qc, .int .i64 ql, .int .i64 qs, .int .i64 qk, .int .i64 qi, .int .i64 qw, .int .i64 qn, .string qo, .slice ka qops.length kc] 30 (0, 0)) := (hb2.block _ (by simp; omega)).trans ((Below.heap_alloc _ _ _ (by simp)).trans (heap_alloc_new _ _))
  have B1 : w2.heap[w.heap.size + 1]? = some (.cells #[.int .i64 0, .int .i64 0, .int .i64 0, .int .i64 0, .int .i64 0, .int .i64 0, .int .i64 0, .string ByteArray.empty, .slice none 0 0] 30 (0, 0)) := (hb2.block _ (by simp)).trans (heap_alloc2_new _ _ _)
  have hs2 := hb2.size
  simp only [World.size_alloc] at hs2 h2
  have H2 := Lib.hid h2
  have hbw2 : Below w.heap.size w w2 := by ((repeat' (first | exact Below.refl _ _ | refine below_drewN ?_ _ | refine Below.drew ?_ | refine Below.alloc ?_ ?_ _ | refine Below.trans ?_ (Below.mono (by assumption) ?_))); all_goals (first | exact Nat.le_refl _ | exact Below.size (by assumption) | omega | (simp; done) | (simp; omega)))
  have HW2 := Lib.hid hbw2
  clear hbw2 hSA hb2
  rcases h2.2 with ⟨rfl, h0⟩ | ⟨g, cap, cur, rfl, hgl, hgr, -⟩
  · obtain ⟨x8, f8⟩ := blk_cell (i := 8) B0
    simp at x8
    have B0n := set_blk3 (j := 8) (v := .slice none 0 0) B0
    simp only [List.setIfInBounds_toArray, List.set_cons_succ, List.set_cons_zero] at B0n
    have B1n := (Below.heap_setCell w2 ⟨w.heap.size, 8, none⟩ (.slice none 0 0) (w.heap.size + 1) (by simp)).trans B1
    have HB0 := Lib.hid B0n
    have HB1 := Lib.hid B1n
    clear B0 B1 B0n B1n
    go_wp2
    go_loopw [14] (fun q wr => q = .int .i64 0 ∧ wr = w2.setCell ⟨w.heap.size, 8, none⟩ (.slice none 0 0)) (fun _ _ => 0)
    case atStart => exact ⟨rfl, rfl⟩
    case round =>
      obtain ⟨rfl, rfl⟩ := hrel
      obtain ⟨x0, f0⟩ := blk_cell (i := 0) HB0.out
      obtain ⟨x1, f1⟩ := blk_cell (i := 1) HB0.out
      obtain ⟨x2, f2⟩ := blk_cell (i := 2) HB0.out
      obtain ⟨x3, f3⟩ := blk_cell (i := 3) HB0.out
      obtain ⟨x4, f4⟩ := blk_cell (i := 4) HB0.out
      obtain ⟨x5, f5⟩ := blk_cell (i := 5) HB0.out
      obtain ⟨x6, f6⟩ := blk_cell (i := 6) HB0.out
      obtain ⟨x7, f7⟩ := blk_cell (i := 7) HB0.out
      obtain ⟨x8, f8⟩ := blk_cell (i := 8) HB0.out
      obtain ⟨y0, e0⟩ := blk_cell (i := 0) HB1.out
      obtain ⟨y1, e1⟩ := blk_cell (i := 1) HB1.out
      obtain ⟨y2, e2⟩ := blk_cell (i := 2) HB1.out
      obtain ⟨y3, e3⟩ := blk_cell (i := 3) HB1.out
      obtain ⟨y4, e4⟩ := blk_cell (i := 4) HB1.out
      obtain ⟨y5, e5⟩ := blk_cell (i := 5) HB1.out
      obtain ⟨y6, e6⟩ := blk_cell (i := 6) HB1.out
      obtain ⟨y7, e7⟩ := blk_cell (i := 7) HB1.out
      obtain ⟨y8, e8⟩ := blk_cell (i := 8) HB1.out
      simp at x0 x1 x2 x3 x4 x5 x6 x7 x8 y0 y1 y2 y3 y4 y5 y6 y7 y8
      generalize hwr : w2.setCell ⟨w.heap.size, 8, none⟩ (.slice none 0 0) = wr at *
      have HW3 : Hid (Below w.heap.size w wr) := by
        show Below _ _ _
        rw [← hwr]
        exact HW2.out.setCell (Nat.le_refl _ : _ ≤ (⟨w.heap.size, 8, none⟩ : Addr).block) _
      have hke : Hid (qops = []) := List.eq_nil_of_length_eq_zero h0
      clear hwr h0
      go_wp2
      refine bodyPost_ret (results_cell_row rfl _ _ (w.heap.size + 1) 30 _ (0, 0) _ rfl (set9_blk HB1.out) Tryd.underlying30 rfl (by kernel_rfl)) rfl ?_
      refine ⟨_, rfl, ⟨_, rfl, ?_⟩, ?_⟩
      · show SlE _ _ _ _ qops
        rw [hke.out]
        exact SlE.nil _ _ _
      · exact below9 HW3.out (by omega)
  · obtain ⟨x8, f8⟩ := blk_cell (i := 8) B0
    simp at x8
    have hgl2 : g < w2.heap.size := (Array.getElem?_eq_some_iff.1 hgr).1
    have B0n := set_blk3 (j := 8) (v := .slice (some ⟨g, 0, none⟩) qops.length cap) B0
    simp only [List.setIfInBounds_toArray, List.set_cons_succ, List.set_cons_zero] at B0n
    have B1n := (Below.heap_setCell w2 ⟨w.heap.size, 8, none⟩ (.slice (some ⟨g, 0, none⟩) qops.length cap) (w.heap.size + 1) (by simp)).trans B1
    have HB0 := Lib.hid B0n
    have HB1 := Lib.hid B1n
    have hOw : Hid ((w2.setCell ⟨w.heap.size, 8, none⟩ (.slice (some ⟨g, 0, none⟩) qops.length cap)).ownsRow (w.heap.size + 2) 76 5 (.slice (some ⟨g, 0, none⟩) qops.length cap) qops.length cs.flatten) :=
      ownsRow_setCell_below H2.out (a := ⟨w.heap.size, 8, none⟩) (by show w.heap.size < _; omega) _
    have HW3 : Hid (Below w.heap.size w (w2.setCell ⟨w.heap.size, 8, none⟩ (.slice (some ⟨g, 0, none⟩) qops.length cap))) := HW2.out.setCell (Nat.le_refl _ : _ ≤ (⟨w.heap.size, 8, none⟩ : Addr).block) _
    have hCI : Hid (CI Fb.op (mixA A w.heap.size (w.heap.size + 2) g 0) (w2.setCell ⟨w.heap.size, 8, none⟩ (.slice (some ⟨g, 0, none⟩) qops.length cap)) cs qops) := clone_start HC.out HW3.out (.inr rfl)
    clear B0 B1 B0n B1n h2 hgr
    go_wp2
    go_loopw [14] (fun q wr => ∃ (k : Nat) (cs' : List (List Value)), k ≤ qops.length ∧ q = .int .i64 k ∧ wr.heap[w.heap.size]? = some (.cells #[.int .i64 qc, .int .i64 ql, .int .i64 qs, .int .i64 qk, .int .i64 qi, .int .i64 qw, .int .i64 qn, .string qo, .slice (some ⟨g, 0, none⟩) qops.length cap] 30 (0, 0)) ∧
        wr.heap[w.heap.size + 1]? = some (.cells #[.int .i64 0, .int .i64 0, .int .i64 0, .int .i64 0, .int .i64 0, .int .i64 0, .int .i64 0, .string ByteArray.empty, .slice none 0 0] 30 (0, 0)) ∧
        wr.ownsRow (w.heap.size + 2) 76 5 (.slice (some ⟨g, 0, none⟩) qops.length cap) qops.length cs'.flatten ∧ CI Fb.op (mixA A w.heap.size (w.heap.size + 2) g k) wr cs' qops ∧
        Below w.heap.size w wr) (fun q _ => qops.length - (intOf q).toNat)
    case atStart => exact ⟨0, cs, Nat.zero_le _, rfl, HB0.out, HB1.out, hOw.out, hCI.out, HW3.out⟩
    case round =>
      obtain ⟨k, cs', hk, rfl, b0, b1, ow, ci, bw⟩ := hrel
      have HO := Lib.hid ow
      have HC3 := Lib.hid ci
      have HBW := Lib.hid bw
      have hgr : g < wr.heap.size := (ow.lt g rfl).2
      have hgl : w.heap.size + 2 ≤ g := (ow.lt g rfl).1
      have hwr : w.heap.size + 1 < wr.heap.size := (Array.getElem?_eq_some_iff.1 b1).1
      obtain ⟨x8, f8⟩ := blk_cell (i := 8) b0
      simp at x8
      have HB0 := Lib.hid b0
      have HB1 := Lib.hid b1
      clear ow ci bw
      by_cases hlt : k < qops.length
      · obtain ⟨v, hv1, hv2⟩ := HC3.out.last hlt
        obtain ⟨va, vc, rfl⟩ := hv2.shape
        have HV := Lib.hid hv2
        have d1 : wr.cell? ⟨g, k * 5 + 4, none⟩ = some (.slice va (qops[k]).data.length vc) := (HO.out.cellAt (k * 5 + 4) (by omega)).trans hv1
        have g1 : wr.frozen? ⟨g, k * 5 + 4, none⟩ = false := HO.out.frozenAt _
        have hvl : (qops[k]).data.length ≤ 1000000 := HL3.out _ (List.getElem_mem hlt)
        have hvl' := Lib.hid hvl
        clear hv1 hv2 b0 b1
        generalize hky : qops[k] = ky at *
        go_wp2
        go_region_with (go_at_call 44; refine (cloneB_any _ _ ky.data _ hvl'.out (RB.ext HV.out (Below.refl _ _).drew)).mono ?_; rintro e w3 ⟨v3, rfl, ho3, hb3⟩; obtain ⟨a3, c3, rfl⟩ := ho3.rb.shape; have e1 := cellExt hb3 x8; have g3 : w3.frozen? ⟨g, k * 5 + 4, none⟩ = false := (hb3.frozen (p := ⟨g, k * 5 + 4, none⟩) hgr).trans g1; have e2 := cellExt hb3 d1; have HO3 : Hid (OB wr.heap.size w3 _ _) := Lib.hid ho3; have HB3 : Hid (Below wr.heap.size wr w3) := Lib.hid (((Below.refl _ wr).drew).trans hb3); clear ho3 hb3)
        all_goals
          go_wp2
          go_roundw
          case rel =>
            obtain ⟨cs2, o2, i2⟩ := clone_step (F := Fb.op) HO.out HC3.out hlt (by omega) HB3.out (by rw [hky]; exact HO3.out)
            refine ⟨k + 1, cs2, by omega, by go_num, ?_, ?_, o2, i2, ?_⟩
            · exact (Below.heap_setCell _ ⟨g, _, none⟩ _ _ (by show _ ≠ g; omega)).trans ((HB3.out.block _ (by omega)).trans HB0.out)
            · exact (Below.heap_setCell _ ⟨g, _, none⟩ _ _ (by show _ ≠ g; omega)).trans ((HB3.out.block _ (by omega)).trans HB1.out)
            · exact (HBW.out.trans (HB3.out.mono (by omega))).setCell (by show _ ≤ g; omega) _
          case measure => simp [intOf]; omega
      · obtain rfl : k = qops.length := by omega
        clear x8 f8
        obtain ⟨x0, f0⟩ := blk_cell (i := 0) HB0.out
        obtain ⟨x1, f1⟩ := blk_cell (i := 1) HB0.out
        obtain ⟨x2, f2⟩ := blk_cell (i := 2) HB0.out
        obtain ⟨x3, f3⟩ := blk_cell (i := 3) HB0.out
        obtain ⟨x4, f4⟩ := blk_cell (i := 4) HB0.out
        obtain ⟨x5, f5⟩ := blk_cell (i := 5) HB0.out
        obtain ⟨x6, f6⟩ := blk_cell (i := 6) HB0.out
        obtain ⟨x7, f7⟩ := blk_cell (i := 7) HB0.out
        obtain ⟨x8, f8⟩ := blk_cell (i := 8) HB0.out
        obtain ⟨y0, e0⟩ := blk_cell (i := 0) HB1.out
        obtain ⟨y1, e1⟩ := blk_cell (i := 1) HB1.out
        obtain ⟨y2, e2⟩ := blk_cell (i := 2) HB1.out
        obtain ⟨y3, e3⟩ := blk_cell (i := 3) HB1.out
        obtain ⟨y4, e4⟩ := blk_cell (i := 4) HB1.out
        obtain ⟨y5, e5⟩ := blk_cell (i := 5) HB1.out
        obtain ⟨y6, e6⟩ := blk_cell (i := 6) HB1.out
        obtain ⟨y7, e7⟩ := blk_cell (i := 7) HB1.out
        obtain ⟨y8, e8⟩ := blk_cell (i := 8) HB1.out
        simp at x0 x1 x2 x3 x4 x5 x6 x7 x8 y0 y1 y2 y3 y4 y5 y6 y7 y8
        clear b0 b1
        go_wp2
        refine bodyPost_ret (results_cell_row rfl _ _ (w.heap.size + 1) 30 _ (0, 0) _ rfl (set9_blk HB1.out) Tryd.underlying30 rfl (by kernel_rfl)) rfl ?_
        have hKE := clone_end HO.out HC3.out
        refine ⟨_, rfl, ⟨_, rfl, ?_⟩, ?_⟩
        · exact (hKE.mono (same9 (fun h => by have h : w.heap.size + 2 ≤ w.heap.size + 1 := h; omega))).weak fun b _ h => by omega
        · exact below9 HBW.out (by omega)
end Go.Proofs.YtidikciankcopaaDoor
