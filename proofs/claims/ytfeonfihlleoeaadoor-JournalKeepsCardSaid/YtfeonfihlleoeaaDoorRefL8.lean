/- terrazzoref08.Do: what its walks need. -/
import Derived.Test.YtfeonfihlleoeaaDoorRefK8
import Derived.Deep.DeepCutAuto
namespace Go.Proofs.YtfeonfihlleoeaaDoor
open Go.RowKit Go.WideShapes

/-- what the reference's Do leaves -/
def DoRR (x : DoR) (w : World) (e : Ending) (w' : World) : Prop := ∃ dv kv, e = .returned (.tuple #[.agg #[dv, kv, .int .i64 x.o.seq], .bool x.there, .bool x.on, .int .i64 x.e]) ∧ ObV (fun _ => True) w' (.agg #[dv, kv, .int .i64 x.o.seq]) x.o ∧ Below w.heap.size w w'
theorem DoRR.no {c : Int} {x : DoR} {w w' : World} (hx : x = DoR.no c) (hb : Below w.heap.size w w') : DoRR x w (.returned (.tuple #[.agg #[.slice none 0 0, .slice none 0 0, .int .i64 0], .bool false, .bool false, .int .i64 c])) w' := by
  subst hx
  exact ⟨_, _, rfl, obv_none _ _, hb⟩
theorem DoRR.ok {x : DoR} {dv kv : Value} {o : ObD} {s : Int} {b : Bool} {th : Bool} {w w' : World} (hx : x = ⟨o, th, b, 0⟩) (hv : ObV (fun _ => True) w' (.agg #[dv, kv, .int .i64 s]) o) (hb : Below w.heap.size w w') : DoRR x w (.returned (.tuple #[.agg #[dv, kv, .int .i64 s], .bool th, .bool b, .int .i64 0])) w' := by
  subst hx
  have hs : s = o.seq := by
    obtain ⟨_, _, e, _⟩ := hv
    simp at e
    exact e.2.2
  subst hs
  exact ⟨_, _, rfl, hv, hb⟩
theorem obv_data {A : Nat → Prop} {w : World} {dv kv s : Value} {o : ObD} (h : ObV A w (.agg #[dv, kv, s]) o) : RB A w dv o.data := by
  obtain ⟨d, k, e, hd, hk⟩ := h
  simp at e
  obtain ⟨rfl, -, -⟩ := e
  exact hd
/-- the blocks but the two boxes that are written -/
def Off (p : Nat) (b : Nat) : Prop := b ≠ p ∧ b ≠ p + 2
theorem off_set {p r j : Nat} {w : World} {v u : Value} {o : ObD} (h : ObV (Off p) w v o) (hr : r = p ∨ r = p + 2) : ObV (Off p) (w.setCell ⟨r, j, none⟩ u) v o :=
  h.mono ⟨by simp [World.setCell], fun b hb _ => Below.heap_setCell _ _ _ _ (by rcases hr with rfl | rfl; exact hb.1; exact hb.2)⟩
theorem off_end {p : Nat} {w : World} {v x y z : Value} {o : ObD} (h : ObV (Off p) w v o) : ObV (fun _ => True) (((w.setCell ⟨p + 2, 0, none⟩ x).setCell ⟨p + 2, 1, none⟩ y).setCell ⟨p + 2, 2, none⟩ z) v o :=
  (off_set (off_set (off_set h (.inr rfl)) (.inr rfl)) (.inr rfl)).weak fun _ _ _ => trivial
theorem off_low {p : Nat} {w : World} {v : Value} {o : ObD} (h : ObV (fun b => b < p) w v o) : ObV (Off p) w v o := h.weak fun b _ hb => ⟨by omega, by omega⟩
theorem rb_off {p : Nat} {w wc : World} {v : Value} {l : List UInt8} (h : RB (UpA (fun b => b < p) wc) w v l) (hc : p + 2 < wc.heap.size) : RB (Off p) w v l :=
  h.weak fun b _ hb => by
    rcases hb with hb | hb
    · exact ⟨by omega, by omega⟩
    · exact ⟨by omega, by omega⟩
theorem ob_off {p : Nat} {w wc : World} {v : Value} {o : ObD} (h : ObV (UpA (fun b => b < p) wc) w v o) (hc : p + 2 < wc.heap.size) : ObV (Off p) w v o :=
  h.weak fun b _ hb => by
    rcases hb with hb | hb
    · exact ⟨by omega, by omega⟩
    · exact ⟨by omega, by omega⟩
/-- another row of bytes for the data -/
theorem ob_data {A : Nat → Prop} {w : World} {dv kv nv s : Value} {o : ObD} {l : List UInt8} (h : ObV A w (.agg #[dv, kv, s]) o) (hl : RB A w nv l) : ObV A w (.agg #[nv, kv, s]) { o with data := l } := by
  obtain ⟨d, k, e, hd, hk⟩ := h
  simp at e
  obtain ⟨rfl, rfl, rfl⟩ := e
  exact ⟨nv, dv |> fun _ => kv, rfl, hl, hk⟩
theorem ob_seq {A : Nat → Prop} {w : World} {dv kv s : Value} {o : ObD} {n : Int} (h : ObV A w (.agg #[dv, kv, s]) o) : ObV A w (.agg #[dv, kv, .int .i64 n]) { o with seq := n } := by
  obtain ⟨d, k, e, hd, hk⟩ := h
  simp at e
  obtain ⟨rfl, rfl, -⟩ := e
  exact ⟨_, _, rfl, hd, hk⟩
theorem guardB_hi {o : ObD} {th : Bool} {op : OpD} (hk : 5 ≤ op.kind) : guardB o th op = (0, true) := by
  simp [guardB, show ¬ op.kind = 1 by omega, show ¬ op.kind = 2 by omega, show ¬ op.kind = 3 by omega, show ¬ op.kind = 4 by omega]
theorem doG_some {o o2 : ObD} {th : Bool} {op : OpD} (hk : 5 ≤ op.kind) (hc : changeB o op = some o2) : doG o th op = ⟨if thereB th op.kind then o2 else ObD.none, thereB th op.kind, true, 0⟩ := by
  have := doG_s (o1 := o) (th := th) (op := op) (by rw [guardB_hi hk]) hc
  rw [guardB_hi hk] at this
  exact this
theorem doG_none {o : ObD} {th : Bool} {op : OpD} (hk : 5 ≤ op.kind) (hc : changeB o op = none) : doG o th op = DoR.no 2 := doG_n (by rw [guardB_hi hk]) hc
theorem changeB_lo {o : ObD} {op : OpD} (h1 : 1 ≤ op.kind) (h2 : op.kind ≤ 4) : changeB o op = some o := by
  simp [changeB, show ¬ op.kind = 5 by omega, show ¬ op.kind = 6 by omega, show ¬ op.kind = 7 by omega, show ¬ op.kind = 8 by omega, show ¬ op.kind = 9 by omega, show ¬ op.kind = 10 by omega, show ¬ op.kind = 11 by omega, show ¬ op.kind = 12 by omega, show ¬ op.kind = 14 by omega]
theorem thereB_lo {th : Bool} {k : Int} (h : k ≤ 4) : thereB th k = th := by
  simp [thereB, show ¬ k = 5 by omega, show ¬ k = 8 by omega, show ¬ k = 9 by omega, show ¬ k = 11 by omega, show ¬ k = 12 by omega, show ¬ k = 13 by omega]
theorem doG_lo {o : ObD} {th : Bool} {op : OpD} {gb : Bool} (h1 : 1 ≤ op.kind) (h2 : op.kind ≤ 4) (hg : guardB o th op = (0, gb)) : doG o th op = ⟨if th then o else ObD.none, th, gb, 0⟩ := by
  have := doG_s (o1 := o) (th := th) (op := op) (by rw [hg]) (changeB_lo h1 h2)
  rw [hg, thereB_lo h2] at this
  exact this
theorem doG_err {o : ObD} {th : Bool} {op : OpD} {ge : Int} {gb : Bool} (hg : guardB o th op = (ge, gb)) (h : ge ≠ 0) : doG o th op = DoR.no ge := by
  have := doG_g (o1 := o) (th := th) (op := op) (by rw [hg]; exact h)
  rw [hg] at this
  exact this
set_option maxRecDepth 100000 in
set_option maxHeartbeats 16000000 in
theorem rdo_bad (A : Nat → Prop) (v : Value) (o : ObD) (th : Bool) (k off n : Int) (nm : ByteArray) (oa : Option Addr) (oc : Nat) (d : List UInt8) (w : World)
    (hv : ObV A w v o) (ho : o.okl) (hx : mayB o = false ∨ ¬ 1 ≤ k ∨ ¬ k ≤ 14) :
    Calls Tryd.prog 41 #[v, .bool th, opV k off n nm oa d.length oc] w (DoRR (doB o th ⟨k, off, n, nm, d⟩) w) := by
  have HX : Hid (doB o th ⟨k, off, n, nm, d⟩ = DoR.no 1) := Lib.hid (doB_bad hx)
  generalize doB o th ⟨k, off, n, nm, d⟩ = R at *
  obtain ⟨dv0, kv0, rfl, hdd, hkk⟩ := hv
  obtain ⟨da, dc, rfl⟩ := hdd.shape
  obtain ⟨ka, kc, rfl⟩ := hkk.shape
  have HOV : Hid (ObV A w _ o) := Lib.hid ⟨_, _, rfl, hdd, hkk⟩
  have hko := ho.keys
  unfold opV
  clear hdd hkk ho
  cases hm : mayB o with
  | false =>
    clear hx
    go_enter Tryd.func41, Tryd.ntmps41
    go_wp2_with fail
    obtain ⟨w0, hw0⟩ : ∃ w0, w0 = ((w.alloc (.cells #[.slice da o.data.length dc, .slice ka o.keys.length kc, .int .i64 o.seq] 39)).alloc (.cells #[.int .i64 k, .int .i64 off, .int .i64 n, .string nm, .slice oa d.length oc] 48)).alloc (.cells #[.slice none 0 0, .slice none 0 0, .int .i64 0] 39) := ⟨_, rfl⟩
    rw [← hw0]
    have b0 : w0.heap[w.heap.size]? = some (.cells #[.slice da o.data.length dc, .slice ka o.keys.length kc, .int .i64 o.seq] 39 (0, 0)) := by rw [hw0]; exact dnew (dnew (heap_alloc_new _ _) _) _
    have b1 : w0.heap[w.heap.size + 1]? = some (.cells #[.int .i64 k, .int .i64 off, .int .i64 n, .string nm, .slice oa d.length oc] 48 (0, 0)) := by rw [hw0]; exact dnew (heap_alloc2_new _ _ _) _
    have b2 : w0.heap[w.heap.size + 2]? = some (.cells #[.slice none 0 0, .slice none 0 0, .int .i64 0] 39 (0, 0)) := by rw [hw0]; have h := fun (W : World) o' => heap_alloc_new W o'; have := h ((w.alloc (.cells #[.slice da o.data.length dc, .slice ka o.keys.length kc, .int .i64 o.seq] 39)).alloc (.cells #[.int .i64 k, .int .i64 off, .int .i64 n, .string nm, .slice oa d.length oc] 48)) (.cells #[.slice none 0 0, .slice none 0 0, .int .i64 0] 39); simpa using this
    have hw : Below w.heap.size w w0 := by rw [hw0]; ((repeat' (first | exact Below.refl _ _ | refine below_drewN ?_ _ | refine Below.drew ?_ | refine Below.alloc ?_ ?_ _ | refine Below.trans ?_ (Below.mono (by assumption) ?_))); all_goals (first | exact Nat.le_refl _ | exact Below.size (by assumption) | omega | (simp; done) | (simp; omega)))
    clear hw0
    refine (rmay8_any A _ o _ (HOV.out.ext hw) (by omega)).mono ?_
    rintro e w1 ⟨rfl, hb1⟩
    have HW1 := Lib.hid (dcall hw hb1)
    have HP1 := Lib.hid (dblk hb1 b0)
    have HC1 := Lib.hid (dblk hb1 b1)
    have HR1 := Lib.hid (dblk hb1 b2)
    rw [hm]
    clear hb1 b0 b1 b2 hw hm
    obtain ⟨y0, e0⟩ := blk_cell (i := 0) (HP1.out)
    obtain ⟨y1, e1⟩ := blk_cell (i := 1) (HP1.out)
    obtain ⟨y2, e2⟩ := blk_cell (i := 2) (HP1.out)
    simp at y0 y1 y2
    obtain ⟨x0, f0⟩ := blk_cell (i := 0) (HR1.out)
    obtain ⟨x1, f1⟩ := blk_cell (i := 1) (HR1.out)
    obtain ⟨x2, f2⟩ := blk_cell (i := 2) (HR1.out)
    simp at x0 x1 x2
    obtain ⟨z0, z1, z2, z3, z4⟩ := five_cells HC1.out
    go_wp2
    refine bodyPost_ret (results_cell3 rfl _ _ (w.heap.size + 2) 39 _ (0, 0) _ rfl (set3_blk HR1.out) Tryd.underlying39 rfl (by kernel_rfl)) rfl ?_
    exact DoRR.no HX.out (below3 HW1.out (by omega) _ _ _)
  | true =>
    rcases hx with hx | hx | hx
    · rw [hx] at hm; cases hm
    · have hk2 : decide (k < 1) = true := decide_eq_true (by omega)
      clear hx
      go_enter Tryd.func41, Tryd.ntmps41
      go_wp2_with fail
      obtain ⟨w0, hw0⟩ : ∃ w0, w0 = ((w.alloc (.cells #[.slice da o.data.length dc, .slice ka o.keys.length kc, .int .i64 o.seq] 39)).alloc (.cells #[.int .i64 k, .int .i64 off, .int .i64 n, .string nm, .slice oa d.length oc] 48)).alloc (.cells #[.slice none 0 0, .slice none 0 0, .int .i64 0] 39) := ⟨_, rfl⟩
      rw [← hw0]
      have b0 : w0.heap[w.heap.size]? = some (.cells #[.slice da o.data.length dc, .slice ka o.keys.length kc, .int .i64 o.seq] 39 (0, 0)) := by rw [hw0]; exact dnew (dnew (heap_alloc_new _ _) _) _
      have b1 : w0.heap[w.heap.size + 1]? = some (.cells #[.int .i64 k, .int .i64 off, .int .i64 n, .string nm, .slice oa d.length oc] 48 (0, 0)) := by rw [hw0]; exact dnew (heap_alloc2_new _ _ _) _
      have b2 : w0.heap[w.heap.size + 2]? = some (.cells #[.slice none 0 0, .slice none 0 0, .int .i64 0] 39 (0, 0)) := by rw [hw0]; have h := fun (W : World) o' => heap_alloc_new W o'; have := h ((w.alloc (.cells #[.slice da o.data.length dc, .slice ka o.keys.length kc, .int .i64 o.seq] 39)).alloc (.cells #[.int .i64 k, .int .i64 off, .int .i64 n, .string nm, .slice oa d.length oc] 48)) (.cells #[.slice none 0 0, .slice none 0 0, .int .i64 0] 39); simpa using this
      have hw : Below w.heap.size w w0 := by rw [hw0]; ((repeat' (first | exact Below.refl _ _ | refine below_drewN ?_ _ | refine Below.drew ?_ | refine Below.alloc ?_ ?_ _ | refine Below.trans ?_ (Below.mono (by assumption) ?_))); all_goals (first | exact Nat.le_refl _ | exact Below.size (by assumption) | omega | (simp; done) | (simp; omega)))
      clear hw0
      refine (rmay8_any A _ o _ (HOV.out.ext hw) (by omega)).mono ?_
      rintro e w1 ⟨rfl, hb1⟩
      have HW1 := Lib.hid (dcall hw hb1)
      have HP1 := Lib.hid (dblk hb1 b0)
      have HC1 := Lib.hid (dblk hb1 b1)
      have HR1 := Lib.hid (dblk hb1 b2)
      rw [hm]
      clear hb1 b0 b1 b2 hw hm
      obtain ⟨y0, e0⟩ := blk_cell (i := 0) (HP1.out)
      obtain ⟨y1, e1⟩ := blk_cell (i := 1) (HP1.out)
      obtain ⟨y2, e2⟩ := blk_cell (i := 2) (HP1.out)
      simp at y0 y1 y2
      obtain ⟨x0, f0⟩ := blk_cell (i := 0) (HR1.out)
      obtain ⟨x1, f1⟩ := blk_cell (i := 1) (HR1.out)
      obtain ⟨x2, f2⟩ := blk_cell (i := 2) (HR1.out)
      simp at x0 x1 x2
      obtain ⟨z0, z1, z2, z3, z4⟩ := five_cells HC1.out
      go_wp2
      refine bodyPost_ret (results_cell3 rfl _ _ (w.heap.size + 2) 39 _ (0, 0) _ rfl (set3_blk HR1.out) Tryd.underlying39 rfl (by kernel_rfl)) rfl ?_
      exact DoRR.no HX.out (below3 HW1.out (by omega) _ _ _)
    · have hk1 : decide (k < 1) = false := decide_eq_false (by omega)
      have hk2 : decide (14 < k) = true := decide_eq_true (by omega)
      clear hx
      go_enter Tryd.func41, Tryd.ntmps41
      go_wp2_with fail
      obtain ⟨w0, hw0⟩ : ∃ w0, w0 = ((w.alloc (.cells #[.slice da o.data.length dc, .slice ka o.keys.length kc, .int .i64 o.seq] 39)).alloc (.cells #[.int .i64 k, .int .i64 off, .int .i64 n, .string nm, .slice oa d.length oc] 48)).alloc (.cells #[.slice none 0 0, .slice none 0 0, .int .i64 0] 39) := ⟨_, rfl⟩
      rw [← hw0]
      have b0 : w0.heap[w.heap.size]? = some (.cells #[.slice da o.data.length dc, .slice ka o.keys.length kc, .int .i64 o.seq] 39 (0, 0)) := by rw [hw0]; exact dnew (dnew (heap_alloc_new _ _) _) _
      have b1 : w0.heap[w.heap.size + 1]? = some (.cells #[.int .i64 k, .int .i64 off, .int .i64 n, .string nm, .slice oa d.length oc] 48 (0, 0)) := by rw [hw0]; exact dnew (heap_alloc2_new _ _ _) _
      have b2 : w0.heap[w.heap.size + 2]? = some (.cells #[.slice none 0 0, .slice none 0 0, .int .i64 0] 39 (0, 0)) := by rw [hw0]; have h := fun (W : World) o' => heap_alloc_new W o'; have := h ((w.alloc (.cells #[.slice da o.data.length dc, .slice ka o.keys.length kc, .int .i64 o.seq] 39)).alloc (.cells #[.int .i64 k, .int .i64 off, .int .i64 n, .string nm, .slice oa d.length oc] 48)) (.cells #[.slice none 0 0, .slice none 0 0, .int .i64 0] 39); simpa using this
      have hw : Below w.heap.size w w0 := by rw [hw0]; ((repeat' (first | exact Below.refl _ _ | refine below_drewN ?_ _ | refine Below.drew ?_ | refine Below.alloc ?_ ?_ _ | refine Below.trans ?_ (Below.mono (by assumption) ?_))); all_goals (first | exact Nat.le_refl _ | exact Below.size (by assumption) | omega | (simp; done) | (simp; omega)))
      clear hw0
      refine (rmay8_any A _ o _ (HOV.out.ext hw) (by omega)).mono ?_
      rintro e w1 ⟨rfl, hb1⟩
      have HW1 := Lib.hid (dcall hw hb1)
      have HP1 := Lib.hid (dblk hb1 b0)
      have HC1 := Lib.hid (dblk hb1 b1)
      have HR1 := Lib.hid (dblk hb1 b2)
      rw [hm]
      clear hb1 b0 b1 b2 hw hm
      obtain ⟨y0, e0⟩ := blk_cell (i := 0) (HP1.out)
      obtain ⟨y1, e1⟩ := blk_cell (i := 1) (HP1.out)
      obtain ⟨y2, e2⟩ := blk_cell (i := 2) (HP1.out)
      simp at y0 y1 y2
      obtain ⟨x0, f0⟩ := blk_cell (i := 0) (HR1.out)
      obtain ⟨x1, f1⟩ := blk_cell (i := 1) (HR1.out)
      obtain ⟨x2, f2⟩ := blk_cell (i := 2) (HR1.out)
      simp at x0 x1 x2
      obtain ⟨z0, z1, z2, z3, z4⟩ := five_cells HC1.out
      go_wp2
      refine bodyPost_ret (results_cell3 rfl _ _ (w.heap.size + 2) 39 _ (0, 0) _ rfl (set3_blk HR1.out) Tryd.underlying39 rfl (by kernel_rfl)) rfl ?_
      exact DoRR.no HX.out (below3 HW1.out (by omega) _ _ _)
end Go.Proofs.YtfeonfihlleoeaaDoor
