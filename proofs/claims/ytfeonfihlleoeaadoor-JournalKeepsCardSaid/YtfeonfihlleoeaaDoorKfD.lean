/- terrazzoref08.Do: its second contract, for the ops that a journal has. (printed by gen_kf.py) -/
import Derived.Test.YtfeonfihlleoeaaDoorGAY
import Derived.Deep.DeepCutAuto
namespace Go.Proofs.YtfeonfihlleoeaaDoor
open Go.RowKit Go.WideShapes

set_option maxRecDepth 100000 in
set_option maxHeartbeats 16000000 in
theorem rdoF_4_true (K0 : Nat) (A B : Nat → Prop) (v : Value) (o : ObD) (off n : Int) (nm : ByteArray) (oa : Option Addr) (oc : Nat) (d : List UInt8) (w : World)
    (hv : ObV A w v o) (hm : mayB o = true) (hd : RB B w (.slice oa d.length oc) d) (_hl : d.length ≤ 50000) (hkf : ∀ d k s, v = .agg #[d, k, s] → KF K0 w k) (_hK0 : K0 ≤ w.heap.size) :
    Calls Tryd.prog 41 #[v, .bool true, opV 4 off n nm oa d.length oc] w (DoRF K0 (doG (o) true ⟨4, off, n, nm, d⟩) w) := by
  have ho := okl_of hm
  obtain ⟨dv0, kv0, rfl, hdd, hkk⟩ := hv
  obtain ⟨da, dc, rfl⟩ := hdd.shape
  obtain ⟨ka, kc, rfl⟩ := hkk.shape
  have HOV : Hid (ObV A w _ o) := Lib.hid ⟨_, _, rfl, hdd, hkk⟩
  have HD : Hid (RB (fun b => b < w.heap.size) w _ d) := Lib.hid (hd.weak fun b h _ => h)
  have HKF : Hid (KF K0 w (.slice ka o.keys.length kc)) := Lib.hid (hkf _ _ _ rfl)
  clear hkf
  have hko := ho.keys
  have hmd := ((mayB_iff o).1 hm).1
  have HL := Lib.hid ho
  unfold opV
  clear hdd hkk ho hd
  go_enter Tryd.func41, Tryd.ntmps41
  go_wp2_with fail
  obtain ⟨w0, hw0⟩ : ∃ w0, w0 = ((w.alloc (.cells #[.slice da o.data.length dc, .slice ka o.keys.length kc, .int .i64 o.seq] 39)).alloc (.cells #[.int .i64 4, .int .i64 off, .int .i64 n, .string nm, .slice oa d.length oc] 48)).alloc (.cells #[.slice none 0 0, .slice none 0 0, .int .i64 0] 39) := ⟨_, rfl⟩
  rw [← hw0]
  have b0 : w0.heap[w.heap.size]? = some (.cells #[.slice da o.data.length dc, .slice ka o.keys.length kc, .int .i64 o.seq] 39 (0, 0)) := by rw [hw0]; exact dnew (dnew (heap_alloc_new _ _) _) _
  have b1 : w0.heap[w.heap.size + 1]? = some (.cells #[.int .i64 4, .int .i64 off, .int .i64 n, .string nm, .slice oa d.length oc] 48 (0, 0)) := by rw [hw0]; exact dnew (heap_alloc2_new _ _ _) _
  have b2 : w0.heap[w.heap.size + 2]? = some (.cells #[.slice none 0 0, .slice none 0 0, .int .i64 0] 39 (0, 0)) := by rw [hw0]; have h := fun (W : World) o' => heap_alloc_new W o'; have := h ((w.alloc (.cells #[.slice da o.data.length dc, .slice ka o.keys.length kc, .int .i64 o.seq] 39)).alloc (.cells #[.int .i64 4, .int .i64 off, .int .i64 n, .string nm, .slice oa d.length oc] 48)) (.cells #[.slice none 0 0, .slice none 0 0, .int .i64 0] 39); simpa using this
  have hw : Below w.heap.size w w0 := by rw [hw0]; ((repeat' (first | exact Below.refl _ _ | refine below_drewN ?_ _ | refine Below.drew ?_ | refine Below.alloc ?_ ?_ _ | refine Below.trans ?_ (Below.mono (by assumption) ?_))); all_goals (first | exact Nat.le_refl _ | exact Below.size (by assumption) | omega | (simp; done) | (simp; omega)))
  clear hw0
  refine (rmay8_any A _ o _ (HOV.out.ext hw) (by omega)).mono ?_
  rintro e w1 ⟨rfl, hb1⟩
  have HW1 := Lib.hid (dcall hw hb1)
  have HP1 := Lib.hid (dblk hb1 b0)
  have HC1 := Lib.hid (dblk hb1 b1)
  have HR1 := Lib.hid (dblk hb1 b2)
  rw [hm]
  clear hb1 b0 b1 b2 hw hm
  obtain ⟨y0, e0⟩ := blk_cell (i := 0) (HP1.out)
  obtain ⟨y1, e1⟩ := blk_cell (i := 1) (HP1.out)
  obtain ⟨y2, e2⟩ := blk_cell (i := 2) (HP1.out)
  simp at y0 y1 y2
  obtain ⟨x0, f0⟩ := blk_cell (i := 0) (HR1.out)
  obtain ⟨x1, f1⟩ := blk_cell (i := 1) (HR1.out)
  obtain ⟨x2, f2⟩ := blk_cell (i := 2) (HR1.out)
  simp at x0 x1 x2
  obtain ⟨z0, z1, z2, z3, z4⟩ := five_cells HC1.out
  go_upto_region 6 with fail
  have HV2 : Hid (ObV (fun b => b < w.heap.size) w1 (.agg #[.slice da o.data.length dc, .slice ka o.keys.length kc, .int .i64 o.seq]) o) := Lib.hid ((HOV.out.cut.weak fun b _ h => h.2).ext HW1.out)
  have HP2 := Lib.hid HP1.out
  have HC2 := Lib.hid HC1.out
  have HR2 := Lib.hid HR1.out
  have HW2 := Lib.hid HW1.out
  have hsz2 : w.heap.size + 2 < w1.heap.size := (Array.getElem?_eq_some_iff.1 HR1.out).1
  obtain ⟨w2, hw2⟩ : ∃ w2, w2 = w1 := ⟨_, rfl⟩
  subst hw2
  clear HP1 HC1 HR1 HW1 HOV x0 x1 x2 f0 f1 f2 y0 y1 y2 e0 e1 e2 z0 z1 z2 z3 z4
  obtain ⟨y0, e0⟩ := blk_cell (i := 0) (HP2.out)
  obtain ⟨y1, e1⟩ := blk_cell (i := 1) (HP2.out)
  obtain ⟨y2, e2⟩ := blk_cell (i := 2) (HP2.out)
  simp at y0 y1 y2
  obtain ⟨x0, f0⟩ := blk_cell (i := 0) (HR2.out)
  obtain ⟨x1, f1⟩ := blk_cell (i := 1) (HR2.out)
  obtain ⟨x2, f2⟩ := blk_cell (i := 2) (HR2.out)
  simp at x0 x1 x2
  obtain ⟨z0, z1, z2, z3, z4⟩ := five_cells HC2.out
  obtain ⟨⟨ge, gb⟩, hG⟩ : ∃ x, guardB (o) true ⟨4, off, n, nm, d⟩ = x := ⟨_, rfl⟩
  have HG := Lib.hid hG
  have hgc := fun W h1 h3 => rguard_any (fun b => b < w.heap.size) (fun b => b < w.heap.size) (.agg #[.slice da o.data.length dc, .slice ka o.keys.length kc, .int .i64 o.seq]) (o) true 4 off n nm oa oc d W h1 HL.out h3 (by decide) (by decide)
  rw [hG] at hgc
  unfold opV at hgc
  clear hG
  go_wp2_with fail
  refine (hgc _ HV2.out (RB.ext HD.out HW2.out)).mono ?_
  rintro e w3 ⟨rfl, hb3⟩
  have HV3 := Lib.hid (off_low (HV2.out.ext hb3))
  have HP3 := Lib.hid (dblk hb3 HP2.out)
  have HR3 := Lib.hid (dblk hb3 HR2.out)
  have HW3 := Lib.hid (dcall HW2.out hb3)
  clear hb3 hgc x0 x1 x2 f0 f1 f2 y0 y1 y2 e0 e1 e2 z0 z1 z2 z3 z4
  by_cases hg0 : ge = 0
  · subst hg0
    have HX := Lib.hid (doG_lo (by simp) (by simp) HG.out)
    obtain ⟨y0, e0⟩ := blk_cell (i := 0) (HP3.out)
    obtain ⟨y1, e1⟩ := blk_cell (i := 1) (HP3.out)
    obtain ⟨y2, e2⟩ := blk_cell (i := 2) (HP3.out)
    simp at y0 y1 y2
    obtain ⟨x0, f0⟩ := blk_cell (i := 0) (HR3.out)
    obtain ⟨x1, f1⟩ := blk_cell (i := 1) (HR3.out)
    obtain ⟨x2, f2⟩ := blk_cell (i := 2) (HR3.out)
    simp at x0 x1 x2
    go_wp2
    refine bodyPost_ret (results_cell3 rfl _ _ (w.heap.size + 2) 39 _ (0, 0) _ rfl (set3_blk HR3.out) Tryd.underlying39 rfl (by kernel_rfl)) rfl ?_
    exact DoRF.ok HX.out (off_end HV3.out) (below3 HW3.out (by omega) _ _ _) (HKF.out.ext (below3 HW3.out (by omega) _ _ _))
  · have HX := Lib.hid (doG_err HG.out hg0)
    have q1 : (ge != 0) = true := by simpa using hg0
    have q2 : (ge == 0) = false := by simpa using hg0
    clear hg0
    obtain ⟨x0, f0⟩ := blk_cell (i := 0) (HR3.out)
    obtain ⟨x1, f1⟩ := blk_cell (i := 1) (HR3.out)
    obtain ⟨x2, f2⟩ := blk_cell (i := 2) (HR3.out)
    simp at x0 x1 x2
    go_wp2
    refine bodyPost_ret (results_cell3 rfl _ _ (w.heap.size + 2) 39 _ (0, 0) _ rfl (set3_blk HR3.out) Tryd.underlying39 rfl (by kernel_rfl)) rfl ?_
    exact DoRF.no HX.out (below3 HW3.out (by omega) _ _ _)
set_option maxRecDepth 100000 in
set_option maxHeartbeats 16000000 in
theorem rdoF_9_true (K0 : Nat) (A B : Nat → Prop) (v : Value) (o : ObD) (off n : Int) (nm : ByteArray) (oa : Option Addr) (oc : Nat) (d : List UInt8) (w : World)
    (hv : ObV A w v o) (hm : mayB o = true) (hd : RB B w (.slice oa d.length oc) d) (hl : d.length ≤ 50000) (hkf : ∀ d k s, v = .agg #[d, k, s] → KF K0 w k) (hK0 : K0 ≤ w.heap.size) :
    Calls Tryd.prog 41 #[v, .bool true, opV 9 off n nm oa d.length oc] w (DoRF K0 (doG (o) true ⟨9, off, n, nm, d⟩) w) := by
  have ho := okl_of hm
  obtain ⟨dv0, kv0, rfl, hdd, hkk⟩ := hv
  obtain ⟨da, dc, rfl⟩ := hdd.shape
  obtain ⟨ka, kc, rfl⟩ := hkk.shape
  have HOV : Hid (ObV A w _ o) := Lib.hid ⟨_, _, rfl, hdd, hkk⟩
  have HD : Hid (RB (fun b => b < w.heap.size) w _ d) := Lib.hid (hd.weak fun b h _ => h)
  have HKF : Hid (KF K0 w (.slice ka o.keys.length kc)) := Lib.hid (hkf _ _ _ rfl)
  clear hkf
  have hko := ho.keys
  have hmd := ((mayB_iff o).1 hm).1
  have HL := Lib.hid ho
  unfold opV
  clear hdd hkk ho hd
  go_enter Tryd.func41, Tryd.ntmps41
  go_wp2_with fail
  obtain ⟨w0, hw0⟩ : ∃ w0, w0 = ((w.alloc (.cells #[.slice da o.data.length dc, .slice ka o.keys.length kc, .int .i64 o.seq] 39)).alloc (.cells #[.int .i64 9, .int .i64 off, .int .i64 n, .string nm, .slice oa d.length oc] 48)).alloc (.cells #[.slice none 0 0, .slice none 0 0, .int .i64 0] 39) := ⟨_, rfl⟩
  rw [← hw0]
  have b0 : w0.heap[w.heap.size]? = some (.cells #[.slice da o.data.length dc, .slice ka o.keys.length kc, .int .i64 o.seq] 39 (0, 0)) := by rw [hw0]; exact dnew (dnew (heap_alloc_new _ _) _) _
  have b1 : w0.heap[w.heap.size + 1]? = some (.cells #[.int .i64 9, .int .i64 off, .int .i64 n, .string nm, .slice oa d.length oc] 48 (0, 0)) := by rw [hw0]; exact dnew (heap_alloc2_new _ _ _) _
  have b2 : w0.heap[w.heap.size + 2]? = some (.cells #[.slice none 0 0, .slice none 0 0, .int .i64 0] 39 (0, 0)) := by rw [hw0]; have h := fun (W : World) o' => heap_alloc_new W o'; have := h ((w.alloc (.cells #[.slice da o.data.length dc, .slice ka o.keys.length kc, .int .i64 o.seq] 39)).alloc (.cells #[.int .i64 9, .int .i64 off, .int .i64 n, .string nm, .slice oa d.length oc] 48)) (.cells #[.slice none 0 0, .slice none 0 0, .int .i64 0] 39); simpa using this
  have hw : Below w.heap.size w w0 := by rw [hw0]; ((repeat' (first | exact Below.refl _ _ | refine below_drewN ?_ _ | refine Below.drew ?_ | refine Below.alloc ?_ ?_ _ | refine Below.trans ?_ (Below.mono (by assumption) ?_))); all_goals (first | exact Nat.le_refl _ | exact Below.size (by assumption) | omega | (simp; done) | (simp; omega)))
  clear hw0
  refine (rmay8_any A _ o _ (HOV.out.ext hw) (by omega)).mono ?_
  rintro e w1 ⟨rfl, hb1⟩
  have HW1 := Lib.hid (dcall hw hb1)
  have HP1 := Lib.hid (dblk hb1 b0)
  have HC1 := Lib.hid (dblk hb1 b1)
  have HR1 := Lib.hid (dblk hb1 b2)
  rw [hm]
  clear hb1 b0 b1 b2 hw hm
  obtain ⟨y0, e0⟩ := blk_cell (i := 0) (HP1.out)
  obtain ⟨y1, e1⟩ := blk_cell (i := 1) (HP1.out)
  obtain ⟨y2, e2⟩ := blk_cell (i := 2) (HP1.out)
  simp at y0 y1 y2
  obtain ⟨x0, f0⟩ := blk_cell (i := 0) (HR1.out)
  obtain ⟨x1, f1⟩ := blk_cell (i := 1) (HR1.out)
  obtain ⟨x2, f2⟩ := blk_cell (i := 2) (HR1.out)
  simp at x0 x1 x2
  obtain ⟨z0, z1, z2, z3, z4⟩ := five_cells HC1.out
  go_upto_region 6 with fail
  have HV2 : Hid (ObV (fun b => b < w.heap.size) w1 (.agg #[.slice da o.data.length dc, .slice ka o.keys.length kc, .int .i64 o.seq]) o) := Lib.hid ((HOV.out.cut.weak fun b _ h => h.2).ext HW1.out)
  have HP2 := Lib.hid HP1.out
  have HC2 := Lib.hid HC1.out
  have HR2 := Lib.hid HR1.out
  have HW2 := Lib.hid HW1.out
  have hsz2 : w.heap.size + 2 < w1.heap.size := (Array.getElem?_eq_some_iff.1 HR1.out).1
  obtain ⟨w2, hw2⟩ : ∃ w2, w2 = w1 := ⟨_, rfl⟩
  subst hw2
  clear HP1 HC1 HR1 HW1 HOV x0 x1 x2 f0 f1 f2 y0 y1 y2 e0 e1 e2 z0 z1 z2 z3 z4
  obtain ⟨y0, e0⟩ := blk_cell (i := 0) (HP2.out)
  obtain ⟨y1, e1⟩ := blk_cell (i := 1) (HP2.out)
  obtain ⟨y2, e2⟩ := blk_cell (i := 2) (HP2.out)
  simp at y0 y1 y2
  obtain ⟨x0, f0⟩ := blk_cell (i := 0) (HR2.out)
  obtain ⟨x1, f1⟩ := blk_cell (i := 1) (HR2.out)
  obtain ⟨x2, f2⟩ := blk_cell (i := 2) (HR2.out)
  simp at x0 x1 x2
  obtain ⟨z0, z1, z2, z3, z4⟩ := five_cells HC2.out
  have hcl := fun W h1 h2 (h3 : K0 ≤ W.heap.size) => rkey_kf K0 (fun b => b < w.heap.size) (.agg #[.slice da o.data.length dc, .slice ka o.keys.length kc, .int .i64 o.seq]) (o) off n nm oa oc d W h1 HL.out h2 hl h3
  unfold opV at hcl
  have hch : changeB (o) ⟨9, off, n, nm, d⟩ = keyOp (o) nm d := by simp [changeB]
  cases hx : keyOp (o) nm d with
  | none =>
    rw [hx] at hcl hch
    have HX := Lib.hid (doG_none (o := o) (th := true) (op := ⟨9, off, n, nm, d⟩) (by simp) hch)
    have HCL := Lib.hid hcl
    clear hcl hx hch
    go_wp2_with fail
    refine (HCL.out _ HV2.out (RB.ext HD.out HW2.out) (Nat.le_trans hK0 HW2.out.size)).mono ?_
    rintro e w3 ⟨dv3, kv3, rfl, h3, hb3, hkf3⟩
    clear hkf3
    have h3 : ObV _ w3 (.agg #[dv3, kv3, .int .i64 (o).seq]) (o) := h3
    obtain ⟨⟨a3, c3, rfl⟩, ⟨u3, q3, rfl⟩⟩ := obv_shape h3
    have H3 := Lib.hid (h3)
    have HV3 := Lib.hid (off_low (HV2.out.ext hb3))
    have HP3 := Lib.hid (dblk hb3 HP2.out)
    have HC3 := Lib.hid (dblk hb3 HC2.out)
    have HR3 := Lib.hid (dblk hb3 HR2.out)
    have HW3 := Lib.hid (dcall HW2.out hb3)
    clear hb3 h3 x0 x1 x2 f0 f1 f2 y0 y1 y2 e0 e1 e2 z0 z1 z2 z3 z4
    obtain ⟨y0, e0⟩ := blk_cell (i := 0) (HP3.out)
    obtain ⟨y1, e1⟩ := blk_cell (i := 1) (HP3.out)
    obtain ⟨y2, e2⟩ := blk_cell (i := 2) (HP3.out)
    simp at y0 y1 y2
    obtain ⟨z0, z1, z2, z3, z4⟩ := five_cells HC3.out
    simp only [Option.isSome, Option.getD]
    go_upto_region 32 with fail
    obtain ⟨w4, hw4⟩ : ∃ w4, w4 = ((w3.setCell ⟨w.heap.size, 0, none⟩ (.slice a3 (o).data.length c3)).setCell ⟨w.heap.size, 1, none⟩ (.slice u3 (o).keys.length q3)).setCell ⟨w.heap.size, 2, none⟩ (.int .i64 (o).seq) := ⟨_, rfl⟩
    rw [← hw4]
    have HP4 := Lib.hid (show w4.heap[w.heap.size]? = some (.cells #[.slice a3 (o).data.length c3, .slice u3 (o).keys.length q3, .int .i64 (o).seq] 39 (0, 0)) from by rw [hw4]; exact set3_blk HP3.out)
    have HC4 := Lib.hid (dset3 hw4 (by simp) HC3.out)
    have HR4 := Lib.hid (dset3 hw4 (show w.heap.size + 2 ≠ w.heap.size by omega) HR3.out)
    have HW4 := Lib.hid (show Below w.heap.size w w4 from by rw [hw4]; exact below3 HW3.out (Nat.le_refl _) _ _ _)
    have HWE := Lib.hid hw4
    obtain ⟨z0, z1, z2, z3, z4⟩ := five_cells HC4.out
    clear hw4 y0 y1 y2 e0 e1 e2
    obtain ⟨x0, f0⟩ := blk_cell (i := 0) (HR4.out)
    obtain ⟨x1, f1⟩ := blk_cell (i := 1) (HR4.out)
    obtain ⟨x2, f2⟩ := blk_cell (i := 2) (HR4.out)
    simp at x0 x1 x2
    go_wp2
    refine bodyPost_ret (results_cell3 rfl _ _ (w.heap.size + 2) 39 _ (0, 0) _ rfl (set3_blk HR4.out) Tryd.underlying39 rfl (by kernel_rfl)) rfl ?_
    exact DoRF.no HX.out (below3 HW4.out (by omega) _ _ _)
  | some O2 =>
    rw [hx] at hcl hch
    have HX : Hid (doG (o) true ⟨9, off, n, nm, d⟩ = ⟨O2, true, true, 0⟩) := Lib.hid ((doG_some (o := o) (th := true) (op := ⟨9, off, n, nm, d⟩) (by simp) hch).trans (by simp [thereB]))
    have HCL := Lib.hid hcl
    clear hcl hx hch
    go_wp2_with fail
    refine (HCL.out _ HV2.out (RB.ext HD.out HW2.out) (Nat.le_trans hK0 HW2.out.size)).mono ?_
    rintro e w3 ⟨dv3, kv3, rfl, h3, hb3, hkf3⟩
    have h3 : ObV _ w3 (.agg #[dv3, kv3, .int .i64 O2.seq]) O2 := h3
    obtain ⟨⟨a3, c3, rfl⟩, ⟨u3, q3, rfl⟩⟩ := obv_shape h3
    have HKF3 := Lib.hid (hkf3 rfl)
    clear hkf3
    have H3 := Lib.hid (ob_off h3 hsz2)
    have HV3 := Lib.hid (off_low (HV2.out.ext hb3))
    have HP3 := Lib.hid (dblk hb3 HP2.out)
    have HC3 := Lib.hid (dblk hb3 HC2.out)
    have HR3 := Lib.hid (dblk hb3 HR2.out)
    have HW3 := Lib.hid (dcall HW2.out hb3)
    clear hb3 h3 x0 x1 x2 f0 f1 f2 y0 y1 y2 e0 e1 e2 z0 z1 z2 z3 z4
    obtain ⟨y0, e0⟩ := blk_cell (i := 0) (HP3.out)
    obtain ⟨y1, e1⟩ := blk_cell (i := 1) (HP3.out)
    obtain ⟨y2, e2⟩ := blk_cell (i := 2) (HP3.out)
    simp at y0 y1 y2
    obtain ⟨z0, z1, z2, z3, z4⟩ := five_cells HC3.out
    simp only [Option.isSome, Option.getD]
    go_upto_region 32 with fail
    obtain ⟨w4, hw4⟩ : ∃ w4, w4 = ((w3.setCell ⟨w.heap.size, 0, none⟩ (.slice a3 O2.data.length c3)).setCell ⟨w.heap.size, 1, none⟩ (.slice u3 O2.keys.length q3)).setCell ⟨w.heap.size, 2, none⟩ (.int .i64 O2.seq) := ⟨_, rfl⟩
    rw [← hw4]
    have HP4 := Lib.hid (show w4.heap[w.heap.size]? = some (.cells #[.slice a3 O2.data.length c3, .slice u3 O2.keys.length q3, .int .i64 O2.seq] 39 (0, 0)) from by rw [hw4]; exact set3_blk HP3.out)
    have HC4 := Lib.hid (dset3 hw4 (by simp) HC3.out)
    have HR4 := Lib.hid (dset3 hw4 (show w.heap.size + 2 ≠ w.heap.size by omega) HR3.out)
    have HW4 := Lib.hid (show Below w.heap.size w w4 from by rw [hw4]; exact below3 HW3.out (Nat.le_refl _) _ _ _)
    have HWE := Lib.hid hw4
    obtain ⟨z0, z1, z2, z3, z4⟩ := five_cells HC4.out
    clear hw4 y0 y1 y2 e0 e1 e2
    have HV4 : Hid (ObV (Off w.heap.size) w4 (.agg #[.slice a3 O2.data.length c3, .slice u3 O2.keys.length q3, .int .i64 O2.seq]) O2) := Lib.hid (by rw [HWE.out]; exact off_set (off_set (off_set H3.out (.inl rfl)) (.inl rfl)) (.inl rfl))
    obtain ⟨y0, e0⟩ := blk_cell (i := 0) (HP4.out)
    obtain ⟨y1, e1⟩ := blk_cell (i := 1) (HP4.out)
    obtain ⟨y2, e2⟩ := blk_cell (i := 2) (HP4.out)
    simp at y0 y1 y2
    obtain ⟨x0, f0⟩ := blk_cell (i := 0) (HR4.out)
    obtain ⟨x1, f1⟩ := blk_cell (i := 1) (HR4.out)
    obtain ⟨x2, f2⟩ := blk_cell (i := 2) (HR4.out)
    simp at x0 x1 x2
    go_wp2
    refine bodyPost_ret (results_cell3 rfl _ _ (w.heap.size + 2) 39 _ (0, 0) _ rfl (set3_blk HR4.out) Tryd.underlying39 rfl (by kernel_rfl)) rfl ?_
    exact DoRF.ok HX.out (off_end HV4.out) (below3 HW4.out (by omega) _ _ _) (by rw [HWE.out]; exact (((((HKF3.out.set _ _).set _ _).set _ _).set _ _).set _ _).set _ _)
set_option maxRecDepth 100000 in
set_option maxHeartbeats 16000000 in
theorem rdoF_10_true (K0 : Nat) (A B : Nat → Prop) (v : Value) (o : ObD) (off n : Int) (nm : ByteArray) (oa : Option Addr) (oc : Nat) (d : List UInt8) (w : World)
    (hv : ObV A w v o) (hm : mayB o = true) (hd : RB B w (.slice oa d.length oc) d) (_hl : d.length ≤ 50000) (hkf : ∀ d k s, v = .agg #[d, k, s] → KF K0 w k) (hK0 : K0 ≤ w.heap.size) :
    Calls Tryd.prog 41 #[v, .bool true, opV 10 off n nm oa d.length oc] w (DoRF K0 (doG (o) true ⟨10, off, n, nm, d⟩) w) := by
  have ho := okl_of hm
  obtain ⟨dv0, kv0, rfl, hdd, hkk⟩ := hv
  obtain ⟨da, dc, rfl⟩ := hdd.shape
  obtain ⟨ka, kc, rfl⟩ := hkk.shape
  have HOV : Hid (ObV A w _ o) := Lib.hid ⟨_, _, rfl, hdd, hkk⟩
  have HD : Hid (RB (fun b => b < w.heap.size) w _ d) := Lib.hid (hd.weak fun b h _ => h)
  have HKF : Hid (KF K0 w (.slice ka o.keys.length kc)) := Lib.hid (hkf _ _ _ rfl)
  clear hkf
  have hko := ho.keys
  have hmd := ((mayB_iff o).1 hm).1
  have HL := Lib.hid ho
  unfold opV
  clear hdd hkk ho hd
  go_enter Tryd.func41, Tryd.ntmps41
  go_wp2_with fail
  obtain ⟨w0, hw0⟩ : ∃ w0, w0 = ((w.alloc (.cells #[.slice da o.data.length dc, .slice ka o.keys.length kc, .int .i64 o.seq] 39)).alloc (.cells #[.int .i64 10, .int .i64 off, .int .i64 n, .string nm, .slice oa d.length oc] 48)).alloc (.cells #[.slice none 0 0, .slice none 0 0, .int .i64 0] 39) := ⟨_, rfl⟩
  rw [← hw0]
  have b0 : w0.heap[w.heap.size]? = some (.cells #[.slice da o.data.length dc, .slice ka o.keys.length kc, .int .i64 o.seq] 39 (0, 0)) := by rw [hw0]; exact dnew (dnew (heap_alloc_new _ _) _) _
  have b1 : w0.heap[w.heap.size + 1]? = some (.cells #[.int .i64 10, .int .i64 off, .int .i64 n, .string nm, .slice oa d.length oc] 48 (0, 0)) := by rw [hw0]; exact dnew (heap_alloc2_new _ _ _) _
  have b2 : w0.heap[w.heap.size + 2]? = some (.cells #[.slice none 0 0, .slice none 0 0, .int .i64 0] 39 (0, 0)) := by rw [hw0]; have h := fun (W : World) o' => heap_alloc_new W o'; have := h ((w.alloc (.cells #[.slice da o.data.length dc, .slice ka o.keys.length kc, .int .i64 o.seq] 39)).alloc (.cells #[.int .i64 10, .int .i64 off, .int .i64 n, .string nm, .slice oa d.length oc] 48)) (.cells #[.slice none 0 0, .slice none 0 0, .int .i64 0] 39); simpa using this
  have hw : Below w.heap.size w w0 := by rw [hw0]; ((repeat' (first | exact Below.refl _ _ | refine below_drewN ?_ _ | refine Below.drew ?_ | refine Below.alloc ?_ ?_ _ | refine Below.trans ?_ (Below.mono (by assumption) ?_))); all_goals (first | exact Nat.le_refl _ | exact Below.size (by assumption) | omega | (simp; done) | (simp; omega)))
  clear hw0
  refine (rmay8_any A _ o _ (HOV.out.ext hw) (by omega)).mono ?_
  rintro e w1 ⟨rfl, hb1⟩
  have HW1 := Lib.hid (dcall hw hb1)
  have HP1 := Lib.hid (dblk hb1 b0)
  have HC1 := Lib.hid (dblk hb1 b1)
  have HR1 := Lib.hid (dblk hb1 b2)
  rw [hm]
  clear hb1 b0 b1 b2 hw hm
  obtain ⟨y0, e0⟩ := blk_cell (i := 0) (HP1.out)
  obtain ⟨y1, e1⟩ := blk_cell (i := 1) (HP1.out)
  obtain ⟨y2, e2⟩ := blk_cell (i := 2) (HP1.out)
  simp at y0 y1 y2
  obtain ⟨x0, f0⟩ := blk_cell (i := 0) (HR1.out)
  obtain ⟨x1, f1⟩ := blk_cell (i := 1) (HR1.out)
  obtain ⟨x2, f2⟩ := blk_cell (i := 2) (HR1.out)
  simp at x0 x1 x2
  obtain ⟨z0, z1, z2, z3, z4⟩ := five_cells HC1.out
  go_upto_region 6 with fail
  have HV2 : Hid (ObV (fun b => b < w.heap.size) w1 (.agg #[.slice da o.data.length dc, .slice ka o.keys.length kc, .int .i64 o.seq]) o) := Lib.hid ((HOV.out.cut.weak fun b _ h => h.2).ext HW1.out)
  have HP2 := Lib.hid HP1.out
  have HC2 := Lib.hid HC1.out
  have HR2 := Lib.hid HR1.out
  have HW2 := Lib.hid HW1.out
  have hsz2 : w.heap.size + 2 < w1.heap.size := (Array.getElem?_eq_some_iff.1 HR1.out).1
  obtain ⟨w2, hw2⟩ : ∃ w2, w2 = w1 := ⟨_, rfl⟩
  subst hw2
  clear HP1 HC1 HR1 HW1 HOV x0 x1 x2 f0 f1 f2 y0 y1 y2 e0 e1 e2 z0 z1 z2 z3 z4
  obtain ⟨y0, e0⟩ := blk_cell (i := 0) (HP2.out)
  obtain ⟨y1, e1⟩ := blk_cell (i := 1) (HP2.out)
  obtain ⟨y2, e2⟩ := blk_cell (i := 2) (HP2.out)
  simp at y0 y1 y2
  obtain ⟨x0, f0⟩ := blk_cell (i := 0) (HR2.out)
  obtain ⟨x1, f1⟩ := blk_cell (i := 1) (HR2.out)
  obtain ⟨x2, f2⟩ := blk_cell (i := 2) (HR2.out)
  simp at x0 x1 x2
  obtain ⟨z0, z1, z2, z3, z4⟩ := five_cells HC2.out
  have hcl := fun W h1 (h3 : K0 ≤ W.heap.size) => rdrop_kf K0 (fun b => b < w.heap.size) (.agg #[.slice da o.data.length dc, .slice ka o.keys.length kc, .int .i64 o.seq]) (o) nm W h1 (Nat.le_trans HL.out.keys (by decide)) h3
  obtain ⟨O2, hO2⟩ : ∃ O2, O2 = ({ (o) with keys := dropK (o).keys nm } : ObD) := ⟨_, rfl⟩
  rw [← hO2] at hcl
  have HX : Hid (doG (o) true ⟨10, off, n, nm, d⟩ = ⟨if true then O2 else ObD.none, true, true, 0⟩) := Lib.hid ((doG_some (o := o) (th := true) (op := ⟨10, off, n, nm, d⟩) (o2 := O2) (by simp) (by rw [hO2]; simp [changeB])).trans (by simp [thereB]))
  have HCL := Lib.hid hcl
  clear hcl hO2
  go_wp2_with fail
  refine (HCL.out _ HV2.out (Nat.le_trans hK0 HW2.out.size)).mono ?_
  rintro e w3 ⟨dv3, kv3, rfl, h3, hb3, hkf3⟩
  obtain ⟨⟨a3, c3, rfl⟩, ⟨u3, q3, rfl⟩⟩ := obv_shape h3
  have HKF3 := Lib.hid hkf3
  clear hkf3
  have H3 := Lib.hid (ob_off h3 hsz2)
  have HV3 := Lib.hid (off_low (HV2.out.ext hb3))
  have HP3 := Lib.hid (dblk hb3 HP2.out)
  have HC3 := Lib.hid (dblk hb3 HC2.out)
  have HR3 := Lib.hid (dblk hb3 HR2.out)
  have HW3 := Lib.hid (dcall HW2.out hb3)
  clear hb3 h3 x0 x1 x2 f0 f1 f2 y0 y1 y2 e0 e1 e2 z0 z1 z2 z3 z4
  obtain ⟨y0, e0⟩ := blk_cell (i := 0) (HP3.out)
  obtain ⟨y1, e1⟩ := blk_cell (i := 1) (HP3.out)
  obtain ⟨y2, e2⟩ := blk_cell (i := 2) (HP3.out)
  simp at y0 y1 y2
  obtain ⟨z0, z1, z2, z3, z4⟩ := five_cells HC3.out
  go_upto_region 44 with fail
  obtain ⟨w4, hw4⟩ : ∃ w4, w4 = ((w3.setCell ⟨w.heap.size, 0, none⟩ (.slice a3 O2.data.length c3)).setCell ⟨w.heap.size, 1, none⟩ (.slice u3 O2.keys.length q3)).setCell ⟨w.heap.size, 2, none⟩ (.int .i64 O2.seq) := ⟨_, rfl⟩
  rw [← hw4]
  have HP4 := Lib.hid (show w4.heap[w.heap.size]? = some (.cells #[.slice a3 O2.data.length c3, .slice u3 O2.keys.length q3, .int .i64 O2.seq] 39 (0, 0)) from by rw [hw4]; exact set3_blk HP3.out)
  have HC4 := Lib.hid (dset3 hw4 (by simp) HC3.out)
  have HR4 := Lib.hid (dset3 hw4 (show w.heap.size + 2 ≠ w.heap.size by omega) HR3.out)
  have HW4 := Lib.hid (show Below w.heap.size w w4 from by rw [hw4]; exact below3 HW3.out (Nat.le_refl _) _ _ _)
  have HWE := Lib.hid hw4
  obtain ⟨z0, z1, z2, z3, z4⟩ := five_cells HC4.out
  clear hw4 y0 y1 y2 e0 e1 e2
  have HV4 : Hid (ObV (Off w.heap.size) w4 (.agg #[.slice a3 O2.data.length c3, .slice u3 O2.keys.length q3, .int .i64 O2.seq]) O2) := Lib.hid (by rw [HWE.out]; exact off_set (off_set (off_set H3.out (.inl rfl)) (.inl rfl)) (.inl rfl))
  obtain ⟨y0, e0⟩ := blk_cell (i := 0) (HP4.out)
  obtain ⟨y1, e1⟩ := blk_cell (i := 1) (HP4.out)
  obtain ⟨y2, e2⟩ := blk_cell (i := 2) (HP4.out)
  simp at y0 y1 y2
  obtain ⟨x0, f0⟩ := blk_cell (i := 0) (HR4.out)
  obtain ⟨x1, f1⟩ := blk_cell (i := 1) (HR4.out)
  obtain ⟨x2, f2⟩ := blk_cell (i := 2) (HR4.out)
  simp at x0 x1 x2
  go_wp2
  refine bodyPost_ret (results_cell3 rfl _ _ (w.heap.size + 2) 39 _ (0, 0) _ rfl (set3_blk HR4.out) Tryd.underlying39 rfl (by kernel_rfl)) rfl ?_
  exact DoRF.ok HX.out (off_end HV4.out) (below3 HW4.out (by omega) _ _ _) (by rw [HWE.out]; exact (((((HKF3.out.set _ _).set _ _).set _ _).set _ _).set _ _).set _ _)
set_option maxRecDepth 100000 in
set_option maxHeartbeats 16000000 in
theorem rdoF_12_true (K0 : Nat) (A B : Nat → Prop) (v : Value) (o : ObD) (off n : Int) (nm : ByteArray) (oa : Option Addr) (oc : Nat) (d : List UInt8) (w : World)
    (hv : ObV A w v o) (hm : mayB o = true) (hd : RB B w (.slice oa d.length oc) d) (_hl : d.length ≤ 50000) (hkf : ∀ d k s, v = .agg #[d, k, s] → KF K0 w k) (_hK0 : K0 ≤ w.heap.size) :
    Calls Tryd.prog 41 #[v, .bool true, opV 12 off n nm oa d.length oc] w (DoRF K0 (doG (o) true ⟨12, off, n, nm, d⟩) w) := by
  have ho := okl_of hm
  obtain ⟨dv0, kv0, rfl, hdd, hkk⟩ := hv
  obtain ⟨da, dc, rfl⟩ := hdd.shape
  obtain ⟨ka, kc, rfl⟩ := hkk.shape
  have HOV : Hid (ObV A w _ o) := Lib.hid ⟨_, _, rfl, hdd, hkk⟩
  have HD : Hid (RB (fun b => b < w.heap.size) w _ d) := Lib.hid (hd.weak fun b h _ => h)
  have HKF : Hid (KF K0 w (.slice ka o.keys.length kc)) := Lib.hid (hkf _ _ _ rfl)
  clear hkf
  have hko := ho.keys
  have hmd := ((mayB_iff o).1 hm).1
  have HL := Lib.hid ho
  unfold opV
  clear hdd hkk ho hd
  go_enter Tryd.func41, Tryd.ntmps41
  go_wp2_with fail
  obtain ⟨w0, hw0⟩ : ∃ w0, w0 = ((w.alloc (.cells #[.slice da o.data.length dc, .slice ka o.keys.length kc, .int .i64 o.seq] 39)).alloc (.cells #[.int .i64 12, .int .i64 off, .int .i64 n, .string nm, .slice oa d.length oc] 48)).alloc (.cells #[.slice none 0 0, .slice none 0 0, .int .i64 0] 39) := ⟨_, rfl⟩
  rw [← hw0]
  have b0 : w0.heap[w.heap.size]? = some (.cells #[.slice da o.data.length dc, .slice ka o.keys.length kc, .int .i64 o.seq] 39 (0, 0)) := by rw [hw0]; exact dnew (dnew (heap_alloc_new _ _) _) _
  have b1 : w0.heap[w.heap.size + 1]? = some (.cells #[.int .i64 12, .int .i64 off, .int .i64 n, .string nm, .slice oa d.length oc] 48 (0, 0)) := by rw [hw0]; exact dnew (heap_alloc2_new _ _ _) _
  have b2 : w0.heap[w.heap.size + 2]? = some (.cells #[.slice none 0 0, .slice none 0 0, .int .i64 0] 39 (0, 0)) := by rw [hw0]; have h := fun (W : World) o' => heap_alloc_new W o'; have := h ((w.alloc (.cells #[.slice da o.data.length dc, .slice ka o.keys.length kc, .int .i64 o.seq] 39)).alloc (.cells #[.int .i64 12, .int .i64 off, .int .i64 n, .string nm, .slice oa d.length oc] 48)) (.cells #[.slice none 0 0, .slice none 0 0, .int .i64 0] 39); simpa using this
  have hw : Below w.heap.size w w0 := by rw [hw0]; ((repeat' (first | exact Below.refl _ _ | refine below_drewN ?_ _ | refine Below.drew ?_ | refine Below.alloc ?_ ?_ _ | refine Below.trans ?_ (Below.mono (by assumption) ?_))); all_goals (first | exact Nat.le_refl _ | exact Below.size (by assumption) | omega | (simp; done) | (simp; omega)))
  clear hw0
  refine (rmay8_any A _ o _ (HOV.out.ext hw) (by omega)).mono ?_
  rintro e w1 ⟨rfl, hb1⟩
  have HW1 := Lib.hid (dcall hw hb1)
  have HP1 := Lib.hid (dblk hb1 b0)
  have HC1 := Lib.hid (dblk hb1 b1)
  have HR1 := Lib.hid (dblk hb1 b2)
  rw [hm]
  clear hb1 b0 b1 b2 hw hm
  obtain ⟨y0, e0⟩ := blk_cell (i := 0) (HP1.out)
  obtain ⟨y1, e1⟩ := blk_cell (i := 1) (HP1.out)
  obtain ⟨y2, e2⟩ := blk_cell (i := 2) (HP1.out)
  simp at y0 y1 y2
  obtain ⟨x0, f0⟩ := blk_cell (i := 0) (HR1.out)
  obtain ⟨x1, f1⟩ := blk_cell (i := 1) (HR1.out)
  obtain ⟨x2, f2⟩ := blk_cell (i := 2) (HR1.out)
  simp at x0 x1 x2
  obtain ⟨z0, z1, z2, z3, z4⟩ := five_cells HC1.out
  go_upto_region 6 with fail
  have HV2 : Hid (ObV (fun b => b < w.heap.size) w1 (.agg #[.slice da o.data.length dc, .slice ka o.keys.length kc, .int .i64 o.seq]) o) := Lib.hid ((HOV.out.cut.weak fun b _ h => h.2).ext HW1.out)
  have HP2 := Lib.hid HP1.out
  have HC2 := Lib.hid HC1.out
  have HR2 := Lib.hid HR1.out
  have HW2 := Lib.hid HW1.out
  have hsz2 : w.heap.size + 2 < w1.heap.size := (Array.getElem?_eq_some_iff.1 HR1.out).1
  obtain ⟨w2, hw2⟩ : ∃ w2, w2 = w1 := ⟨_, rfl⟩
  subst hw2
  clear HP1 HC1 HR1 HW1 HOV x0 x1 x2 f0 f1 f2 y0 y1 y2 e0 e1 e2 z0 z1 z2 z3 z4
  obtain ⟨y0, e0⟩ := blk_cell (i := 0) (HP2.out)
  obtain ⟨y1, e1⟩ := blk_cell (i := 1) (HP2.out)
  obtain ⟨y2, e2⟩ := blk_cell (i := 2) (HP2.out)
  simp at y0 y1 y2
  obtain ⟨x0, f0⟩ := blk_cell (i := 0) (HR2.out)
  obtain ⟨x1, f1⟩ := blk_cell (i := 1) (HR2.out)
  obtain ⟨x2, f2⟩ := blk_cell (i := 2) (HR2.out)
  simp at x0 x1 x2
  obtain ⟨z0, z1, z2, z3, z4⟩ := five_cells HC2.out
  by_cases h1 : 0 ≤ n
  · by_cases h2 : n ≤ 1099511627776
    · have HX : Hid (doG (o) true ⟨12, off, n, nm, d⟩ = ⟨{ (o) with seq := n }, true, true, 0⟩) := Lib.hid ((doG_some (o := o) (th := true) (op := ⟨12, off, n, nm, d⟩) (o2 := { (o) with seq := n }) (by simp) (by simp [changeB, h1, h2])).trans (by simp [thereB]))
      obtain ⟨w3, hw3⟩ : ∃ w3, w3 = w2 := ⟨_, rfl⟩
      subst hw3
      have HV3 := Lib.hid (off_low HV2.out)
      have HP3 := Lib.hid HP2.out
      have HC3 := Lib.hid HC2.out
      have HR3 := Lib.hid HR2.out
      have HW3 := Lib.hid HW2.out
      clear HP2 HC2 HR2 HW2 HV2
      go_upto_region 35 with fail
      obtain ⟨w4, hw4⟩ : ∃ w4, w4 = w3.setCell ⟨w.heap.size, 2, none⟩ (.int .i64 n) := ⟨_, rfl⟩
      rw [← hw4]
      have HP4 := Lib.hid (show w4.heap[w.heap.size]? = some (.cells #[.slice da o.data.length dc, .slice ka o.keys.length kc, .int .i64 n] 39 (0, 0)) from by rw [hw4]; exact set_blk3 (j := 2) HP3.out)
      have HC4 := Lib.hid (dset1 hw4 (by simp) HC3.out)
      have HR4 := Lib.hid (dset1 hw4 (show w.heap.size + 2 ≠ w.heap.size by omega) HR3.out)
      have HW4 := Lib.hid (show Below w.heap.size w w4 from by rw [hw4]; exact HW3.out.setCell (show w.heap.size ≤ w.heap.size from Nat.le_refl _) _)
      have HV4 : Hid (ObV (Off w.heap.size) w4 (.agg #[.slice da o.data.length dc, .slice ka o.keys.length kc, .int .i64 n]) ({ (o) with seq := n })) := Lib.hid (by rw [hw4]; exact off_set (ob_seq HV3.out) (.inl rfl))
      obtain ⟨z0, z1, z2, z3, z4⟩ := five_cells HC4.out
      clear hw4 y0 y1 y2 e0 e1 e2
      obtain ⟨y0, e0⟩ := blk_cell (i := 0) (HP4.out)
      obtain ⟨y1, e1⟩ := blk_cell (i := 1) (HP4.out)
      obtain ⟨y2, e2⟩ := blk_cell (i := 2) (HP4.out)
      simp at y0 y1 y2
      obtain ⟨x0, f0⟩ := blk_cell (i := 0) (HR4.out)
      obtain ⟨x1, f1⟩ := blk_cell (i := 1) (HR4.out)
      obtain ⟨x2, f2⟩ := blk_cell (i := 2) (HR4.out)
      simp at x0 x1 x2
      go_wp2
      refine bodyPost_ret (results_cell3 rfl _ _ (w.heap.size + 2) 39 _ (0, 0) _ rfl (set3_blk HR4.out) Tryd.underlying39 rfl (by kernel_rfl)) rfl ?_
      exact DoRF.ok HX.out (off_end HV4.out) (below3 HW4.out (by omega) _ _ _) (by first | exact KF.nil _ | exact HKF.out.ext (below3 HW4.out (by omega) _ _ _))
    · have HX := Lib.hid (doG_none (o := o) (th := true) (op := ⟨12, off, n, nm, d⟩) (by simp) (by simp [changeB, h2]))
      obtain ⟨w3, hw3⟩ : ∃ w3, w3 = w2 := ⟨_, rfl⟩
      subst hw3
      have HV3 := Lib.hid (off_low HV2.out)
      have HP3 := Lib.hid HP2.out
      have HC3 := Lib.hid HC2.out
      have HR3 := Lib.hid HR2.out
      have HW3 := Lib.hid HW2.out
      clear HP2 HC2 HR2 HW2 HV2
      go_upto_region 35 with fail
      obtain ⟨w4, hw4⟩ : ∃ w4, w4 = w3.setCell ⟨w.heap.size, 2, none⟩ (.int .i64 n) := ⟨_, rfl⟩
      rw [← hw4]
      have HP4 := Lib.hid (show w4.heap[w.heap.size]? = some (.cells #[.slice da o.data.length dc, .slice ka o.keys.length kc, .int .i64 n] 39 (0, 0)) from by rw [hw4]; exact set_blk3 (j := 2) HP3.out)
      have HC4 := Lib.hid (dset1 hw4 (by simp) HC3.out)
      have HR4 := Lib.hid (dset1 hw4 (show w.heap.size + 2 ≠ w.heap.size by omega) HR3.out)
      have HW4 := Lib.hid (show Below w.heap.size w w4 from by rw [hw4]; exact HW3.out.setCell (show w.heap.size ≤ w.heap.size from Nat.le_refl _) _)
      have HV4 : Hid (ObV (Off w.heap.size) w4 (.agg #[.slice da o.data.length dc, .slice ka o.keys.length kc, .int .i64 n]) ({ (o) with seq := n })) := Lib.hid (by rw [hw4]; exact off_set (ob_seq HV3.out) (.inl rfl))
      obtain ⟨z0, z1, z2, z3, z4⟩ := five_cells HC4.out
      clear hw4 y0 y1 y2 e0 e1 e2
      obtain ⟨x0, f0⟩ := blk_cell (i := 0) (HR4.out)
      obtain ⟨x1, f1⟩ := blk_cell (i := 1) (HR4.out)
      obtain ⟨x2, f2⟩ := blk_cell (i := 2) (HR4.out)
      simp at x0 x1 x2
      go_wp2
      refine bodyPost_ret (results_cell3 rfl _ _ (w.heap.size + 2) 39 _ (0, 0) _ rfl (set3_blk HR4.out) Tryd.underlying39 rfl (by kernel_rfl)) rfl ?_
      exact DoRF.no HX.out (below3 HW4.out (by omega) _ _ _)
  · have HX := Lib.hid (doG_none (o := o) (th := true) (op := ⟨12, off, n, nm, d⟩) (by simp) (by simp [changeB, h1]))
    obtain ⟨w3, hw3⟩ : ∃ w3, w3 = w2 := ⟨_, rfl⟩
    subst hw3
    have HV3 := Lib.hid (off_low HV2.out)
    have HP3 := Lib.hid HP2.out
    have HC3 := Lib.hid HC2.out
    have HR3 := Lib.hid HR2.out
    have HW3 := Lib.hid HW2.out
    clear HP2 HC2 HR2 HW2 HV2
    go_upto_region 35 with fail
    obtain ⟨w4, hw4⟩ : ∃ w4, w4 = w3.setCell ⟨w.heap.size, 2, none⟩ (.int .i64 n) := ⟨_, rfl⟩
    rw [← hw4]
    have HP4 := Lib.hid (show w4.heap[w.heap.size]? = some (.cells #[.slice da o.data.length dc, .slice ka o.keys.length kc, .int .i64 n] 39 (0, 0)) from by rw [hw4]; exact set_blk3 (j := 2) HP3.out)
    have HC4 := Lib.hid (dset1 hw4 (by simp) HC3.out)
    have HR4 := Lib.hid (dset1 hw4 (show w.heap.size + 2 ≠ w.heap.size by omega) HR3.out)
    have HW4 := Lib.hid (show Below w.heap.size w w4 from by rw [hw4]; exact HW3.out.setCell (show w.heap.size ≤ w.heap.size from Nat.le_refl _) _)
    have HV4 : Hid (ObV (Off w.heap.size) w4 (.agg #[.slice da o.data.length dc, .slice ka o.keys.length kc, .int .i64 n]) ({ (o) with seq := n })) := Lib.hid (by rw [hw4]; exact off_set (ob_seq HV3.out) (.inl rfl))
    obtain ⟨z0, z1, z2, z3, z4⟩ := five_cells HC4.out
    clear hw4 y0 y1 y2 e0 e1 e2
    obtain ⟨x0, f0⟩ := blk_cell (i := 0) (HR4.out)
    obtain ⟨x1, f1⟩ := blk_cell (i := 1) (HR4.out)
    obtain ⟨x2, f2⟩ := blk_cell (i := 2) (HR4.out)
    simp at x0 x1 x2
    go_wp2
    refine bodyPost_ret (results_cell3 rfl _ _ (w.heap.size + 2) 39 _ (0, 0) _ rfl (set3_blk HR4.out) Tryd.underlying39 rfl (by kernel_rfl)) rfl ?_
    exact DoRF.no HX.out (below3 HW4.out (by omega) _ _ _)
set_option maxRecDepth 100000 in
set_option maxHeartbeats 16000000 in
theorem rdoF_4_false (K0 : Nat) (A B : Nat → Prop) (v : Value) (o : ObD) (off n : Int) (nm : ByteArray) (oa : Option Addr) (oc : Nat) (d : List UInt8) (w : World)
    (hv : ObV A w v o) (hm : mayB o = true) (hd : RB B w (.slice oa d.length oc) d) (_hl : d.length ≤ 50000) (hkf : ∀ d k s, v = .agg #[d, k, s] → KF K0 w k) (_hK0 : K0 ≤ w.heap.size) :
    Calls Tryd.prog 41 #[v, .bool false, opV 4 off n nm oa d.length oc] w (DoRF K0 (doG (ObD.none) false ⟨4, off, n, nm, d⟩) w) := by
  have ho := okl_of hm
  obtain ⟨dv0, kv0, rfl, hdd, hkk⟩ := hv
  obtain ⟨da, dc, rfl⟩ := hdd.shape
  obtain ⟨ka, kc, rfl⟩ := hkk.shape
  have HOV : Hid (ObV A w _ o) := Lib.hid ⟨_, _, rfl, hdd, hkk⟩
  have HD : Hid (RB (fun b => b < w.heap.size) w _ d) := Lib.hid (hd.weak fun b h _ => h)
  have HKF : Hid (KF K0 w (.slice ka o.keys.length kc)) := Lib.hid (hkf _ _ _ rfl)
  clear hkf
  have hko := ho.keys
  have hmd := ((mayB_iff o).1 hm).1
  have HL := Lib.hid ho
  unfold opV
  clear hdd hkk ho hd
  go_enter Tryd.func41, Tryd.ntmps41
  go_wp2_with fail
  obtain ⟨w0, hw0⟩ : ∃ w0, w0 = ((w.alloc (.cells #[.slice da o.data.length dc, .slice ka o.keys.length kc, .int .i64 o.seq] 39)).alloc (.cells #[.int .i64 4, .int .i64 off, .int .i64 n, .string nm, .slice oa d.length oc] 48)).alloc (.cells #[.slice none 0 0, .slice none 0 0, .int .i64 0] 39) := ⟨_, rfl⟩
  rw [← hw0]
  have b0 : w0.heap[w.heap.size]? = some (.cells #[.slice da o.data.length dc, .slice ka o.keys.length kc, .int .i64 o.seq] 39 (0, 0)) := by rw [hw0]; exact dnew (dnew (heap_alloc_new _ _) _) _
  have b1 : w0.heap[w.heap.size + 1]? = some (.cells #[.int .i64 4, .int .i64 off, .int .i64 n, .string nm, .slice oa d.length oc] 48 (0, 0)) := by rw [hw0]; exact dnew (heap_alloc2_new _ _ _) _
  have b2 : w0.heap[w.heap.size + 2]? = some (.cells #[.slice none 0 0, .slice none 0 0, .int .i64 0] 39 (0, 0)) := by rw [hw0]; have h := fun (W : World) o' => heap_alloc_new W o'; have := h ((w.alloc (.cells #[.slice da o.data.length dc, .slice ka o.keys.length kc, .int .i64 o.seq] 39)).alloc (.cells #[.int .i64 4, .int .i64 off, .int .i64 n, .string nm, .slice oa d.length oc] 48)) (.cells #[.slice none 0 0, .slice none 0 0, .int .i64 0] 39); simpa using this
  have hw : Below w.heap.size w w0 := by rw [hw0]; ((repeat' (first | exact Below.refl _ _ | refine below_drewN ?_ _ | refine Below.drew ?_ | refine Below.alloc ?_ ?_ _ | refine Below.trans ?_ (Below.mono (by assumption) ?_))); all_goals (first | exact Nat.le_refl _ | exact Below.size (by assumption) | omega | (simp; done) | (simp; omega)))
  clear hw0
  refine (rmay8_any A _ o _ (HOV.out.ext hw) (by omega)).mono ?_
  rintro e w1 ⟨rfl, hb1⟩
  have HW1 := Lib.hid (dcall hw hb1)
  have HP1 := Lib.hid (dblk hb1 b0)
  have HC1 := Lib.hid (dblk hb1 b1)
  have HR1 := Lib.hid (dblk hb1 b2)
  rw [hm]
  clear hb1 b0 b1 b2 hw hm
  obtain ⟨y0, e0⟩ := blk_cell (i := 0) (HP1.out)
  obtain ⟨y1, e1⟩ := blk_cell (i := 1) (HP1.out)
  obtain ⟨y2, e2⟩ := blk_cell (i := 2) (HP1.out)
  simp at y0 y1 y2
  obtain ⟨x0, f0⟩ := blk_cell (i := 0) (HR1.out)
  obtain ⟨x1, f1⟩ := blk_cell (i := 1) (HR1.out)
  obtain ⟨x2, f2⟩ := blk_cell (i := 2) (HR1.out)
  simp at x0 x1 x2
  obtain ⟨z0, z1, z2, z3, z4⟩ := five_cells HC1.out
  go_upto_region 6 with fail
  obtain ⟨w2, hw2⟩ : ∃ w2, w2 = ((w1.setCell ⟨w.heap.size, 0, none⟩ (.slice none 0 0)).setCell ⟨w.heap.size, 1, none⟩ (.slice none 0 0)).setCell ⟨w.heap.size, 2, none⟩ (.int .i64 0) := ⟨_, rfl⟩
  rw [← hw2]
  have HV2 : Hid (ObV (fun b => b < w.heap.size) w2 (.agg #[.slice none 0 0, .slice none 0 0, .int .i64 0]) ObD.none) := Lib.hid (obv_none _ _)
  have HP2 := Lib.hid (show w2.heap[w.heap.size]? = some (.cells #[.slice none 0 0, .slice none 0 0, .int .i64 0] 39 (0, 0)) from by rw [hw2]; exact set3_blk HP1.out)
  have HC2 := Lib.hid (dset3 hw2 (by simp) HC1.out)
  have HR2 := Lib.hid (dset3 hw2 (show w.heap.size + 2 ≠ w.heap.size by omega) HR1.out)
  have HW2 := Lib.hid (show Below w.heap.size w w2 from by rw [hw2]; exact below3 HW1.out (Nat.le_refl _) _ _ _)
  have hsz2 : w.heap.size + 2 < w2.heap.size := (Array.getElem?_eq_some_iff.1 HR2.out).1
  clear hw2 HP1 HC1 HR1 HW1 HOV HL x0 x1 x2 f0 f1 f2 y0 y1 y2 e0 e1 e2 z0 z1 z2 z3 z4
  have HL := Lib.hid (okl_of mayB_none)
  obtain ⟨y0, e0⟩ := blk_cell (i := 0) (HP2.out)
  obtain ⟨y1, e1⟩ := blk_cell (i := 1) (HP2.out)
  obtain ⟨y2, e2⟩ := blk_cell (i := 2) (HP2.out)
  simp at y0 y1 y2
  obtain ⟨x0, f0⟩ := blk_cell (i := 0) (HR2.out)
  obtain ⟨x1, f1⟩ := blk_cell (i := 1) (HR2.out)
  obtain ⟨x2, f2⟩ := blk_cell (i := 2) (HR2.out)
  simp at x0 x1 x2
  obtain ⟨z0, z1, z2, z3, z4⟩ := five_cells HC2.out
  obtain ⟨⟨ge, gb⟩, hG⟩ : ∃ x, guardB (ObD.none) false ⟨4, off, n, nm, d⟩ = x := ⟨_, rfl⟩
  have HG := Lib.hid hG
  have hgc := fun W h1 h3 => rguard_any (fun b => b < w.heap.size) (fun b => b < w.heap.size) (.agg #[.slice none 0 0, .slice none 0 0, .int .i64 0]) (ObD.none) false 4 off n nm oa oc d W h1 HL.out h3 (by decide) (by decide)
  rw [hG] at hgc
  unfold opV at hgc
  clear hG
  go_wp2_with fail
  refine (hgc _ HV2.out (RB.ext HD.out HW2.out)).mono ?_
  rintro e w3 ⟨rfl, hb3⟩
  have HV3 := Lib.hid (off_low (HV2.out.ext hb3))
  have HP3 := Lib.hid (dblk hb3 HP2.out)
  have HR3 := Lib.hid (dblk hb3 HR2.out)
  have HW3 := Lib.hid (dcall HW2.out hb3)
  clear hb3 hgc x0 x1 x2 f0 f1 f2 y0 y1 y2 e0 e1 e2 z0 z1 z2 z3 z4
  by_cases hg0 : ge = 0
  · subst hg0
    have HX := Lib.hid (doG_lo (by simp) (by simp) HG.out)
    obtain ⟨y0, e0⟩ := blk_cell (i := 0) (HP3.out)
    obtain ⟨y1, e1⟩ := blk_cell (i := 1) (HP3.out)
    obtain ⟨y2, e2⟩ := blk_cell (i := 2) (HP3.out)
    simp at y0 y1 y2
    obtain ⟨x0, f0⟩ := blk_cell (i := 0) (HR3.out)
    obtain ⟨x1, f1⟩ := blk_cell (i := 1) (HR3.out)
    obtain ⟨x2, f2⟩ := blk_cell (i := 2) (HR3.out)
    simp at x0 x1 x2
    go_wp2
    refine bodyPost_ret (results_cell3 rfl _ _ (w.heap.size + 2) 39 _ (0, 0) _ rfl (set3_blk ((set3_ne _ _ _ _ _ (show w.heap.size + 2 ≠ w.heap.size by omega)).trans HR3.out)) Tryd.underlying39 rfl (by kernel_rfl)) rfl ?_
    exact DoRF.ok (o := ObD.none) HX.out (obv_none _ _) (below3 (below3 HW3.out (Nat.le_refl _) _ _ _) (by omega) _ _ _) (KF.nil _)
  · have HX := Lib.hid (doG_err HG.out hg0)
    have q1 : (ge != 0) = true := by simpa using hg0
    have q2 : (ge == 0) = false := by simpa using hg0
    clear hg0
    obtain ⟨x0, f0⟩ := blk_cell (i := 0) (HR3.out)
    obtain ⟨x1, f1⟩ := blk_cell (i := 1) (HR3.out)
    obtain ⟨x2, f2⟩ := blk_cell (i := 2) (HR3.out)
    simp at x0 x1 x2
    go_wp2
    refine bodyPost_ret (results_cell3 rfl _ _ (w.heap.size + 2) 39 _ (0, 0) _ rfl (set3_blk HR3.out) Tryd.underlying39 rfl (by kernel_rfl)) rfl ?_
    exact DoRF.no HX.out (below3 HW3.out (by omega) _ _ _)
set_option maxRecDepth 100000 in
set_option maxHeartbeats 16000000 in
theorem rdoF_9_false (K0 : Nat) (A B : Nat → Prop) (v : Value) (o : ObD) (off n : Int) (nm : ByteArray) (oa : Option Addr) (oc : Nat) (d : List UInt8) (w : World)
    (hv : ObV A w v o) (hm : mayB o = true) (hd : RB B w (.slice oa d.length oc) d) (hl : d.length ≤ 50000) (hkf : ∀ d k s, v = .agg #[d, k, s] → KF K0 w k) (hK0 : K0 ≤ w.heap.size) :
    Calls Tryd.prog 41 #[v, .bool false, opV 9 off n nm oa d.length oc] w (DoRF K0 (doG (ObD.none) false ⟨9, off, n, nm, d⟩) w) := by
  have ho := okl_of hm
  obtain ⟨dv0, kv0, rfl, hdd, hkk⟩ := hv
  obtain ⟨da, dc, rfl⟩ := hdd.shape
  obtain ⟨ka, kc, rfl⟩ := hkk.shape
  have HOV : Hid (ObV A w _ o) := Lib.hid ⟨_, _, rfl, hdd, hkk⟩
  have HD : Hid (RB (fun b => b < w.heap.size) w _ d) := Lib.hid (hd.weak fun b h _ => h)
  have HKF : Hid (KF K0 w (.slice ka o.keys.length kc)) := Lib.hid (hkf _ _ _ rfl)
  clear hkf
  have hko := ho.keys
  have hmd := ((mayB_iff o).1 hm).1
  have HL := Lib.hid ho
  unfold opV
  clear hdd hkk ho hd
  go_enter Tryd.func41, Tryd.ntmps41
  go_wp2_with fail
  obtain ⟨w0, hw0⟩ : ∃ w0, w0 = ((w.alloc (.cells #[.slice da o.data.length dc, .slice ka o.keys.length kc, .int .i64 o.seq] 39)).alloc (.cells #[.int .i64 9, .int .i64 off, .int .i64 n, .string nm, .slice oa d.length oc] 48)).alloc (.cells #[.slice none 0 0, .slice none 0 0, .int .i64 0] 39) := ⟨_, rfl⟩
  rw [← hw0]
  have b0 : w0.heap[w.heap.size]? = some (.cells #[.slice da o.data.length dc, .slice ka o.keys.length kc, .int .i64 o.seq] 39 (0, 0)) := by rw [hw0]; exact dnew (dnew (heap_alloc_new _ _) _) _
  have b1 : w0.heap[w.heap.size + 1]? = some (.cells #[.int .i64 9, .int .i64 off, .int .i64 n, .string nm, .slice oa d.length oc] 48 (0, 0)) := by rw [hw0]; exact dnew (heap_alloc2_new _ _ _) _
  have b2 : w0.heap[w.heap.size + 2]? = some (.cells #[.slice none 0 0, .slice none 0 0, .int .i64 0] 39 (0, 0)) := by rw [hw0]; have h := fun (W : World) o' => heap_alloc_new W o'; have := h ((w.alloc (.cells #[.slice da o.data.length dc, .slice ka o.keys.length kc, .int .i64 o.seq] 39)).alloc (.cells #[.int .i64 9, .int .i64 off, .int .i64 n, .string nm, .slice oa d.length oc] 48)) (.cells #[.slice none 0 0, .slice none 0 0, .int .i64 0] 39); simpa using this
  have hw : Below w.heap.size w w0 := by rw [hw0]; ((repeat' (first | exact Below.refl _ _ | refine below_drewN ?_ _ | refine Below.drew ?_ | refine Below.alloc ?_ ?_ _ | refine Below.trans ?_ (Below.mono (by assumption) ?_))); all_goals (first | exact Nat.le_refl _ | exact Below.size (by assumption) | omega | (simp; done) | (simp; omega)))
  clear hw0
  refine (rmay8_any A _ o _ (HOV.out.ext hw) (by omega)).mono ?_
  rintro e w1 ⟨rfl, hb1⟩
  have HW1 := Lib.hid (dcall hw hb1)
  have HP1 := Lib.hid (dblk hb1 b0)
  have HC1 := Lib.hid (dblk hb1 b1)
  have HR1 := Lib.hid (dblk hb1 b2)
  rw [hm]
  clear hb1 b0 b1 b2 hw hm
  obtain ⟨y0, e0⟩ := blk_cell (i := 0) (HP1.out)
  obtain ⟨y1, e1⟩ := blk_cell (i := 1) (HP1.out)
  obtain ⟨y2, e2⟩ := blk_cell (i := 2) (HP1.out)
  simp at y0 y1 y2
  obtain ⟨x0, f0⟩ := blk_cell (i := 0) (HR1.out)
  obtain ⟨x1, f1⟩ := blk_cell (i := 1) (HR1.out)
  obtain ⟨x2, f2⟩ := blk_cell (i := 2) (HR1.out)
  simp at x0 x1 x2
  obtain ⟨z0, z1, z2, z3, z4⟩ := five_cells HC1.out
  go_upto_region 6 with fail
  obtain ⟨w2, hw2⟩ : ∃ w2, w2 = ((w1.setCell ⟨w.heap.size, 0, none⟩ (.slice none 0 0)).setCell ⟨w.heap.size, 1, none⟩ (.slice none 0 0)).setCell ⟨w.heap.size, 2, none⟩ (.int .i64 0) := ⟨_, rfl⟩
  rw [← hw2]
  have HV2 : Hid (ObV (fun b => b < w.heap.size) w2 (.agg #[.slice none 0 0, .slice none 0 0, .int .i64 0]) ObD.none) := Lib.hid (obv_none _ _)
  have HP2 := Lib.hid (show w2.heap[w.heap.size]? = some (.cells #[.slice none 0 0, .slice none 0 0, .int .i64 0] 39 (0, 0)) from by rw [hw2]; exact set3_blk HP1.out)
  have HC2 := Lib.hid (dset3 hw2 (by simp) HC1.out)
  have HR2 := Lib.hid (dset3 hw2 (show w.heap.size + 2 ≠ w.heap.size by omega) HR1.out)
  have HW2 := Lib.hid (show Below w.heap.size w w2 from by rw [hw2]; exact below3 HW1.out (Nat.le_refl _) _ _ _)
  have hsz2 : w.heap.size + 2 < w2.heap.size := (Array.getElem?_eq_some_iff.1 HR2.out).1
  clear hw2 HP1 HC1 HR1 HW1 HOV HL x0 x1 x2 f0 f1 f2 y0 y1 y2 e0 e1 e2 z0 z1 z2 z3 z4
  have HL := Lib.hid (okl_of mayB_none)
  obtain ⟨y0, e0⟩ := blk_cell (i := 0) (HP2.out)
  obtain ⟨y1, e1⟩ := blk_cell (i := 1) (HP2.out)
  obtain ⟨y2, e2⟩ := blk_cell (i := 2) (HP2.out)
  simp at y0 y1 y2
  obtain ⟨x0, f0⟩ := blk_cell (i := 0) (HR2.out)
  obtain ⟨x1, f1⟩ := blk_cell (i := 1) (HR2.out)
  obtain ⟨x2, f2⟩ := blk_cell (i := 2) (HR2.out)
  simp at x0 x1 x2
  obtain ⟨z0, z1, z2, z3, z4⟩ := five_cells HC2.out
  have hcl := fun W h1 h2 (h3 : K0 ≤ W.heap.size) => rkey_kf K0 (fun b => b < w.heap.size) (.agg #[.slice none 0 0, .slice none 0 0, .int .i64 0]) (ObD.none) off n nm oa oc d W h1 HL.out h2 hl h3
  unfold opV at hcl
  have hch : changeB (ObD.none) ⟨9, off, n, nm, d⟩ = keyOp (ObD.none) nm d := by simp [changeB]
  cases hx : keyOp (ObD.none) nm d with
  | none =>
    rw [hx] at hcl hch
    have HX := Lib.hid (doG_none (o := ObD.none) (th := false) (op := ⟨9, off, n, nm, d⟩) (by simp) hch)
    have HCL := Lib.hid hcl
    clear hcl hx hch
    go_wp2_with fail
    refine (HCL.out _ HV2.out (RB.ext HD.out HW2.out) (Nat.le_trans hK0 HW2.out.size)).mono ?_
    rintro e w3 ⟨dv3, kv3, rfl, h3, hb3, hkf3⟩
    clear hkf3
    have h3 : ObV _ w3 (.agg #[dv3, kv3, .int .i64 (ObD.none).seq]) (ObD.none) := h3
    obtain ⟨⟨a3, c3, rfl⟩, ⟨u3, q3, rfl⟩⟩ := obv_shape h3
    have H3 := Lib.hid (h3)
    have HV3 := Lib.hid (off_low (HV2.out.ext hb3))
    have HP3 := Lib.hid (dblk hb3 HP2.out)
    have HC3 := Lib.hid (dblk hb3 HC2.out)
    have HR3 := Lib.hid (dblk hb3 HR2.out)
    have HW3 := Lib.hid (dcall HW2.out hb3)
    clear hb3 h3 x0 x1 x2 f0 f1 f2 y0 y1 y2 e0 e1 e2 z0 z1 z2 z3 z4
    obtain ⟨y0, e0⟩ := blk_cell (i := 0) (HP3.out)
    obtain ⟨y1, e1⟩ := blk_cell (i := 1) (HP3.out)
    obtain ⟨y2, e2⟩ := blk_cell (i := 2) (HP3.out)
    simp at y0 y1 y2
    obtain ⟨z0, z1, z2, z3, z4⟩ := five_cells HC3.out
    simp only [Option.isSome, Option.getD]
    go_upto_region 32 with fail
    obtain ⟨w4, hw4⟩ : ∃ w4, w4 = ((w3.setCell ⟨w.heap.size, 0, none⟩ (.slice a3 (ObD.none).data.length c3)).setCell ⟨w.heap.size, 1, none⟩ (.slice u3 (ObD.none).keys.length q3)).setCell ⟨w.heap.size, 2, none⟩ (.int .i64 (ObD.none).seq) := ⟨_, rfl⟩
    rw [← hw4]
    have HP4 := Lib.hid (show w4.heap[w.heap.size]? = some (.cells #[.slice a3 (ObD.none).data.length c3, .slice u3 (ObD.none).keys.length q3, .int .i64 (ObD.none).seq] 39 (0, 0)) from by rw [hw4]; exact set3_blk HP3.out)
    have HC4 := Lib.hid (dset3 hw4 (by simp) HC3.out)
    have HR4 := Lib.hid (dset3 hw4 (show w.heap.size + 2 ≠ w.heap.size by omega) HR3.out)
    have HW4 := Lib.hid (show Below w.heap.size w w4 from by rw [hw4]; exact below3 HW3.out (Nat.le_refl _) _ _ _)
    have HWE := Lib.hid hw4
    obtain ⟨z0, z1, z2, z3, z4⟩ := five_cells HC4.out
    clear hw4 y0 y1 y2 e0 e1 e2
    obtain ⟨x0, f0⟩ := blk_cell (i := 0) (HR4.out)
    obtain ⟨x1, f1⟩ := blk_cell (i := 1) (HR4.out)
    obtain ⟨x2, f2⟩ := blk_cell (i := 2) (HR4.out)
    simp at x0 x1 x2
    go_wp2
    refine bodyPost_ret (results_cell3 rfl _ _ (w.heap.size + 2) 39 _ (0, 0) _ rfl (set3_blk HR4.out) Tryd.underlying39 rfl (by kernel_rfl)) rfl ?_
    exact DoRF.no HX.out (below3 HW4.out (by omega) _ _ _)
  | some O2 =>
    rw [hx] at hcl hch
    have HX : Hid (doG (ObD.none) false ⟨9, off, n, nm, d⟩ = ⟨O2, true, true, 0⟩) := Lib.hid ((doG_some (o := ObD.none) (th := false) (op := ⟨9, off, n, nm, d⟩) (by simp) hch).trans (by simp [thereB]))
    have HCL := Lib.hid hcl
    clear hcl hx hch
    go_wp2_with fail
    refine (HCL.out _ HV2.out (RB.ext HD.out HW2.out) (Nat.le_trans hK0 HW2.out.size)).mono ?_
    rintro e w3 ⟨dv3, kv3, rfl, h3, hb3, hkf3⟩
    have h3 : ObV _ w3 (.agg #[dv3, kv3, .int .i64 O2.seq]) O2 := h3
    obtain ⟨⟨a3, c3, rfl⟩, ⟨u3, q3, rfl⟩⟩ := obv_shape h3
    have HKF3 := Lib.hid (hkf3 rfl)
    clear hkf3
    have H3 := Lib.hid (ob_off h3 hsz2)
    have HV3 := Lib.hid (off_low (HV2.out.ext hb3))
    have HP3 := Lib.hid (dblk hb3 HP2.out)
    have HC3 := Lib.hid (dblk hb3 HC2.out)
    have HR3 := Lib.hid (dblk hb3 HR2.out)
    have HW3 := Lib.hid (dcall HW2.out hb3)
    clear hb3 h3 x0 x1 x2 f0 f1 f2 y0 y1 y2 e0 e1 e2 z0 z1 z2 z3 z4
    obtain ⟨y0, e0⟩ := blk_cell (i := 0) (HP3.out)
    obtain ⟨y1, e1⟩ := blk_cell (i := 1) (HP3.out)
    obtain ⟨y2, e2⟩ := blk_cell (i := 2) (HP3.out)
    simp at y0 y1 y2
    obtain ⟨z0, z1, z2, z3, z4⟩ := five_cells HC3.out
    simp only [Option.isSome, Option.getD]
    go_upto_region 32 with fail
    obtain ⟨w4, hw4⟩ : ∃ w4, w4 = ((w3.setCell ⟨w.heap.size, 0, none⟩ (.slice a3 O2.data.length c3)).setCell ⟨w.heap.size, 1, none⟩ (.slice u3 O2.keys.length q3)).setCell ⟨w.heap.size, 2, none⟩ (.int .i64 O2.seq) := ⟨_, rfl⟩
    rw [← hw4]
    have HP4 := Lib.hid (show w4.heap[w.heap.size]? = some (.cells #[.slice a3 O2.data.length c3, .slice u3 O2.keys.length q3, .int .i64 O2.seq] 39 (0, 0)) from by rw [hw4]; exact set3_blk HP3.out)
    have HC4 := Lib.hid (dset3 hw4 (by simp) HC3.out)
    have HR4 := Lib.hid (dset3 hw4 (show w.heap.size + 2 ≠ w.heap.size by omega) HR3.out)
    have HW4 := Lib.hid (show Below w.heap.size w w4 from by rw [hw4]; exact below3 HW3.out (Nat.le_refl _) _ _ _)
    have HWE := Lib.hid hw4
    obtain ⟨z0, z1, z2, z3, z4⟩ := five_cells HC4.out
    clear hw4 y0 y1 y2 e0 e1 e2
    have HV4 : Hid (ObV (Off w.heap.size) w4 (.agg #[.slice a3 O2.data.length c3, .slice u3 O2.keys.length q3, .int .i64 O2.seq]) O2) := Lib.hid (by rw [HWE.out]; exact off_set (off_set (off_set H3.out (.inl rfl)) (.inl rfl)) (.inl rfl))
    obtain ⟨y0, e0⟩ := blk_cell (i := 0) (HP4.out)
    obtain ⟨y1, e1⟩ := blk_cell (i := 1) (HP4.out)
    obtain ⟨y2, e2⟩ := blk_cell (i := 2) (HP4.out)
    simp at y0 y1 y2
    obtain ⟨x0, f0⟩ := blk_cell (i := 0) (HR4.out)
    obtain ⟨x1, f1⟩ := blk_cell (i := 1) (HR4.out)
    obtain ⟨x2, f2⟩ := blk_cell (i := 2) (HR4.out)
    simp at x0 x1 x2
    go_wp2
    refine bodyPost_ret (results_cell3 rfl _ _ (w.heap.size + 2) 39 _ (0, 0) _ rfl (set3_blk HR4.out) Tryd.underlying39 rfl (by kernel_rfl)) rfl ?_
    exact DoRF.ok HX.out (off_end HV4.out) (below3 HW4.out (by omega) _ _ _) (by rw [HWE.out]; exact (((((HKF3.out.set _ _).set _ _).set _ _).set _ _).set _ _).set _ _)
set_option maxRecDepth 100000 in
set_option maxHeartbeats 16000000 in
theorem rdoF_10_false (K0 : Nat) (A B : Nat → Prop) (v : Value) (o : ObD) (off n : Int) (nm : ByteArray) (oa : Option Addr) (oc : Nat) (d : List UInt8) (w : World)
    (hv : ObV A w v o) (hm : mayB o = true) (hd : RB B w (.slice oa d.length oc) d) (_hl : d.length ≤ 50000) (hkf : ∀ d k s, v = .agg #[d, k, s] → KF K0 w k) (hK0 : K0 ≤ w.heap.size) :
    Calls Tryd.prog 41 #[v, .bool false, opV 10 off n nm oa d.length oc] w (DoRF K0 (doG (ObD.none) false ⟨10, off, n, nm, d⟩) w) := by
  have ho := okl_of hm
  obtain ⟨dv0, kv0, rfl, hdd, hkk⟩ := hv
  obtain ⟨da, dc, rfl⟩ := hdd.shape
  obtain ⟨ka, kc, rfl⟩ := hkk.shape
  have HOV : Hid (ObV A w _ o) := Lib.hid ⟨_, _, rfl, hdd, hkk⟩
  have HD : Hid (RB (fun b => b < w.heap.size) w _ d) := Lib.hid (hd.weak fun b h _ => h)
  have HKF : Hid (KF K0 w (.slice ka o.keys.length kc)) := Lib.hid (hkf _ _ _ rfl)
  clear hkf
  have hko := ho.keys
  have hmd := ((mayB_iff o).1 hm).1
  have HL := Lib.hid ho
  unfold opV
  clear hdd hkk ho hd
  go_enter Tryd.func41, Tryd.ntmps41
  go_wp2_with fail
  obtain ⟨w0, hw0⟩ : ∃ w0, w0 = ((w.alloc (.cells #[.slice da o.data.length dc, .slice ka o.keys.length kc, .int .i64 o.seq] 39)).alloc (.cells #[.int .i64 10, .int .i64 off, .int .i64 n, .string nm, .slice oa d.length oc] 48)).alloc (.cells #[.slice none 0 0, .slice none 0 0, .int .i64 0] 39) := ⟨_, rfl⟩
  rw [← hw0]
  have b0 : w0.heap[w.heap.size]? = some (.cells #[.slice da o.data.length dc, .slice ka o.keys.length kc, .int .i64 o.seq] 39 (0, 0)) := by rw [hw0]; exact dnew (dnew (heap_alloc_new _ _) _) _
  have b1 : w0.heap[w.heap.size + 1]? = some (.cells #[.int .i64 10, .int .i64 off, .int .i64 n, .string nm, .slice oa d.length oc] 48 (0, 0)) := by rw [hw0]; exact dnew (heap_alloc2_new _ _ _) _
  have b2 : w0.heap[w.heap.size + 2]? = some (.cells #[.slice none 0 0, .slice none 0 0, .int .i64 0] 39 (0, 0)) := by rw [hw0]; have h := fun (W : World) o' => heap_alloc_new W o'; have := h ((w.alloc (.cells #[.slice da o.data.length dc, .slice ka o.keys.length kc, .int .i64 o.seq] 39)).alloc (.cells #[.int .i64 10, .int .i64 off, .int .i64 n, .string nm, .slice oa d.length oc] 48)) (.cells #[.slice none 0 0, .slice none 0 0, .int .i64 0] 39); simpa using this
  have hw : Below w.heap.size w w0 := by rw [hw0]; ((repeat' (first | exact Below.refl _ _ | refine below_drewN ?_ _ | refine Below.drew ?_ | refine Below.alloc ?_ ?_ _ | refine Below.trans ?_ (Below.mono (by assumption) ?_))); all_goals (first | exact Nat.le_refl _ | exact Below.size (by assumption) | omega | (simp; done) | (simp; omega)))
  clear hw0
  refine (rmay8_any A _ o _ (HOV.out.ext hw) (by omega)).mono ?_
  rintro e w1 ⟨rfl, hb1⟩
  have HW1 := Lib.hid (dcall hw hb1)
  have HP1 := Lib.hid (dblk hb1 b0)
  have HC1 := Lib.hid (dblk hb1 b1)
  have HR1 := Lib.hid (dblk hb1 b2)
  rw [hm]
  clear hb1 b0 b1 b2 hw hm
  obtain ⟨y0, e0⟩ := blk_cell (i := 0) (HP1.out)
  obtain ⟨y1, e1⟩ := blk_cell (i := 1) (HP1.out)
  obtain ⟨y2, e2⟩ := blk_cell (i := 2) (HP1.out)
  simp at y0 y1 y2
  obtain ⟨x0, f0⟩ := blk_cell (i := 0) (HR1.out)
  obtain ⟨x1, f1⟩ := blk_cell (i := 1) (HR1.out)
  obtain ⟨x2, f2⟩ := blk_cell (i := 2) (HR1.out)
  simp at x0 x1 x2
  obtain ⟨z0, z1, z2, z3, z4⟩ := five_cells HC1.out
  go_upto_region 6 with fail
  obtain ⟨w2, hw2⟩ : ∃ w2, w2 = ((w1.setCell ⟨w.heap.size, 0, none⟩ (.slice none 0 0)).setCell ⟨w.heap.size, 1, none⟩ (.slice none 0 0)).setCell ⟨w.heap.size, 2, none⟩ (.int .i64 0) := ⟨_, rfl⟩
  rw [← hw2]
  have HV2 : Hid (ObV (fun b => b < w.heap.size) w2 (.agg #[.slice none 0 0, .slice none 0 0, .int .i64 0]) ObD.none) := Lib.hid (obv_none _ _)
  have HP2 := Lib.hid (show w2.heap[w.heap.size]? = some (.cells #[.slice none 0 0, .slice none 0 0, .int .i64 0] 39 (0, 0)) from by rw [hw2]; exact set3_blk HP1.out)
  have HC2 := Lib.hid (dset3 hw2 (by simp) HC1.out)
  have HR2 := Lib.hid (dset3 hw2 (show w.heap.size + 2 ≠ w.heap.size by omega) HR1.out)
  have HW2 := Lib.hid (show Below w.heap.size w w2 from by rw [hw2]; exact below3 HW1.out (Nat.le_refl _) _ _ _)
  have hsz2 : w.heap.size + 2 < w2.heap.size := (Array.getElem?_eq_some_iff.1 HR2.out).1
  clear hw2 HP1 HC1 HR1 HW1 HOV HL x0 x1 x2 f0 f1 f2 y0 y1 y2 e0 e1 e2 z0 z1 z2 z3 z4
  have HL := Lib.hid (okl_of mayB_none)
  obtain ⟨y0, e0⟩ := blk_cell (i := 0) (HP2.out)
  obtain ⟨y1, e1⟩ := blk_cell (i := 1) (HP2.out)
  obtain ⟨y2, e2⟩ := blk_cell (i := 2) (HP2.out)
  simp at y0 y1 y2
  obtain ⟨x0, f0⟩ := blk_cell (i := 0) (HR2.out)
  obtain ⟨x1, f1⟩ := blk_cell (i := 1) (HR2.out)
  obtain ⟨x2, f2⟩ := blk_cell (i := 2) (HR2.out)
  simp at x0 x1 x2
  obtain ⟨z0, z1, z2, z3, z4⟩ := five_cells HC2.out
  have hcl := fun W h1 (h3 : K0 ≤ W.heap.size) => rdrop_kf K0 (fun b => b < w.heap.size) (.agg #[.slice none 0 0, .slice none 0 0, .int .i64 0]) (ObD.none) nm W h1 (Nat.le_trans HL.out.keys (by decide)) h3
  obtain ⟨O2, hO2⟩ : ∃ O2, O2 = ({ (ObD.none) with keys := dropK (ObD.none).keys nm } : ObD) := ⟨_, rfl⟩
  rw [← hO2] at hcl
  have HX : Hid (doG (ObD.none) false ⟨10, off, n, nm, d⟩ = ⟨if false then O2 else ObD.none, false, true, 0⟩) := Lib.hid ((doG_some (o := ObD.none) (th := false) (op := ⟨10, off, n, nm, d⟩) (o2 := O2) (by simp) (by rw [hO2]; simp [changeB])).trans (by simp [thereB]))
  have HCL := Lib.hid hcl
  clear hcl hO2
  go_wp2_with fail
  refine (HCL.out _ HV2.out (Nat.le_trans hK0 HW2.out.size)).mono ?_
  rintro e w3 ⟨dv3, kv3, rfl, h3, hb3, hkf3⟩
  obtain ⟨⟨a3, c3, rfl⟩, ⟨u3, q3, rfl⟩⟩ := obv_shape h3
  have HKF3 := Lib.hid hkf3
  clear hkf3
  have H3 := Lib.hid (ob_off h3 hsz2)
  have HV3 := Lib.hid (off_low (HV2.out.ext hb3))
  have HP3 := Lib.hid (dblk hb3 HP2.out)
  have HC3 := Lib.hid (dblk hb3 HC2.out)
  have HR3 := Lib.hid (dblk hb3 HR2.out)
  have HW3 := Lib.hid (dcall HW2.out hb3)
  clear hb3 h3 x0 x1 x2 f0 f1 f2 y0 y1 y2 e0 e1 e2 z0 z1 z2 z3 z4
  obtain ⟨y0, e0⟩ := blk_cell (i := 0) (HP3.out)
  obtain ⟨y1, e1⟩ := blk_cell (i := 1) (HP3.out)
  obtain ⟨y2, e2⟩ := blk_cell (i := 2) (HP3.out)
  simp at y0 y1 y2
  obtain ⟨z0, z1, z2, z3, z4⟩ := five_cells HC3.out
  go_upto_region 44 with fail
  obtain ⟨w4, hw4⟩ : ∃ w4, w4 = ((w3.setCell ⟨w.heap.size, 0, none⟩ (.slice a3 O2.data.length c3)).setCell ⟨w.heap.size, 1, none⟩ (.slice u3 O2.keys.length q3)).setCell ⟨w.heap.size, 2, none⟩ (.int .i64 O2.seq) := ⟨_, rfl⟩
  rw [← hw4]
  have HP4 := Lib.hid (show w4.heap[w.heap.size]? = some (.cells #[.slice a3 O2.data.length c3, .slice u3 O2.keys.length q3, .int .i64 O2.seq] 39 (0, 0)) from by rw [hw4]; exact set3_blk HP3.out)
  have HC4 := Lib.hid (dset3 hw4 (by simp) HC3.out)
  have HR4 := Lib.hid (dset3 hw4 (show w.heap.size + 2 ≠ w.heap.size by omega) HR3.out)
  have HW4 := Lib.hid (show Below w.heap.size w w4 from by rw [hw4]; exact below3 HW3.out (Nat.le_refl _) _ _ _)
  have HWE := Lib.hid hw4
  obtain ⟨z0, z1, z2, z3, z4⟩ := five_cells HC4.out
  clear hw4 y0 y1 y2 e0 e1 e2
  have HV4 : Hid (ObV (Off w.heap.size) w4 (.agg #[.slice a3 O2.data.length c3, .slice u3 O2.keys.length q3, .int .i64 O2.seq]) O2) := Lib.hid (by rw [HWE.out]; exact off_set (off_set (off_set H3.out (.inl rfl)) (.inl rfl)) (.inl rfl))
  obtain ⟨y0, e0⟩ := blk_cell (i := 0) (HP4.out)
  obtain ⟨y1, e1⟩ := blk_cell (i := 1) (HP4.out)
  obtain ⟨y2, e2⟩ := blk_cell (i := 2) (HP4.out)
  simp at y0 y1 y2
  obtain ⟨x0, f0⟩ := blk_cell (i := 0) (HR4.out)
  obtain ⟨x1, f1⟩ := blk_cell (i := 1) (HR4.out)
  obtain ⟨x2, f2⟩ := blk_cell (i := 2) (HR4.out)
  simp at x0 x1 x2
  go_wp2
  refine bodyPost_ret (results_cell3 rfl _ _ (w.heap.size + 2) 39 _ (0, 0) _ rfl (set3_blk ((set3_ne _ _ _ _ _ (show w.heap.size + 2 ≠ w.heap.size by omega)).trans HR4.out)) Tryd.underlying39 rfl (by kernel_rfl)) rfl ?_
  exact DoRF.ok (o := ObD.none) HX.out (obv_none _ _) (below3 (below3 HW4.out (Nat.le_refl _) _ _ _) (by omega) _ _ _) (KF.nil _)
set_option maxRecDepth 100000 in
set_option maxHeartbeats 16000000 in
theorem rdoF_12_false (K0 : Nat) (A B : Nat → Prop) (v : Value) (o : ObD) (off n : Int) (nm : ByteArray) (oa : Option Addr) (oc : Nat) (d : List UInt8) (w : World)
    (hv : ObV A w v o) (hm : mayB o = true) (hd : RB B w (.slice oa d.length oc) d) (_hl : d.length ≤ 50000) (hkf : ∀ d k s, v = .agg #[d, k, s] → KF K0 w k) (_hK0 : K0 ≤ w.heap.size) :
    Calls Tryd.prog 41 #[v, .bool false, opV 12 off n nm oa d.length oc] w (DoRF K0 (doG (ObD.none) false ⟨12, off, n, nm, d⟩) w) := by
  have ho := okl_of hm
  obtain ⟨dv0, kv0, rfl, hdd, hkk⟩ := hv
  obtain ⟨da, dc, rfl⟩ := hdd.shape
  obtain ⟨ka, kc, rfl⟩ := hkk.shape
  have HOV : Hid (ObV A w _ o) := Lib.hid ⟨_, _, rfl, hdd, hkk⟩
  have HD : Hid (RB (fun b => b < w.heap.size) w _ d) := Lib.hid (hd.weak fun b h _ => h)
  have HKF : Hid (KF K0 w (.slice ka o.keys.length kc)) := Lib.hid (hkf _ _ _ rfl)
  clear hkf
  have hko := ho.keys
  have hmd := ((mayB_iff o).1 hm).1
  have HL := Lib.hid ho
  unfold opV
  clear hdd hkk ho hd
  go_enter Tryd.func41, Tryd.ntmps41
  go_wp2_with fail
  obtain ⟨w0, hw0⟩ : ∃ w0, w0 = ((w.alloc (.cells #[.slice da o.data.length dc, .slice ka o.keys.length kc, .int .i64 o.seq] 39)).alloc (.cells #[.int .i64 12, .int .i64 off, .int .i64 n, .string nm, .slice oa d.length oc] 48)).alloc (.cells #[.slice none 0 0, .slice none 0 0, .int .i64 0] 39) := ⟨_, rfl⟩
  rw [← hw0]
  have b0 : w0.heap[w.heap.size]? = some (.cells #[.slice da o.data.length dc, .slice ka o.keys.length kc, .int .i64 o.seq] 39 (0, 0)) := by rw [hw0]; exact dnew (dnew (heap_alloc_new _ _) _) _
  have b1 : w0.heap[w.heap.size + 1]? = some (.cells #[.int .i64 12, .int .i64 off, .int .i64 n, .string nm, .slice oa d.length oc] 48 (0, 0)) := by rw [hw0]; exact dnew (heap_alloc2_new _ _ _) _
  have b2 : w0.heap[w.heap.size + 2]? = some (.cells #[.slice none 0 0, .slice none 0 0, .int .i64 0] 39 (0, 0)) := by rw [hw0]; have h := fun (W : World) o' => heap_alloc_new W o'; have := h ((w.alloc (.cells #[.slice da o.data.length dc, .slice ka o.keys.length kc, .int .i64 o.seq] 39)).alloc (.cells #[.int .i64 12, .int .i64 off, .int .i64 n, .string nm, .slice oa d.length oc] 48)) (.cells #[.slice none 0 0, .slice none 0 0, .int .i64 0] 39); simpa using this
  have hw : Below w.heap.size w w0 := by rw [hw0]; ((repeat' (first | exact Below.refl _ _ | refine below_drewN ?_ _ | refine Below.drew ?_ | refine Below.alloc ?_ ?_ _ | refine Below.trans ?_ (Below.mono (by assumption) ?_))); all_goals (first | exact Nat.le_refl _ | exact Below.size (by assumption) | omega | (simp; done) | (simp; omega)))
  clear hw0
  refine (rmay8_any A _ o _ (HOV.out.ext hw) (by omega)).mono ?_
  rintro e w1 ⟨rfl, hb1⟩
  have HW1 := Lib.hid (dcall hw hb1)
  have HP1 := Lib.hid (dblk hb1 b0)
  have HC1 := Lib.hid (dblk hb1 b1)
  have HR1 := Lib.hid (dblk hb1 b2)
  rw [hm]
  clear hb1 b0 b1 b2 hw hm
  obtain ⟨y0, e0⟩ := blk_cell (i := 0) (HP1.out)
  obtain ⟨y1, e1⟩ := blk_cell (i := 1) (HP1.out)
  obtain ⟨y2, e2⟩ := blk_cell (i := 2) (HP1.out)
  simp at y0 y1 y2
  obtain ⟨x0, f0⟩ := blk_cell (i := 0) (HR1.out)
  obtain ⟨x1, f1⟩ := blk_cell (i := 1) (HR1.out)
  obtain ⟨x2, f2⟩ := blk_cell (i := 2) (HR1.out)
  simp at x0 x1 x2
  obtain ⟨z0, z1, z2, z3, z4⟩ := five_cells HC1.out
  go_upto_region 6 with fail
  obtain ⟨w2, hw2⟩ : ∃ w2, w2 = ((w1.setCell ⟨w.heap.size, 0, none⟩ (.slice none 0 0)).setCell ⟨w.heap.size, 1, none⟩ (.slice none 0 0)).setCell ⟨w.heap.size, 2, none⟩ (.int .i64 0) := ⟨_, rfl⟩
  rw [← hw2]
  have HV2 : Hid (ObV (fun b => b < w.heap.size) w2 (.agg #[.slice none 0 0, .slice none 0 0, .int .i64 0]) ObD.none) := Lib.hid (obv_none _ _)
  have HP2 := Lib.hid (show w2.heap[w.heap.size]? = some (.cells #[.slice none 0 0, .slice none 0 0, .int .i64 0] 39 (0, 0)) from by rw [hw2]; exact set3_blk HP1.out)
  have HC2 := Lib.hid (dset3 hw2 (by simp) HC1.out)
  have HR2 := Lib.hid (dset3 hw2 (show w.heap.size + 2 ≠ w.heap.size by omega) HR1.out)
  have HW2 := Lib.hid (show Below w.heap.size w w2 from by rw [hw2]; exact below3 HW1.out (Nat.le_refl _) _ _ _)
  have hsz2 : w.heap.size + 2 < w2.heap.size := (Array.getElem?_eq_some_iff.1 HR2.out).1
  clear hw2 HP1 HC1 HR1 HW1 HOV HL x0 x1 x2 f0 f1 f2 y0 y1 y2 e0 e1 e2 z0 z1 z2 z3 z4
  have HL := Lib.hid (okl_of mayB_none)
  obtain ⟨y0, e0⟩ := blk_cell (i := 0) (HP2.out)
  obtain ⟨y1, e1⟩ := blk_cell (i := 1) (HP2.out)
  obtain ⟨y2, e2⟩ := blk_cell (i := 2) (HP2.out)
  simp at y0 y1 y2
  obtain ⟨x0, f0⟩ := blk_cell (i := 0) (HR2.out)
  obtain ⟨x1, f1⟩ := blk_cell (i := 1) (HR2.out)
  obtain ⟨x2, f2⟩ := blk_cell (i := 2) (HR2.out)
  simp at x0 x1 x2
  obtain ⟨z0, z1, z2, z3, z4⟩ := five_cells HC2.out
  by_cases h1 : 0 ≤ n
  · by_cases h2 : n ≤ 1099511627776
    · have HX : Hid (doG (ObD.none) false ⟨12, off, n, nm, d⟩ = ⟨{ (ObD.none) with seq := n }, true, true, 0⟩) := Lib.hid ((doG_some (o := ObD.none) (th := false) (op := ⟨12, off, n, nm, d⟩) (o2 := { (ObD.none) with seq := n }) (by simp) (by simp [changeB, h1, h2])).trans (by simp [thereB]))
      obtain ⟨w3, hw3⟩ : ∃ w3, w3 = w2 := ⟨_, rfl⟩
      subst hw3
      have HV3 := Lib.hid (off_low HV2.out)
      have HP3 := Lib.hid HP2.out
      have HC3 := Lib.hid HC2.out
      have HR3 := Lib.hid HR2.out
      have HW3 := Lib.hid HW2.out
      clear HP2 HC2 HR2 HW2 HV2
      go_upto_region 35 with fail
      obtain ⟨w4, hw4⟩ : ∃ w4, w4 = w3.setCell ⟨w.heap.size, 2, none⟩ (.int .i64 n) := ⟨_, rfl⟩
      rw [← hw4]
      have HP4 := Lib.hid (show w4.heap[w.heap.size]? = some (.cells #[.slice none 0 0, .slice none 0 0, .int .i64 n] 39 (0, 0)) from by rw [hw4]; exact set_blk3 (j := 2) HP3.out)
      have HC4 := Lib.hid (dset1 hw4 (by simp) HC3.out)
      have HR4 := Lib.hid (dset1 hw4 (show w.heap.size + 2 ≠ w.heap.size by omega) HR3.out)
      have HW4 := Lib.hid (show Below w.heap.size w w4 from by rw [hw4]; exact HW3.out.setCell (show w.heap.size ≤ w.heap.size from Nat.le_refl _) _)
      have HV4 : Hid (ObV (Off w.heap.size) w4 (.agg #[.slice none 0 0, .slice none 0 0, .int .i64 n]) ({ (ObD.none) with seq := n })) := Lib.hid (by rw [hw4]; exact off_set (ob_seq HV3.out) (.inl rfl))
      obtain ⟨z0, z1, z2, z3, z4⟩ := five_cells HC4.out
      clear hw4 y0 y1 y2 e0 e1 e2
      obtain ⟨y0, e0⟩ := blk_cell (i := 0) (HP4.out)
      obtain ⟨y1, e1⟩ := blk_cell (i := 1) (HP4.out)
      obtain ⟨y2, e2⟩ := blk_cell (i := 2) (HP4.out)
      simp at y0 y1 y2
      obtain ⟨x0, f0⟩ := blk_cell (i := 0) (HR4.out)
      obtain ⟨x1, f1⟩ := blk_cell (i := 1) (HR4.out)
      obtain ⟨x2, f2⟩ := blk_cell (i := 2) (HR4.out)
      simp at x0 x1 x2
      go_wp2
      refine bodyPost_ret (results_cell3 rfl _ _ (w.heap.size + 2) 39 _ (0, 0) _ rfl (set3_blk HR4.out) Tryd.underlying39 rfl (by kernel_rfl)) rfl ?_
      exact DoRF.ok HX.out (off_end HV4.out) (below3 HW4.out (by omega) _ _ _) (by first | exact KF.nil _ | exact HKF.out.ext (below3 HW4.out (by omega) _ _ _))
    · have HX := Lib.hid (doG_none (o := ObD.none) (th := false) (op := ⟨12, off, n, nm, d⟩) (by simp) (by simp [changeB, h2]))
      obtain ⟨w3, hw3⟩ : ∃ w3, w3 = w2 := ⟨_, rfl⟩
      subst hw3
      have HV3 := Lib.hid (off_low HV2.out)
      have HP3 := Lib.hid HP2.out
      have HC3 := Lib.hid HC2.out
      have HR3 := Lib.hid HR2.out
      have HW3 := Lib.hid HW2.out
      clear HP2 HC2 HR2 HW2 HV2
      go_upto_region 35 with fail
      obtain ⟨w4, hw4⟩ : ∃ w4, w4 = w3.setCell ⟨w.heap.size, 2, none⟩ (.int .i64 n) := ⟨_, rfl⟩
      rw [← hw4]
      have HP4 := Lib.hid (show w4.heap[w.heap.size]? = some (.cells #[.slice none 0 0, .slice none 0 0, .int .i64 n] 39 (0, 0)) from by rw [hw4]; exact set_blk3 (j := 2) HP3.out)
      have HC4 := Lib.hid (dset1 hw4 (by simp) HC3.out)
      have HR4 := Lib.hid (dset1 hw4 (show w.heap.size + 2 ≠ w.heap.size by omega) HR3.out)
      have HW4 := Lib.hid (show Below w.heap.size w w4 from by rw [hw4]; exact HW3.out.setCell (show w.heap.size ≤ w.heap.size from Nat.le_refl _) _)
      have HV4 : Hid (ObV (Off w.heap.size) w4 (.agg #[.slice none 0 0, .slice none 0 0, .int .i64 n]) ({ (ObD.none) with seq := n })) := Lib.hid (by rw [hw4]; exact off_set (ob_seq HV3.out) (.inl rfl))
      obtain ⟨z0, z1, z2, z3, z4⟩ := five_cells HC4.out
      clear hw4 y0 y1 y2 e0 e1 e2
      obtain ⟨x0, f0⟩ := blk_cell (i := 0) (HR4.out)
      obtain ⟨x1, f1⟩ := blk_cell (i := 1) (HR4.out)
      obtain ⟨x2, f2⟩ := blk_cell (i := 2) (HR4.out)
      simp at x0 x1 x2
      go_wp2
      refine bodyPost_ret (results_cell3 rfl _ _ (w.heap.size + 2) 39 _ (0, 0) _ rfl (set3_blk HR4.out) Tryd.underlying39 rfl (by kernel_rfl)) rfl ?_
      exact DoRF.no HX.out (below3 HW4.out (by omega) _ _ _)
  · have HX := Lib.hid (doG_none (o := ObD.none) (th := false) (op := ⟨12, off, n, nm, d⟩) (by simp) (by simp [changeB, h1]))
    obtain ⟨w3, hw3⟩ : ∃ w3, w3 = w2 := ⟨_, rfl⟩
    subst hw3
    have HV3 := Lib.hid (off_low HV2.out)
    have HP3 := Lib.hid HP2.out
    have HC3 := Lib.hid HC2.out
    have HR3 := Lib.hid HR2.out
    have HW3 := Lib.hid HW2.out
    clear HP2 HC2 HR2 HW2 HV2
    go_upto_region 35 with fail
    obtain ⟨w4, hw4⟩ : ∃ w4, w4 = w3.setCell ⟨w.heap.size, 2, none⟩ (.int .i64 n) := ⟨_, rfl⟩
    rw [← hw4]
    have HP4 := Lib.hid (show w4.heap[w.heap.size]? = some (.cells #[.slice none 0 0, .slice none 0 0, .int .i64 n] 39 (0, 0)) from by rw [hw4]; exact set_blk3 (j := 2) HP3.out)
    have HC4 := Lib.hid (dset1 hw4 (by simp) HC3.out)
    have HR4 := Lib.hid (dset1 hw4 (show w.heap.size + 2 ≠ w.heap.size by omega) HR3.out)
    have HW4 := Lib.hid (show Below w.heap.size w w4 from by rw [hw4]; exact HW3.out.setCell (show w.heap.size ≤ w.heap.size from Nat.le_refl _) _)
    have HV4 : Hid (ObV (Off w.heap.size) w4 (.agg #[.slice none 0 0, .slice none 0 0, .int .i64 n]) ({ (ObD.none) with seq := n })) := Lib.hid (by rw [hw4]; exact off_set (ob_seq HV3.out) (.inl rfl))
    obtain ⟨z0, z1, z2, z3, z4⟩ := five_cells HC4.out
    clear hw4 y0 y1 y2 e0 e1 e2
    obtain ⟨x0, f0⟩ := blk_cell (i := 0) (HR4.out)
    obtain ⟨x1, f1⟩ := blk_cell (i := 1) (HR4.out)
    obtain ⟨x2, f2⟩ := blk_cell (i := 2) (HR4.out)
    simp at x0 x1 x2
    go_wp2
    refine bodyPost_ret (results_cell3 rfl _ _ (w.heap.size + 2) 39 _ (0, 0) _ rfl (set3_blk HR4.out) Tryd.underlying39 rfl (by kernel_rfl)) rfl ?_
    exact DoRF.no HX.out (below3 HW4.out (by omega) _ _ _)
theorem rdo_kf (K0 : Nat) (_A B : Nat → Prop) (v : Value) (o : ObD) (th : Bool) (k off n : Int) (nm : ByteArray) (oa : Option Addr) (oc : Nat) (d : List UInt8) (w : World)
    (hv : ObF K0 w v o) (hm : mayB o = true) (hk : k = 4 ∨ k = 9 ∨ k = 10 ∨ k = 12) (hd : RB B w (.slice oa d.length oc) d) (hl : d.length ≤ 50000) (hK0 : K0 ≤ w.heap.size) :
    Calls Tryd.prog 41 #[v, .bool th, opV k off n nm oa d.length oc] w (DoRF K0 (doB o th ⟨k, off, n, nm, d⟩) w) := by
  rw [doB_good hm (by show 1 ≤ k; omega) (by show k ≤ 14; omega)]
  rcases hk with rfl | rfl | rfl | rfl <;> cases th
  · exact rdoF_4_false K0 _ B v o off n nm oa oc d w hv.ob hm hd hl hv.kf hK0
  · exact rdoF_4_true K0 _ B v o off n nm oa oc d w hv.ob hm hd hl hv.kf hK0
  · exact rdoF_9_false K0 _ B v o off n nm oa oc d w hv.ob hm hd hl hv.kf hK0
  · exact rdoF_9_true K0 _ B v o off n nm oa oc d w hv.ob hm hd hl hv.kf hK0
  · exact rdoF_10_false K0 _ B v o off n nm oa oc d w hv.ob hm hd hl hv.kf hK0
  · exact rdoF_10_true K0 _ B v o off n nm oa oc d w hv.ob hm hd hl hv.kf hK0
  · exact rdoF_12_false K0 _ B v o off n nm oa oc d w hv.ob hm hd hl hv.kf hK0
  · exact rdoF_12_true K0 _ B v o off n nm oa oc d w hv.ob hm hd hl hv.kf hK0
end Go.Proofs.YtfeonfihlleoeaaDoor
