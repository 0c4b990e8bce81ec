/- The walk of terrazzoref08.Do: what changes the data. -/
import Derived.Test.YtfeonfihlleoeaaDoorRefL8
namespace Go.Proofs.YtfeonfihlleoeaaDoor
open Go.RowKit Go.WideShapes

set_option maxRecDepth 100000 in
set_option maxHeartbeats 16000000 in
theorem rdo_5_true (A B : Nat → Prop) (v : Value) (o : ObD) (off n : Int) (nm : ByteArray) (oa : Option Addr) (oc : Nat) (d : List UInt8) (w : World)
    (hv : ObV A w v o) (hm : mayB o = true) (hd : RB B w (.slice oa d.length oc) d) (hl : d.length ≤ 50000) :
    Calls Tryd.prog 41 #[v, .bool true, opV 5 off n nm oa d.length oc] w (DoRR (doG (o) true ⟨5, off, n, nm, d⟩) w) := by
  have ho := okl_of hm
  obtain ⟨dv0, kv0, rfl, hdd, hkk⟩ := hv
  obtain ⟨da, dc, rfl⟩ := hdd.shape
  obtain ⟨ka, kc, rfl⟩ := hkk.shape
  have HOV : Hid (ObV A w _ o) := Lib.hid ⟨_, _, rfl, hdd, hkk⟩
  have HD : Hid (RB (fun b => b < w.heap.size) w _ d) := Lib.hid (hd.weak fun b h _ => h)
  have hko := ho.keys
  have hmd := ((mayB_iff o).1 hm).1
  have HL := Lib.hid ho
  unfold opV
  clear hdd hkk ho hd
  go_enter Tryd.func41, Tryd.ntmps41
  go_wp2_with fail
  obtain ⟨w0, hw0⟩ : ∃ w0, w0 = ((w.alloc (.cells #[.slice da o.data.length dc, .slice ka o.keys.length kc, .int .i64 o.seq] 39)).alloc (.cells #[.int .i64 5, .int .i64 off, .int .i64 n, .string nm, .slice oa d.length oc] 48)).alloc (.cells #[.slice none 0 0, .slice none 0 0, .int .i64 0] 39) := ⟨_, rfl⟩
  rw [← hw0]
  have b0 : w0.heap[w.heap.size]? = some (.cells #[.slice da o.data.length dc, .slice ka o.keys.length kc, .int .i64 o.seq] 39 (0, 0)) := by rw [hw0]; exact dnew (dnew (heap_alloc_new _ _) _) _
  have b1 : w0.heap[w.heap.size + 1]? = some (.cells #[.int .i64 5, .int .i64 off, .int .i64 n, .string nm, .slice oa d.length oc] 48 (0, 0)) := by rw [hw0]; exact dnew (heap_alloc2_new _ _ _) _
  have b2 : w0.heap[w.heap.size + 2]? = some (.cells #[.slice none 0 0, .slice none 0 0, .int .i64 0] 39 (0, 0)) := by rw [hw0]; have h := fun (W : World) o' => heap_alloc_new W o'; have := h ((w.alloc (.cells #[.slice da o.data.length dc, .slice ka o.keys.length kc, .int .i64 o.seq] 39)).alloc (.cells #[.int .i64 5, .int .i64 off, .int .i64 n, .string nm, .slice oa d.length oc] 48)) (.cells #[.slice none 0 0, .slice none 0 0, .int .i64 0] 39); simpa using this
  have hw : Below w.heap.size w w0 := by rw [hw0]; ((repeat' (first | exact Below.refl _ _ | refine below_drewN ?_ _ | refine Below.drew ?_ | refine Below.alloc ?_ ?_ _ | refine Below.trans ?_ (Below.mono (by assumption) ?_))); all_goals (first | exact Nat.le_refl _ | exact Below.size (by assumption) | omega | (simp; done) | (simp; omega)))
  clear hw0
  refine (rmay8_any A _ o _ (HOV.out.ext hw) (by omega)).mono ?_
  rintro e w1 ⟨rfl, hb1⟩
  have HW1 := Lib.hid (dcall hw hb1)
  have HP1 := Lib.hid (dblk hb1 b0)
  have HC1 := Lib.hid (dblk hb1 b1)
  have HR1 := Lib.hid (dblk hb1 b2)
  rw [hm]
  clear hb1 b0 b1 b2 hw hm
  obtain ⟨y0, e0⟩ := blk_cell (i := 0) (HP1.out)
  obtain ⟨y1, e1⟩ := blk_cell (i := 1) (HP1.out)
  obtain ⟨y2, e2⟩ := blk_cell (i := 2) (HP1.out)
  simp at y0 y1 y2
  obtain ⟨x0, f0⟩ := blk_cell (i := 0) (HR1.out)
  obtain ⟨x1, f1⟩ := blk_cell (i := 1) (HR1.out)
  obtain ⟨x2, f2⟩ := blk_cell (i := 2) (HR1.out)
  simp at x0 x1 x2
  obtain ⟨z0, z1, z2, z3, z4⟩ := five_cells HC1.out
  go_upto_region 6 with fail
  have HV2 : Hid (ObV (fun b => b < w.heap.size) w1 (.agg #[.slice da o.data.length dc, .slice ka o.keys.length kc, .int .i64 o.seq]) o) := Lib.hid ((HOV.out.cut.weak fun b _ h => h.2).ext HW1.out)
  have HP2 := Lib.hid HP1.out
  have HC2 := Lib.hid HC1.out
  have HR2 := Lib.hid HR1.out
  have HW2 := Lib.hid HW1.out
  have hsz2 : w.heap.size + 2 < w1.heap.size := (Array.getElem?_eq_some_iff.1 HR1.out).1
  obtain ⟨w2, hw2⟩ : ∃ w2, w2 = w1 := ⟨_, rfl⟩
  subst hw2
  clear HP1 HC1 HR1 HW1 HOV x0 x1 x2 f0 f1 f2 y0 y1 y2 e0 e1 e2 z0 z1 z2 z3 z4
  obtain ⟨y0, e0⟩ := blk_cell (i := 0) (HP2.out)
  obtain ⟨y1, e1⟩ := blk_cell (i := 1) (HP2.out)
  obtain ⟨y2, e2⟩ := blk_cell (i := 2) (HP2.out)
  simp at y0 y1 y2
  obtain ⟨x0, f0⟩ := blk_cell (i := 0) (HR2.out)
  obtain ⟨x1, f1⟩ := blk_cell (i := 1) (HR2.out)
  obtain ⟨x2, f2⟩ := blk_cell (i := 2) (HR2.out)
  simp at x0 x1 x2
  obtain ⟨z0, z1, z2, z3, z4⟩ := five_cells HC2.out
  have HLD : Hid ((o).data.length ≤ 1000) := Lib.hid (by first | omega | decide)
  have hcl := fun W h1 h2 => rdata_write (fun b => b < w.heap.size) (fun b => b < w.heap.size) (da) dc ((o).data) off n nm oa oc d W h1 h2 HLD.out hl
  unfold opV at hcl
  cases hs : spotB off d.length with
  | false =>
    rw [hs] at hcl
    have HX := Lib.hid (doG_none (o := o) (th := true) (op := ⟨5, off, n, nm, d⟩) (by simp) (by simp [changeB, hs]))
    have HCL := Lib.hid hcl
    clear hcl hs
    go_wp2_with fail
    refine (HCL.out _ (obv_data HV2.out) (RB.ext HD.out HW2.out)).mono ?_
    rintro e w3 ⟨a3, n3, c3, rfl, h3, hn3, hb3⟩
    replace hn3 : n3 = 0 := hn3
    subst hn3
    have HP3 := Lib.hid (dblk hb3 HP2.out)
    have HC3 := Lib.hid (dblk hb3 HC2.out)
    have HR3 := Lib.hid (dblk hb3 HR2.out)
    have HW3 := Lib.hid (dcall HW2.out hb3)
    clear hb3 h3 x0 x1 x2 f0 f1 f2 y0 y1 y2 e0 e1 e2 z0 z1 z2 z3 z4
    obtain ⟨y0, e0⟩ := blk_cell (i := 0) (HP3.out)
    obtain ⟨y1, e1⟩ := blk_cell (i := 1) (HP3.out)
    obtain ⟨y2, e2⟩ := blk_cell (i := 2) (HP3.out)
    simp at y0 y1 y2
    go_upto_region 19 with fail
    obtain ⟨w4, hw4⟩ : ∃ w4, w4 = w3.setCell ⟨w.heap.size, 0, none⟩ (.slice a3 0 c3) := ⟨_, rfl⟩
    rw [← hw4]
    have HC4 := Lib.hid (dset1 hw4 (by simp) HC3.out)
    have HR4 := Lib.hid (dset1 hw4 (show w.heap.size + 2 ≠ w.heap.size by omega) HR3.out)
    have HW4 := Lib.hid (show Below w.heap.size w w4 from by rw [hw4]; exact HW3.out.setCell (show w.heap.size ≤ w.heap.size from Nat.le_refl _) _)
    obtain ⟨z0, z1, z2, z3, z4⟩ := five_cells HC4.out
    clear hw4 y0 y1 y2 e0 e1 e2
    obtain ⟨x0, f0⟩ := blk_cell (i := 0) (HR4.out)
    obtain ⟨x1, f1⟩ := blk_cell (i := 1) (HR4.out)
    obtain ⟨x2, f2⟩ := blk_cell (i := 2) (HR4.out)
    simp at x0 x1 x2
    go_wp2
    refine bodyPost_ret (results_cell3 rfl _ _ (w.heap.size + 2) 39 _ (0, 0) _ rfl (set3_blk HR4.out) Tryd.underlying39 rfl (by kernel_rfl)) rfl ?_
    exact DoRR.no HX.out (below3 HW4.out (by omega) _ _ _)
  | true =>
    rw [hs] at hcl
    obtain ⟨R, hR⟩ : ∃ R, R = writeD (o).data off.toNat d := ⟨_, rfl⟩
    have HX : Hid (doG (o) true ⟨5, off, n, nm, d⟩ = ⟨if true then { (o) with data := R } else ObD.none, true, true, 0⟩) := Lib.hid ((doG_some (o := o) (th := true) (op := ⟨5, off, n, nm, d⟩) (o2 := { (o) with data := R }) (by simp) (by rw [hR]; simp [changeB, hs])).trans (by simp [thereB]))
    rw [if_pos rfl, ← hR] at hcl
    have HCL := Lib.hid hcl
    clear hcl hs hR
    go_wp2_with fail
    refine (HCL.out _ (obv_data HV2.out) (RB.ext HD.out HW2.out)).mono ?_
    rintro e w3 ⟨a3, n3, c3, rfl, h3, hn3, hb3⟩
    replace hn3 : n3 = R.length := hn3
    subst hn3
    have H3 := Lib.hid (rb_off (show RB (UpA (fun b => b < w.heap.size) _) w3 (.slice a3 R.length c3) R from h3) hsz2)
    have HV3 := Lib.hid (off_low (HV2.out.ext hb3))
    have HP3 := Lib.hid (dblk hb3 HP2.out)
    have HC3 := Lib.hid (dblk hb3 HC2.out)
    have HR3 := Lib.hid (dblk hb3 HR2.out)
    have HW3 := Lib.hid (dcall HW2.out hb3)
    clear hb3 h3 x0 x1 x2 f0 f1 f2 y0 y1 y2 e0 e1 e2 z0 z1 z2 z3 z4
    obtain ⟨y0, e0⟩ := blk_cell (i := 0) (HP3.out)
    obtain ⟨y1, e1⟩ := blk_cell (i := 1) (HP3.out)
    obtain ⟨y2, e2⟩ := blk_cell (i := 2) (HP3.out)
    simp at y0 y1 y2
    go_upto_region 19 with fail
    obtain ⟨w4, hw4⟩ : ∃ w4, w4 = w3.setCell ⟨w.heap.size, 0, none⟩ (.slice a3 R.length c3) := ⟨_, rfl⟩
    rw [← hw4]
    have HP4 := Lib.hid (show w4.heap[w.heap.size]? = some (.cells #[.slice a3 R.length c3, .slice ka o.keys.length kc, .int .i64 o.seq] 39 (0, 0)) from by rw [hw4]; exact set_blk3 (j := 0) HP3.out)
    have HC4 := Lib.hid (dset1 hw4 (by simp) HC3.out)
    have HR4 := Lib.hid (dset1 hw4 (show w.heap.size + 2 ≠ w.heap.size by omega) HR3.out)
    have HW4 := Lib.hid (show Below w.heap.size w w4 from by rw [hw4]; exact HW3.out.setCell (show w.heap.size ≤ w.heap.size from Nat.le_refl _) _)
    have HV4 : Hid (ObV (Off w.heap.size) w4 (.agg #[.slice a3 R.length c3, .slice ka o.keys.length kc, .int .i64 o.seq]) ({ (o) with data := R })) := Lib.hid (by rw [hw4]; exact off_set (ob_data HV3.out H3.out) (.inl rfl))
    obtain ⟨z0, z1, z2, z3, z4⟩ := five_cells HC4.out
    clear hw4 y0 y1 y2 e0 e1 e2
    obtain ⟨y0, e0⟩ := blk_cell (i := 0) (HP4.out)
    obtain ⟨y1, e1⟩ := blk_cell (i := 1) (HP4.out)
    obtain ⟨y2, e2⟩ := blk_cell (i := 2) (HP4.out)
    simp at y0 y1 y2
    obtain ⟨x0, f0⟩ := blk_cell (i := 0) (HR4.out)
    obtain ⟨x1, f1⟩ := blk_cell (i := 1) (HR4.out)
    obtain ⟨x2, f2⟩ := blk_cell (i := 2) (HR4.out)
    simp at x0 x1 x2
    go_wp2
    refine bodyPost_ret (results_cell3 rfl _ _ (w.heap.size + 2) 39 _ (0, 0) _ rfl (set3_blk HR4.out) Tryd.underlying39 rfl (by kernel_rfl)) rfl ?_
    exact DoRR.ok HX.out (off_end HV4.out) (below3 HW4.out (by omega) _ _ _)
set_option maxRecDepth 100000 in
set_option maxHeartbeats 16000000 in
theorem rdo_5_false (A B : Nat → Prop) (v : Value) (o : ObD) (off n : Int) (nm : ByteArray) (oa : Option Addr) (oc : Nat) (d : List UInt8) (w : World)
    (hv : ObV A w v o) (hm : mayB o = true) (hd : RB B w (.slice oa d.length oc) d) (hl : d.length ≤ 50000) :
    Calls Tryd.prog 41 #[v, .bool false, opV 5 off n nm oa d.length oc] w (DoRR (doG (ObD.none) false ⟨5, off, n, nm, d⟩) w) := by
  have ho := okl_of hm
  obtain ⟨dv0, kv0, rfl, hdd, hkk⟩ := hv
  obtain ⟨da, dc, rfl⟩ := hdd.shape
  obtain ⟨ka, kc, rfl⟩ := hkk.shape
  have HOV : Hid (ObV A w _ o) := Lib.hid ⟨_, _, rfl, hdd, hkk⟩
  have HD : Hid (RB (fun b => b < w.heap.size) w _ d) := Lib.hid (hd.weak fun b h _ => h)
  have hko := ho.keys
  have hmd := ((mayB_iff o).1 hm).1
  have HL := Lib.hid ho
  unfold opV
  clear hdd hkk ho hd
  go_enter Tryd.func41, Tryd.ntmps41
  go_wp2_with fail
  obtain ⟨w0, hw0⟩ : ∃ w0, w0 = ((w.alloc (.cells #[.slice da o.data.length dc, .slice ka o.keys.length kc, .int .i64 o.seq] 39)).alloc (.cells #[.int .i64 5, .int .i64 off, .int .i64 n, .string nm, .slice oa d.length oc] 48)).alloc (.cells #[.slice none 0 0, .slice none 0 0, .int .i64 0] 39) := ⟨_, rfl⟩
  rw [← hw0]
  have b0 : w0.heap[w.heap.size]? = some (.cells #[.slice da o.data.length dc, .slice ka o.keys.length kc, .int .i64 o.seq] 39 (0, 0)) := by rw [hw0]; exact dnew (dnew (heap_alloc_new _ _) _) _
  have b1 : w0.heap[w.heap.size + 1]? = some (.cells #[.int .i64 5, .int .i64 off, .int .i64 n, .string nm, .slice oa d.length oc] 48 (0, 0)) := by rw [hw0]; exact dnew (heap_alloc2_new _ _ _) _
  have b2 : w0.heap[w.heap.size + 2]? = some (.cells #[.slice none 0 0, .slice none 0 0, .int .i64 0] 39 (0, 0)) := by rw [hw0]; have h := fun (W : World) o' => heap_alloc_new W o'; have := h ((w.alloc (.cells #[.slice da o.data.length dc, .slice ka o.keys.length kc, .int .i64 o.seq] 39)).alloc (.cells #[.int .i64 5, .int .i64 off, .int .i64 n, .string nm, .slice oa d.length oc] 48)) (.cells #[.slice none 0 0, .slice none 0 0, .int .i64 0] 39); simpa using this
  have hw : Below w.heap.size w w0 := by rw [hw0]; ((repeat' (first | exact Below.refl _ _ | refine below_drewN ?_ _ | refine Below.drew ?_ | refine Below.alloc ?_ ?_ _ | refine Below.trans ?_ (Below.mono (by assumption) ?_))); all_goals (first | exact Nat.le_refl _ | exact Below.size (by assumption) | omega | (simp; done) | (simp; omega)))
  clear hw0
  refine (rmay8_any A _ o _ (HOV.out.ext hw) (by omega)).mono ?_
  rintro e w1 ⟨rfl, hb1⟩
  have HW1 := Lib.hid (dcall hw hb1)
  have HP1 := Lib.hid (dblk hb1 b0)
  have HC1 := Lib.hid (dblk hb1 b1)
  have HR1 := Lib.hid (dblk hb1 b2)
  rw [hm]
  clear hb1 b0 b1 b2 hw hm
  obtain ⟨y0, e0⟩ := blk_cell (i := 0) (HP1.out)
  obtain ⟨y1, e1⟩ := blk_cell (i := 1) (HP1.out)
  obtain ⟨y2, e2⟩ := blk_cell (i := 2) (HP1.out)
  simp at y0 y1 y2
  obtain ⟨x0, f0⟩ := blk_cell (i := 0) (HR1.out)
  obtain ⟨x1, f1⟩ := blk_cell (i := 1) (HR1.out)
  obtain ⟨x2, f2⟩ := blk_cell (i := 2) (HR1.out)
  simp at x0 x1 x2
  obtain ⟨z0, z1, z2, z3, z4⟩ := five_cells HC1.out
  go_upto_region 6 with fail
  obtain ⟨w2, hw2⟩ : ∃ w2, w2 = ((w1.setCell ⟨w.heap.size, 0, none⟩ (.slice none 0 0)).setCell ⟨w.heap.size, 1, none⟩ (.slice none 0 0)).setCell ⟨w.heap.size, 2, none⟩ (.int .i64 0) := ⟨_, rfl⟩
  rw [← hw2]
  have HV2 : Hid (ObV (fun b => b < w.heap.size) w2 (.agg #[.slice none 0 0, .slice none 0 0, .int .i64 0]) ObD.none) := Lib.hid (obv_none _ _)
  have HP2 := Lib.hid (show w2.heap[w.heap.size]? = some (.cells #[.slice none 0 0, .slice none 0 0, .int .i64 0] 39 (0, 0)) from by rw [hw2]; exact set3_blk HP1.out)
  have HC2 := Lib.hid (dset3 hw2 (by simp) HC1.out)
  have HR2 := Lib.hid (dset3 hw2 (show w.heap.size + 2 ≠ w.heap.size by omega) HR1.out)
  have HW2 := Lib.hid (show Below w.heap.size w w2 from by rw [hw2]; exact below3 HW1.out (Nat.le_refl _) _ _ _)
  have hsz2 : w.heap.size + 2 < w2.heap.size := (Array.getElem?_eq_some_iff.1 HR2.out).1
  clear hw2 HP1 HC1 HR1 HW1 HOV HL x0 x1 x2 f0 f1 f2 y0 y1 y2 e0 e1 e2 z0 z1 z2 z3 z4
  have HL := Lib.hid (okl_of mayB_none)
  obtain ⟨y0, e0⟩ := blk_cell (i := 0) (HP2.out)
  obtain ⟨y1, e1⟩ := blk_cell (i := 1) (HP2.out)
  obtain ⟨y2, e2⟩ := blk_cell (i := 2) (HP2.out)
  simp at y0 y1 y2
  obtain ⟨x0, f0⟩ := blk_cell (i := 0) (HR2.out)
  obtain ⟨x1, f1⟩ := blk_cell (i := 1) (HR2.out)
  obtain ⟨x2, f2⟩ := blk_cell (i := 2) (HR2.out)
  simp at x0 x1 x2
  obtain ⟨z0, z1, z2, z3, z4⟩ := five_cells HC2.out
  have HLD : Hid ((ObD.none).data.length ≤ 1000) := Lib.hid (by first | omega | decide)
  have hcl := fun W h1 h2 => rdata_write (fun b => b < w.heap.size) (fun b => b < w.heap.size) (none) 0 ((ObD.none).data) off n nm oa oc d W h1 h2 HLD.out hl
  unfold opV at hcl
  cases hs : spotB off d.length with
  | false =>
    rw [hs] at hcl
    have HX := Lib.hid (doG_none (o := ObD.none) (th := false) (op := ⟨5, off, n, nm, d⟩) (by simp) (by simp [changeB, hs]))
    have HCL := Lib.hid hcl
    clear hcl hs
    go_wp2_with fail
    refine (HCL.out _ (obv_data HV2.out) (RB.ext HD.out HW2.out)).mono ?_
    rintro e w3 ⟨a3, n3, c3, rfl, h3, hn3, hb3⟩
    replace hn3 : n3 = 0 := hn3
    subst hn3
    have HP3 := Lib.hid (dblk hb3 HP2.out)
    have HC3 := Lib.hid (dblk hb3 HC2.out)
    have HR3 := Lib.hid (dblk hb3 HR2.out)
    have HW3 := Lib.hid (dcall HW2.out hb3)
    clear hb3 h3 x0 x1 x2 f0 f1 f2 y0 y1 y2 e0 e1 e2 z0 z1 z2 z3 z4
    obtain ⟨y0, e0⟩ := blk_cell (i := 0) (HP3.out)
    obtain ⟨y1, e1⟩ := blk_cell (i := 1) (HP3.out)
    obtain ⟨y2, e2⟩ := blk_cell (i := 2) (HP3.out)
    simp at y0 y1 y2
    go_upto_region 19 with fail
    obtain ⟨w4, hw4⟩ : ∃ w4, w4 = w3.setCell ⟨w.heap.size, 0, none⟩ (.slice a3 0 c3) := ⟨_, rfl⟩
    rw [← hw4]
    have HC4 := Lib.hid (dset1 hw4 (by simp) HC3.out)
    have HR4 := Lib.hid (dset1 hw4 (show w.heap.size + 2 ≠ w.heap.size by omega) HR3.out)
    have HW4 := Lib.hid (show Below w.heap.size w w4 from by rw [hw4]; exact HW3.out.setCell (show w.heap.size ≤ w.heap.size from Nat.le_refl _) _)
    obtain ⟨z0, z1, z2, z3, z4⟩ := five_cells HC4.out
    clear hw4 y0 y1 y2 e0 e1 e2
    obtain ⟨x0, f0⟩ := blk_cell (i := 0) (HR4.out)
    obtain ⟨x1, f1⟩ := blk_cell (i := 1) (HR4.out)
    obtain ⟨x2, f2⟩ := blk_cell (i := 2) (HR4.out)
    simp at x0 x1 x2
    go_wp2
    refine bodyPost_ret (results_cell3 rfl _ _ (w.heap.size + 2) 39 _ (0, 0) _ rfl (set3_blk HR4.out) Tryd.underlying39 rfl (by kernel_rfl)) rfl ?_
    exact DoRR.no HX.out (below3 HW4.out (by omega) _ _ _)
  | true =>
    rw [hs] at hcl
    obtain ⟨R, hR⟩ : ∃ R, R = writeD (ObD.none).data off.toNat d := ⟨_, rfl⟩
    have HX : Hid (doG (ObD.none) false ⟨5, off, n, nm, d⟩ = ⟨if true then { (ObD.none) with data := R } else ObD.none, true, true, 0⟩) := Lib.hid ((doG_some (o := ObD.none) (th := false) (op := ⟨5, off, n, nm, d⟩) (o2 := { (ObD.none) with data := R }) (by simp) (by rw [hR]; simp [changeB, hs])).trans (by simp [thereB]))
    rw [if_pos rfl, ← hR] at hcl
    have HCL := Lib.hid hcl
    clear hcl hs hR
    go_wp2_with fail
    refine (HCL.out _ (obv_data HV2.out) (RB.ext HD.out HW2.out)).mono ?_
    rintro e w3 ⟨a3, n3, c3, rfl, h3, hn3, hb3⟩
    replace hn3 : n3 = R.length := hn3
    subst hn3
    have H3 := Lib.hid (rb_off (show RB (UpA (fun b => b < w.heap.size) _) w3 (.slice a3 R.length c3) R from h3) hsz2)
    have HV3 := Lib.hid (off_low (HV2.out.ext hb3))
    have HP3 := Lib.hid (dblk hb3 HP2.out)
    have HC3 := Lib.hid (dblk hb3 HC2.out)
    have HR3 := Lib.hid (dblk hb3 HR2.out)
    have HW3 := Lib.hid (dcall HW2.out hb3)
    clear hb3 h3 x0 x1 x2 f0 f1 f2 y0 y1 y2 e0 e1 e2 z0 z1 z2 z3 z4
    obtain ⟨y0, e0⟩ := blk_cell (i := 0) (HP3.out)
    obtain ⟨y1, e1⟩ := blk_cell (i := 1) (HP3.out)
    obtain ⟨y2, e2⟩ := blk_cell (i := 2) (HP3.out)
    simp at y0 y1 y2
    go_upto_region 19 with fail
    obtain ⟨w4, hw4⟩ : ∃ w4, w4 = w3.setCell ⟨w.heap.size, 0, none⟩ (.slice a3 R.length c3) := ⟨_, rfl⟩
    rw [← hw4]
    have HP4 := Lib.hid (show w4.heap[w.heap.size]? = some (.cells #[.slice a3 R.length c3, .slice none 0 0, .int .i64 0] 39 (0, 0)) from by rw [hw4]; exact set_blk3 (j := 0) HP3.out)
    have HC4 := Lib.hid (dset1 hw4 (by simp) HC3.out)
    have HR4 := Lib.hid (dset1 hw4 (show w.heap.size + 2 ≠ w.heap.size by omega) HR3.out)
    have HW4 := Lib.hid (show Below w.heap.size w w4 from by rw [hw4]; exact HW3.out.setCell (show w.heap.size ≤ w.heap.size from Nat.le_refl _) _)
    have HV4 : Hid (ObV (Off w.heap.size) w4 (.agg #[.slice a3 R.length c3, .slice none 0 0, .int .i64 0]) ({ (ObD.none) with data := R })) := Lib.hid (by rw [hw4]; exact off_set (ob_data HV3.out H3.out) (.inl rfl))
    obtain ⟨z0, z1, z2, z3, z4⟩ := five_cells HC4.out
    clear hw4 y0 y1 y2 e0 e1 e2
    obtain ⟨y0, e0⟩ := blk_cell (i := 0) (HP4.out)
    obtain ⟨y1, e1⟩ := blk_cell (i := 1) (HP4.out)
    obtain ⟨y2, e2⟩ := blk_cell (i := 2) (HP4.out)
    simp at y0 y1 y2
    obtain ⟨x0, f0⟩ := blk_cell (i := 0) (HR4.out)
    obtain ⟨x1, f1⟩ := blk_cell (i := 1) (HR4.out)
    obtain ⟨x2, f2⟩ := blk_cell (i := 2) (HR4.out)
    simp at x0 x1 x2
    go_wp2
    refine bodyPost_ret (results_cell3 rfl _ _ (w.heap.size + 2) 39 _ (0, 0) _ rfl (set3_blk HR4.out) Tryd.underlying39 rfl (by kernel_rfl)) rfl ?_
    exact DoRR.ok HX.out (off_end HV4.out) (below3 HW4.out (by omega) _ _ _)
set_option maxRecDepth 100000 in
set_option maxHeartbeats 16000000 in
theorem rdo_6_true (A B : Nat → Prop) (v : Value) (o : ObD) (off n : Int) (nm : ByteArray) (oa : Option Addr) (oc : Nat) (d : List UInt8) (w : World)
    (hv : ObV A w v o) (hm : mayB o = true) (hd : RB B w (.slice oa d.length oc) d) (_hl : d.length ≤ 50000) :
    Calls Tryd.prog 41 #[v, .bool true, opV 6 off n nm oa d.length oc] w (DoRR (doG (o) true ⟨6, off, n, nm, d⟩) w) := by
  have ho := okl_of hm
  obtain ⟨dv0, kv0, rfl, hdd, hkk⟩ := hv
  obtain ⟨da, dc, rfl⟩ := hdd.shape
  obtain ⟨ka, kc, rfl⟩ := hkk.shape
  have HOV : Hid (ObV A w _ o) := Lib.hid ⟨_, _, rfl, hdd, hkk⟩
  have HD : Hid (RB (fun b => b < w.heap.size) w _ d) := Lib.hid (hd.weak fun b h _ => h)
  have hko := ho.keys
  have hmd := ((mayB_iff o).1 hm).1
  have HL := Lib.hid ho
  unfold opV
  clear hdd hkk ho hd
  go_enter Tryd.func41, Tryd.ntmps41
  go_wp2_with fail
  obtain ⟨w0, hw0⟩ : ∃ w0, w0 = ((w.alloc (.cells #[.slice da o.data.length dc, .slice ka o.keys.length kc, .int .i64 o.seq] 39)).alloc (.cells #[.int .i64 6, .int .i64 off, .int .i64 n, .string nm, .slice oa d.length oc] 48)).alloc (.cells #[.slice none 0 0, .slice none 0 0, .int .i64 0] 39) := ⟨_, rfl⟩
  rw [← hw0]
  have b0 : w0.heap[w.heap.size]? = some (.cells #[.slice da o.data.length dc, .slice ka o.keys.length kc, .int .i64 o.seq] 39 (0, 0)) := by rw [hw0]; exact dnew (dnew (heap_alloc_new _ _) _) _
  have b1 : w0.heap[w.heap.size + 1]? = some (.cells #[.int .i64 6, .int .i64 off, .int .i64 n, .string nm, .slice oa d.length oc] 48 (0, 0)) := by rw [hw0]; exact dnew (heap_alloc2_new _ _ _) _
  have b2 : w0.heap[w.heap.size + 2]? = some (.cells #[.slice none 0 0, .slice none 0 0, .int .i64 0] 39 (0, 0)) := by rw [hw0]; have h := fun (W : World) o' => heap_alloc_new W o'; have := h ((w.alloc (.cells #[.slice da o.data.length dc, .slice ka o.keys.length kc, .int .i64 o.seq] 39)).alloc (.cells #[.int .i64 6, .int .i64 off, .int .i64 n, .string nm, .slice oa d.length oc] 48)) (.cells #[.slice none 0 0, .slice none 0 0, .int .i64 0] 39); simpa using this
  have hw : Below w.heap.size w w0 := by rw [hw0]; ((repeat' (first | exact Below.refl _ _ | refine below_drewN ?_ _ | refine Below.drew ?_ | refine Below.alloc ?_ ?_ _ | refine Below.trans ?_ (Below.mono (by assumption) ?_))); all_goals (first | exact Nat.le_refl _ | exact Below.size (by assumption) | omega | (simp; done) | (simp; omega)))
  clear hw0
  refine (rmay8_any A _ o _ (HOV.out.ext hw) (by omega)).mono ?_
  rintro e w1 ⟨rfl, hb1⟩
  have HW1 := Lib.hid (dcall hw hb1)
  have HP1 := Lib.hid (dblk hb1 b0)
  have HC1 := Lib.hid (dblk hb1 b1)
  have HR1 := Lib.hid (dblk hb1 b2)
  rw [hm]
  clear hb1 b0 b1 b2 hw hm
  obtain ⟨y0, e0⟩ := blk_cell (i := 0) (HP1.out)
  obtain ⟨y1, e1⟩ := blk_cell (i := 1) (HP1.out)
  obtain ⟨y2, e2⟩ := blk_cell (i := 2) (HP1.out)
  simp at y0 y1 y2
  obtain ⟨x0, f0⟩ := blk_cell (i := 0) (HR1.out)
  obtain ⟨x1, f1⟩ := blk_cell (i := 1) (HR1.out)
  obtain ⟨x2, f2⟩ := blk_cell (i := 2) (HR1.out)
  simp at x0 x1 x2
  obtain ⟨z0, z1, z2, z3, z4⟩ := five_cells HC1.out
  go_upto_region 6 with fail
  have HV2 : Hid (ObV (fun b => b < w.heap.size) w1 (.agg #[.slice da o.data.length dc, .slice ka o.keys.length kc, .int .i64 o.seq]) o) := Lib.hid ((HOV.out.cut.weak fun b _ h => h.2).ext HW1.out)
  have HP2 := Lib.hid HP1.out
  have HC2 := Lib.hid HC1.out
  have HR2 := Lib.hid HR1.out
  have HW2 := Lib.hid HW1.out
  have hsz2 : w.heap.size + 2 < w1.heap.size := (Array.getElem?_eq_some_iff.1 HR1.out).1
  obtain ⟨w2, hw2⟩ : ∃ w2, w2 = w1 := ⟨_, rfl⟩
  subst hw2
  clear HP1 HC1 HR1 HW1 HOV x0 x1 x2 f0 f1 f2 y0 y1 y2 e0 e1 e2 z0 z1 z2 z3 z4
  obtain ⟨y0, e0⟩ := blk_cell (i := 0) (HP2.out)
  obtain ⟨y1, e1⟩ := blk_cell (i := 1) (HP2.out)
  obtain ⟨y2, e2⟩ := blk_cell (i := 2) (HP2.out)
  simp at y0 y1 y2
  obtain ⟨x0, f0⟩ := blk_cell (i := 0) (HR2.out)
  obtain ⟨x1, f1⟩ := blk_cell (i := 1) (HR2.out)
  obtain ⟨x2, f2⟩ := blk_cell (i := 2) (HR2.out)
  simp at x0 x1 x2
  obtain ⟨z0, z1, z2, z3, z4⟩ := five_cells HC2.out
  have HLD : Hid ((o).data.length ≤ 1000) := Lib.hid (by first | omega | decide)
  have hcl := fun W h1 h2 => (fun (_ : RB (fun b => b < w.heap.size) W (.slice oa d.length oc) d) => rdata_zero (fun b => b < w.heap.size) (da) dc ((o).data) off n nm oa d.length oc W h1 HLD.out) h2
  unfold opV at hcl
  cases hs : spotB off n with
  | false =>
    rw [hs] at hcl
    have HX := Lib.hid (doG_none (o := o) (th := true) (op := ⟨6, off, n, nm, d⟩) (by simp) (by simp [changeB, hs]))
    have HCL := Lib.hid hcl
    clear hcl hs
    go_wp2_with fail
    refine (HCL.out _ (obv_data HV2.out) (RB.ext HD.out HW2.out)).mono ?_
    rintro e w3 ⟨a3, n3, c3, rfl, h3, hn3, hb3⟩
    replace hn3 : n3 = 0 := hn3
    subst hn3
    have HP3 := Lib.hid (dblk hb3 HP2.out)
    have HC3 := Lib.hid (dblk hb3 HC2.out)
    have HR3 := Lib.hid (dblk hb3 HR2.out)
    have HW3 := Lib.hid (dcall HW2.out hb3)
    clear hb3 h3 x0 x1 x2 f0 f1 f2 y0 y1 y2 e0 e1 e2 z0 z1 z2 z3 z4
    obtain ⟨y0, e0⟩ := blk_cell (i := 0) (HP3.out)
    obtain ⟨y1, e1⟩ := blk_cell (i := 1) (HP3.out)
    obtain ⟨y2, e2⟩ := blk_cell (i := 2) (HP3.out)
    simp at y0 y1 y2
    go_upto_region 19 with fail
    obtain ⟨w4, hw4⟩ : ∃ w4, w4 = w3.setCell ⟨w.heap.size, 0, none⟩ (.slice a3 0 c3) := ⟨_, rfl⟩
    rw [← hw4]
    have HC4 := Lib.hid (dset1 hw4 (by simp) HC3.out)
    have HR4 := Lib.hid (dset1 hw4 (show w.heap.size + 2 ≠ w.heap.size by omega) HR3.out)
    have HW4 := Lib.hid (show Below w.heap.size w w4 from by rw [hw4]; exact HW3.out.setCell (show w.heap.size ≤ w.heap.size from Nat.le_refl _) _)
    obtain ⟨z0, z1, z2, z3, z4⟩ := five_cells HC4.out
    clear hw4 y0 y1 y2 e0 e1 e2
    obtain ⟨x0, f0⟩ := blk_cell (i := 0) (HR4.out)
    obtain ⟨x1, f1⟩ := blk_cell (i := 1) (HR4.out)
    obtain ⟨x2, f2⟩ := blk_cell (i := 2) (HR4.out)
    simp at x0 x1 x2
    go_wp2
    refine bodyPost_ret (results_cell3 rfl _ _ (w.heap.size + 2) 39 _ (0, 0) _ rfl (set3_blk HR4.out) Tryd.underlying39 rfl (by kernel_rfl)) rfl ?_
    exact DoRR.no HX.out (below3 HW4.out (by omega) _ _ _)
  | true =>
    rw [hs] at hcl
    obtain ⟨R, hR⟩ : ∃ R, R = zeroD (o).data off.toNat n.toNat := ⟨_, rfl⟩
    have HX : Hid (doG (o) true ⟨6, off, n, nm, d⟩ = ⟨if true then { (o) with data := R } else ObD.none, true, true, 0⟩) := Lib.hid ((doG_some (o := o) (th := true) (op := ⟨6, off, n, nm, d⟩) (o2 := { (o) with data := R }) (by simp) (by rw [hR]; simp [changeB, hs])).trans (by simp [thereB]))
    rw [if_pos rfl, ← hR] at hcl
    have HCL := Lib.hid hcl
    clear hcl hs hR
    go_wp2_with fail
    refine (HCL.out _ (obv_data HV2.out) (RB.ext HD.out HW2.out)).mono ?_
    rintro e w3 ⟨a3, n3, c3, rfl, h3, hn3, hb3⟩
    replace hn3 : n3 = R.length := hn3
    subst hn3
    have H3 := Lib.hid (rb_off (show RB (UpA (fun b => b < w.heap.size) _) w3 (.slice a3 R.length c3) R from h3) hsz2)
    have HV3 := Lib.hid (off_low (HV2.out.ext hb3))
    have HP3 := Lib.hid (dblk hb3 HP2.out)
    have HC3 := Lib.hid (dblk hb3 HC2.out)
    have HR3 := Lib.hid (dblk hb3 HR2.out)
    have HW3 := Lib.hid (dcall HW2.out hb3)
    clear hb3 h3 x0 x1 x2 f0 f1 f2 y0 y1 y2 e0 e1 e2 z0 z1 z2 z3 z4
    obtain ⟨y0, e0⟩ := blk_cell (i := 0) (HP3.out)
    obtain ⟨y1, e1⟩ := blk_cell (i := 1) (HP3.out)
    obtain ⟨y2, e2⟩ := blk_cell (i := 2) (HP3.out)
    simp at y0 y1 y2
    go_upto_region 19 with fail
    obtain ⟨w4, hw4⟩ : ∃ w4, w4 = w3.setCell ⟨w.heap.size, 0, none⟩ (.slice a3 R.length c3) := ⟨_, rfl⟩
    rw [← hw4]
    have HP4 := Lib.hid (show w4.heap[w.heap.size]? = some (.cells #[.slice a3 R.length c3, .slice ka o.keys.length kc, .int .i64 o.seq] 39 (0, 0)) from by rw [hw4]; exact set_blk3 (j := 0) HP3.out)
    have HC4 := Lib.hid (dset1 hw4 (by simp) HC3.out)
    have HR4 := Lib.hid (dset1 hw4 (show w.heap.size + 2 ≠ w.heap.size by omega) HR3.out)
    have HW4 := Lib.hid (show Below w.heap.size w w4 from by rw [hw4]; exact HW3.out.setCell (show w.heap.size ≤ w.heap.size from Nat.le_refl _) _)
    have HV4 : Hid (ObV (Off w.heap.size) w4 (.agg #[.slice a3 R.length c3, .slice ka o.keys.length kc, .int .i64 o.seq]) ({ (o) with data := R })) := Lib.hid (by rw [hw4]; exact off_set (ob_data HV3.out H3.out) (.inl rfl))
    obtain ⟨z0, z1, z2, z3, z4⟩ := five_cells HC4.out
    clear hw4 y0 y1 y2 e0 e1 e2
    obtain ⟨y0, e0⟩ := blk_cell (i := 0) (HP4.out)
    obtain ⟨y1, e1⟩ := blk_cell (i := 1) (HP4.out)
    obtain ⟨y2, e2⟩ := blk_cell (i := 2) (HP4.out)
    simp at y0 y1 y2
    obtain ⟨x0, f0⟩ := blk_cell (i := 0) (HR4.out)
    obtain ⟨x1, f1⟩ := blk_cell (i := 1) (HR4.out)
    obtain ⟨x2, f2⟩ := blk_cell (i := 2) (HR4.out)
    simp at x0 x1 x2
    go_wp2
    refine bodyPost_ret (results_cell3 rfl _ _ (w.heap.size + 2) 39 _ (0, 0) _ rfl (set3_blk HR4.out) Tryd.underlying39 rfl (by kernel_rfl)) rfl ?_
    exact DoRR.ok HX.out (off_end HV4.out) (below3 HW4.out (by omega) _ _ _)
set_option maxRecDepth 100000 in
set_option maxHeartbeats 16000000 in
theorem rdo_6_false (A B : Nat → Prop) (v : Value) (o : ObD) (off n : Int) (nm : ByteArray) (oa : Option Addr) (oc : Nat) (d : List UInt8) (w : World)
    (hv : ObV A w v o) (hm : mayB o = true) (hd : RB B w (.slice oa d.length oc) d) (_hl : d.length ≤ 50000) :
    Calls Tryd.prog 41 #[v, .bool false, opV 6 off n nm oa d.length oc] w (DoRR (doG (ObD.none) false ⟨6, off, n, nm, d⟩) w) := by
  have ho := okl_of hm
  obtain ⟨dv0, kv0, rfl, hdd, hkk⟩ := hv
  obtain ⟨da, dc, rfl⟩ := hdd.shape
  obtain ⟨ka, kc, rfl⟩ := hkk.shape
  have HOV : Hid (ObV A w _ o) := Lib.hid ⟨_, _, rfl, hdd, hkk⟩
  have HD : Hid (RB (fun b => b < w.heap.size) w _ d) := Lib.hid (hd.weak fun b h _ => h)
  have hko := ho.keys
  have hmd := ((mayB_iff o).1 hm).1
  have HL := Lib.hid ho
  unfold opV
  clear hdd hkk ho hd
  go_enter Tryd.func41, Tryd.ntmps41
  go_wp2_with fail
  obtain ⟨w0, hw0⟩ : ∃ w0, w0 = ((w.alloc (.cells #[.slice da o.data.length dc, .slice ka o.keys.length kc, .int .i64 o.seq] 39)).alloc (.cells #[.int .i64 6, .int .i64 off, .int .i64 n, .string nm, .slice oa d.length oc] 48)).alloc (.cells #[.slice none 0 0, .slice none 0 0, .int .i64 0] 39) := ⟨_, rfl⟩
  rw [← hw0]
  have b0 : w0.heap[w.heap.size]? = some (.cells #[.slice da o.data.length dc, .slice ka o.keys.length kc, .int .i64 o.seq] 39 (0, 0)) := by rw [hw0]; exact dnew (dnew (heap_alloc_new _ _) _) _
  have b1 : w0.heap[w.heap.size + 1]? = some (.cells #[.int .i64 6, .int .i64 off, .int .i64 n, .string nm, .slice oa d.length oc] 48 (0, 0)) := by rw [hw0]; exact dnew (heap_alloc2_new _ _ _) _
  have b2 : w0.heap[w.heap.size + 2]? = some (.cells #[.slice none 0 0, .slice none 0 0, .int .i64 0] 39 (0, 0)) := by rw [hw0]; have h := fun (W : World) o' => heap_alloc_new W o'; have := h ((w.alloc (.cells #[.slice da o.data.length dc, .slice ka o.keys.length kc, .int .i64 o.seq] 39)).alloc (.cells #[.int .i64 6, .int .i64 off, .int .i64 n, .string nm, .slice oa d.length oc] 48)) (.cells #[.slice none 0 0, .slice none 0 0, .int .i64 0] 39); simpa using this
  have hw : Below w.heap.size w w0 := by rw [hw0]; ((repeat' (first | exact Below.refl _ _ | refine below_drewN ?_ _ | refine Below.drew ?_ | refine Below.alloc ?_ ?_ _ | refine Below.trans ?_ (Below.mono (by assumption) ?_))); all_goals (first | exact Nat.le_refl _ | exact Below.size (by assumption) | omega | (simp; done) | (simp; omega)))
  clear hw0
  refine (rmay8_any A _ o _ (HOV.out.ext hw) (by omega)).mono ?_
  rintro e w1 ⟨rfl, hb1⟩
  have HW1 := Lib.hid (dcall hw hb1)
  have HP1 := Lib.hid (dblk hb1 b0)
  have HC1 := Lib.hid (dblk hb1 b1)
  have HR1 := Lib.hid (dblk hb1 b2)
  rw [hm]
  clear hb1 b0 b1 b2 hw hm
  obtain ⟨y0, e0⟩ := blk_cell (i := 0) (HP1.out)
  obtain ⟨y1, e1⟩ := blk_cell (i := 1) (HP1.out)
  obtain ⟨y2, e2⟩ := blk_cell (i := 2) (HP1.out)
  simp at y0 y1 y2
  obtain ⟨x0, f0⟩ := blk_cell (i := 0) (HR1.out)
  obtain ⟨x1, f1⟩ := blk_cell (i := 1) (HR1.out)
  obtain ⟨x2, f2⟩ := blk_cell (i := 2) (HR1.out)
  simp at x0 x1 x2
  obtain ⟨z0, z1, z2, z3, z4⟩ := five_cells HC1.out
  go_upto_region 6 with fail
  obtain ⟨w2, hw2⟩ : ∃ w2, w2 = ((w1.setCell ⟨w.heap.size, 0, none⟩ (.slice none 0 0)).setCell ⟨w.heap.size, 1, none⟩ (.slice none 0 0)).setCell ⟨w.heap.size, 2, none⟩ (.int .i64 0) := ⟨_, rfl⟩
  rw [← hw2]
  have HV2 : Hid (ObV (fun b => b < w.heap.size) w2 (.agg #[.slice none 0 0, .slice none 0 0, .int .i64 0]) ObD.none) := Lib.hid (obv_none _ _)
  have HP2 := Lib.hid (show w2.heap[w.heap.size]? = some (.cells #[.slice none 0 0, .slice none 0 0, .int .i64 0] 39 (0, 0)) from by rw [hw2]; exact set3_blk HP1.out)
  have HC2 := Lib.hid (dset3 hw2 (by simp) HC1.out)
  have HR2 := Lib.hid (dset3 hw2 (show w.heap.size + 2 ≠ w.heap.size by omega) HR1.out)
  have HW2 := Lib.hid (show Below w.heap.size w w2 from by rw [hw2]; exact below3 HW1.out (Nat.le_refl _) _ _ _)
  have hsz2 : w.heap.size + 2 < w2.heap.size := (Array.getElem?_eq_some_iff.1 HR2.out).1
  clear hw2 HP1 HC1 HR1 HW1 HOV HL x0 x1 x2 f0 f1 f2 y0 y1 y2 e0 e1 e2 z0 z1 z2 z3 z4
  have HL := Lib.hid (okl_of mayB_none)
  obtain ⟨y0, e0⟩ := blk_cell (i := 0) (HP2.out)
  obtain ⟨y1, e1⟩ := blk_cell (i := 1) (HP2.out)
  obtain ⟨y2, e2⟩ := blk_cell (i := 2) (HP2.out)
  simp at y0 y1 y2
  obtain ⟨x0, f0⟩ := blk_cell (i := 0) (HR2.out)
  obtain ⟨x1, f1⟩ := blk_cell (i := 1) (HR2.out)
  obtain ⟨x2, f2⟩ := blk_cell (i := 2) (HR2.out)
  simp at x0 x1 x2
  obtain ⟨z0, z1, z2, z3, z4⟩ := five_cells HC2.out
  have HLD : Hid ((ObD.none).data.length ≤ 1000) := Lib.hid (by first | omega | decide)
  have hcl := fun W h1 h2 => (fun (_ : RB (fun b => b < w.heap.size) W (.slice oa d.length oc) d) => rdata_zero (fun b => b < w.heap.size) (none) 0 ((ObD.none).data) off n nm oa d.length oc W h1 HLD.out) h2
  unfold opV at hcl
  cases hs : spotB off n with
  | false =>
    rw [hs] at hcl
    have HX := Lib.hid (doG_none (o := ObD.none) (th := false) (op := ⟨6, off, n, nm, d⟩) (by simp) (by simp [changeB, hs]))
    have HCL := Lib.hid hcl
    clear hcl hs
    go_wp2_with fail
    refine (HCL.out _ (obv_data HV2.out) (RB.ext HD.out HW2.out)).mono ?_
    rintro e w3 ⟨a3, n3, c3, rfl, h3, hn3, hb3⟩
    replace hn3 : n3 = 0 := hn3
    subst hn3
    have HP3 := Lib.hid (dblk hb3 HP2.out)
    have HC3 := Lib.hid (dblk hb3 HC2.out)
    have HR3 := Lib.hid (dblk hb3 HR2.out)
    have HW3 := Lib.hid (dcall HW2.out hb3)
    clear hb3 h3 x0 x1 x2 f0 f1 f2 y0 y1 y2 e0 e1 e2 z0 z1 z2 z3 z4
    obtain ⟨y0, e0⟩ := blk_cell (i := 0) (HP3.out)
    obtain ⟨y1, e1⟩ := blk_cell (i := 1) (HP3.out)
    obtain ⟨y2, e2⟩ := blk_cell (i := 2) (HP3.out)
    simp at y0 y1 y2
    go_upto_region 19 with fail
    obtain ⟨w4, hw4⟩ : ∃ w4, w4 = w3.setCell ⟨w.heap.size, 0, none⟩ (.slice a3 0 c3) := ⟨_, rfl⟩
    rw [← hw4]
    have HC4 := Lib.hid (dset1 hw4 (by simp) HC3.out)
    have HR4 := Lib.hid (dset1 hw4 (show w.heap.size + 2 ≠ w.heap.size by omega) HR3.out)
    have HW4 := Lib.hid (show Below w.heap.size w w4 from by rw [hw4]; exact HW3.out.setCell (show w.heap.size ≤ w.heap.size from Nat.le_refl _) _)
    obtain ⟨z0, z1, z2, z3, z4⟩ := five_cells HC4.out
    clear hw4 y0 y1 y2 e0 e1 e2
    obtain ⟨x0, f0⟩ := blk_cell (i := 0) (HR4.out)
    obtain ⟨x1, f1⟩ := blk_cell (i := 1) (HR4.out)
    obtain ⟨x2, f2⟩ := blk_cell (i := 2) (HR4.out)
    simp at x0 x1 x2
    go_wp2
    refine bodyPost_ret (results_cell3 rfl _ _ (w.heap.size + 2) 39 _ (0, 0) _ rfl (set3_blk HR4.out) Tryd.underlying39 rfl (by kernel_rfl)) rfl ?_
    exact DoRR.no HX.out (below3 HW4.out (by omega) _ _ _)
  | true =>
    rw [hs] at hcl
    obtain ⟨R, hR⟩ : ∃ R, R = zeroD (ObD.none).data off.toNat n.toNat := ⟨_, rfl⟩
    have HX : Hid (doG (ObD.none) false ⟨6, off, n, nm, d⟩ = ⟨if false then { (ObD.none) with data := R } else ObD.none, false, true, 0⟩) := Lib.hid ((doG_some (o := ObD.none) (th := false) (op := ⟨6, off, n, nm, d⟩) (o2 := { (ObD.none) with data := R }) (by simp) (by rw [hR]; simp [changeB, hs])).trans (by simp [thereB]))
    rw [if_pos rfl, ← hR] at hcl
    have HCL := Lib.hid hcl
    clear hcl hs hR
    go_wp2_with fail
    refine (HCL.out _ (obv_data HV2.out) (RB.ext HD.out HW2.out)).mono ?_
    rintro e w3 ⟨a3, n3, c3, rfl, h3, hn3, hb3⟩
    replace hn3 : n3 = R.length := hn3
    subst hn3
    have H3 := Lib.hid (rb_off (show RB (UpA (fun b => b < w.heap.size) _) w3 (.slice a3 R.length c3) R from h3) hsz2)
    have HV3 := Lib.hid (off_low (HV2.out.ext hb3))
    have HP3 := Lib.hid (dblk hb3 HP2.out)
    have HC3 := Lib.hid (dblk hb3 HC2.out)
    have HR3 := Lib.hid (dblk hb3 HR2.out)
    have HW3 := Lib.hid (dcall HW2.out hb3)
    clear hb3 h3 x0 x1 x2 f0 f1 f2 y0 y1 y2 e0 e1 e2 z0 z1 z2 z3 z4
    obtain ⟨y0, e0⟩ := blk_cell (i := 0) (HP3.out)
    obtain ⟨y1, e1⟩ := blk_cell (i := 1) (HP3.out)
    obtain ⟨y2, e2⟩ := blk_cell (i := 2) (HP3.out)
    simp at y0 y1 y2
    go_upto_region 19 with fail
    obtain ⟨w4, hw4⟩ : ∃ w4, w4 = w3.setCell ⟨w.heap.size, 0, none⟩ (.slice a3 R.length c3) := ⟨_, rfl⟩
    rw [← hw4]
    have HP4 := Lib.hid (show w4.heap[w.heap.size]? = some (.cells #[.slice a3 R.length c3, .slice none 0 0, .int .i64 0] 39 (0, 0)) from by rw [hw4]; exact set_blk3 (j := 0) HP3.out)
    have HC4 := Lib.hid (dset1 hw4 (by simp) HC3.out)
    have HR4 := Lib.hid (dset1 hw4 (show w.heap.size + 2 ≠ w.heap.size by omega) HR3.out)
    have HW4 := Lib.hid (show Below w.heap.size w w4 from by rw [hw4]; exact HW3.out.setCell (show w.heap.size ≤ w.heap.size from Nat.le_refl _) _)
    have HV4 : Hid (ObV (Off w.heap.size) w4 (.agg #[.slice a3 R.length c3, .slice none 0 0, .int .i64 0]) ({ (ObD.none) with data := R })) := Lib.hid (by rw [hw4]; exact off_set (ob_data HV3.out H3.out) (.inl rfl))
    obtain ⟨z0, z1, z2, z3, z4⟩ := five_cells HC4.out
    clear hw4 y0 y1 y2 e0 e1 e2
    obtain ⟨y0, e0⟩ := blk_cell (i := 0) (HP4.out)
    obtain ⟨y1, e1⟩ := blk_cell (i := 1) (HP4.out)
    obtain ⟨y2, e2⟩ := blk_cell (i := 2) (HP4.out)
    simp at y0 y1 y2
    obtain ⟨x0, f0⟩ := blk_cell (i := 0) (HR4.out)
    obtain ⟨x1, f1⟩ := blk_cell (i := 1) (HR4.out)
    obtain ⟨x2, f2⟩ := blk_cell (i := 2) (HR4.out)
    simp at x0 x1 x2
    go_wp2
    refine bodyPost_ret (results_cell3 rfl _ _ (w.heap.size + 2) 39 _ (0, 0) _ rfl (set3_blk ((set3_ne _ _ _ _ _ (show w.heap.size + 2 ≠ w.heap.size by omega)).trans HR4.out)) Tryd.underlying39 rfl (by kernel_rfl)) rfl ?_
    exact DoRR.ok (o := ObD.none) HX.out (obv_none _ _) (below3 (below3 HW4.out (Nat.le_refl _) _ _ _) (by omega) _ _ _)
set_option maxRecDepth 100000 in
set_option maxHeartbeats 16000000 in
theorem rdo_7_true (A B : Nat → Prop) (v : Value) (o : ObD) (off n : Int) (nm : ByteArray) (oa : Option Addr) (oc : Nat) (d : List UInt8) (w : World)
    (hv : ObV A w v o) (hm : mayB o = true) (hd : RB B w (.slice oa d.length oc) d) (_hl : d.length ≤ 50000) :
    Calls Tryd.prog 41 #[v, .bool true, opV 7 off n nm oa d.length oc] w (DoRR (doG (o) true ⟨7, off, n, nm, d⟩) w) := by
  have ho := okl_of hm
  obtain ⟨dv0, kv0, rfl, hdd, hkk⟩ := hv
  obtain ⟨da, dc, rfl⟩ := hdd.shape
  obtain ⟨ka, kc, rfl⟩ := hkk.shape
  have HOV : Hid (ObV A w _ o) := Lib.hid ⟨_, _, rfl, hdd, hkk⟩
  have HD : Hid (RB (fun b => b < w.heap.size) w _ d) := Lib.hid (hd.weak fun b h _ => h)
  have hko := ho.keys
  have hmd := ((mayB_iff o).1 hm).1
  have HL := Lib.hid ho
  unfold opV
  clear hdd hkk ho hd
  go_enter Tryd.func41, Tryd.ntmps41
  go_wp2_with fail
  obtain ⟨w0, hw0⟩ : ∃ w0, w0 = ((w.alloc (.cells #[.slice da o.data.length dc, .slice ka o.keys.length kc, .int .i64 o.seq] 39)).alloc (.cells #[.int .i64 7, .int .i64 off, .int .i64 n, .string nm, .slice oa d.length oc] 48)).alloc (.cells #[.slice none 0 0, .slice none 0 0, .int .i64 0] 39) := ⟨_, rfl⟩
  rw [← hw0]
  have b0 : w0.heap[w.heap.size]? = some (.cells #[.slice da o.data.length dc, .slice ka o.keys.length kc, .int .i64 o.seq] 39 (0, 0)) := by rw [hw0]; exact dnew (dnew (heap_alloc_new _ _) _) _
  have b1 : w0.heap[w.heap.size + 1]? = some (.cells #[.int .i64 7, .int .i64 off, .int .i64 n, .string nm, .slice oa d.length oc] 48 (0, 0)) := by rw [hw0]; exact dnew (heap_alloc2_new _ _ _) _
  have b2 : w0.heap[w.heap.size + 2]? = some (.cells #[.slice none 0 0, .slice none 0 0, .int .i64 0] 39 (0, 0)) := by rw [hw0]; have h := fun (W : World) o' => heap_alloc_new W o'; have := h ((w.alloc (.cells #[.slice da o.data.length dc, .slice ka o.keys.length kc, .int .i64 o.seq] 39)).alloc (.cells #[.int .i64 7, .int .i64 off, .int .i64 n, .string nm, .slice oa d.length oc] 48)) (.cells #[.slice none 0 0, .slice none 0 0, .int .i64 0] 39); simpa using this
  have hw : Below w.heap.size w w0 := by rw [hw0]; ((repeat' (first | exact Below.refl _ _ | refine below_drewN ?_ _ | refine Below.drew ?_ | refine Below.alloc ?_ ?_ _ | refine Below.trans ?_ (Below.mono (by assumption) ?_))); all_goals (first | exact Nat.le_refl _ | exact Below.size (by assumption) | omega | (simp; done) | (simp; omega)))
  clear hw0
  refine (rmay8_any A _ o _ (HOV.out.ext hw) (by omega)).mono ?_
  rintro e w1 ⟨rfl, hb1⟩
  have HW1 := Lib.hid (dcall hw hb1)
  have HP1 := Lib.hid (dblk hb1 b0)
  have HC1 := Lib.hid (dblk hb1 b1)
  have HR1 := Lib.hid (dblk hb1 b2)
  rw [hm]
  clear hb1 b0 b1 b2 hw hm
  obtain ⟨y0, e0⟩ := blk_cell (i := 0) (HP1.out)
  obtain ⟨y1, e1⟩ := blk_cell (i := 1) (HP1.out)
  obtain ⟨y2, e2⟩ := blk_cell (i := 2) (HP1.out)
  simp at y0 y1 y2
  obtain ⟨x0, f0⟩ := blk_cell (i := 0) (HR1.out)
  obtain ⟨x1, f1⟩ := blk_cell (i := 1) (HR1.out)
  obtain ⟨x2, f2⟩ := blk_cell (i := 2) (HR1.out)
  simp at x0 x1 x2
  obtain ⟨z0, z1, z2, z3, z4⟩ := five_cells HC1.out
  go_upto_region 6 with fail
  have HV2 : Hid (ObV (fun b => b < w.heap.size) w1 (.agg #[.slice da o.data.length dc, .slice ka o.keys.length kc, .int .i64 o.seq]) o) := Lib.hid ((HOV.out.cut.weak fun b _ h => h.2).ext HW1.out)
  have HP2 := Lib.hid HP1.out
  have HC2 := Lib.hid HC1.out
  have HR2 := Lib.hid HR1.out
  have HW2 := Lib.hid HW1.out
  have hsz2 : w.heap.size + 2 < w1.heap.size := (Array.getElem?_eq_some_iff.1 HR1.out).1
  obtain ⟨w2, hw2⟩ : ∃ w2, w2 = w1 := ⟨_, rfl⟩
  subst hw2
  clear HP1 HC1 HR1 HW1 HOV x0 x1 x2 f0 f1 f2 y0 y1 y2 e0 e1 e2 z0 z1 z2 z3 z4
  obtain ⟨y0, e0⟩ := blk_cell (i := 0) (HP2.out)
  obtain ⟨y1, e1⟩ := blk_cell (i := 1) (HP2.out)
  obtain ⟨y2, e2⟩ := blk_cell (i := 2) (HP2.out)
  simp at y0 y1 y2
  obtain ⟨x0, f0⟩ := blk_cell (i := 0) (HR2.out)
  obtain ⟨x1, f1⟩ := blk_cell (i := 1) (HR2.out)
  obtain ⟨x2, f2⟩ := blk_cell (i := 2) (HR2.out)
  simp at x0 x1 x2
  obtain ⟨z0, z1, z2, z3, z4⟩ := five_cells HC2.out
  have HLD : Hid ((o).data.length ≤ 1000) := Lib.hid (by first | omega | decide)
  have hcl := fun W h1 h2 => (fun (_ : RB (fun b => b < w.heap.size) W (.slice oa d.length oc) d) => rdata_cut (fun b => b < w.heap.size) (da) dc ((o).data) off n nm oa d.length oc W h1 HLD.out) h2
  unfold opV at hcl
  cases hs : spotB 0 n with
  | false =>
    rw [hs] at hcl
    have HX := Lib.hid (doG_none (o := o) (th := true) (op := ⟨7, off, n, nm, d⟩) (by simp) (by simp [changeB, hs]))
    have HCL := Lib.hid hcl
    clear hcl hs
    go_wp2_with fail
    refine (HCL.out _ (obv_data HV2.out) (RB.ext HD.out HW2.out)).mono ?_
    rintro e w3 ⟨a3, n3, c3, rfl, h3, hn3, hb3⟩
    replace hn3 : n3 = 0 := hn3
    subst hn3
    have HP3 := Lib.hid (dblk hb3 HP2.out)
    have HC3 := Lib.hid (dblk hb3 HC2.out)
    have HR3 := Lib.hid (dblk hb3 HR2.out)
    have HW3 := Lib.hid (dcall HW2.out hb3)
    clear hb3 h3 x0 x1 x2 f0 f1 f2 y0 y1 y2 e0 e1 e2 z0 z1 z2 z3 z4
    obtain ⟨y0, e0⟩ := blk_cell (i := 0) (HP3.out)
    obtain ⟨y1, e1⟩ := blk_cell (i := 1) (HP3.out)
    obtain ⟨y2, e2⟩ := blk_cell (i := 2) (HP3.out)
    simp at y0 y1 y2
    go_upto_region 19 with fail
    obtain ⟨w4, hw4⟩ : ∃ w4, w4 = w3.setCell ⟨w.heap.size, 0, none⟩ (.slice a3 0 c3) := ⟨_, rfl⟩
    rw [← hw4]
    have HC4 := Lib.hid (dset1 hw4 (by simp) HC3.out)
    have HR4 := Lib.hid (dset1 hw4 (show w.heap.size + 2 ≠ w.heap.size by omega) HR3.out)
    have HW4 := Lib.hid (show Below w.heap.size w w4 from by rw [hw4]; exact HW3.out.setCell (show w.heap.size ≤ w.heap.size from Nat.le_refl _) _)
    obtain ⟨z0, z1, z2, z3, z4⟩ := five_cells HC4.out
    clear hw4 y0 y1 y2 e0 e1 e2
    obtain ⟨x0, f0⟩ := blk_cell (i := 0) (HR4.out)
    obtain ⟨x1, f1⟩ := blk_cell (i := 1) (HR4.out)
    obtain ⟨x2, f2⟩ := blk_cell (i := 2) (HR4.out)
    simp at x0 x1 x2
    go_wp2
    refine bodyPost_ret (results_cell3 rfl _ _ (w.heap.size + 2) 39 _ (0, 0) _ rfl (set3_blk HR4.out) Tryd.underlying39 rfl (by kernel_rfl)) rfl ?_
    exact DoRR.no HX.out (below3 HW4.out (by omega) _ _ _)
  | true =>
    rw [hs] at hcl
    obtain ⟨R, hR⟩ : ∃ R, R = (o).data.take n.toNat := ⟨_, rfl⟩
    have HX : Hid (doG (o) true ⟨7, off, n, nm, d⟩ = ⟨if true then { (o) with data := R } else ObD.none, true, true, 0⟩) := Lib.hid ((doG_some (o := o) (th := true) (op := ⟨7, off, n, nm, d⟩) (o2 := { (o) with data := R }) (by simp) (by rw [hR]; simp [changeB, hs])).trans (by simp [thereB]))
    rw [if_pos rfl, ← hR] at hcl
    have HCL := Lib.hid hcl
    clear hcl hs hR
    go_wp2_with fail
    refine (HCL.out _ (obv_data HV2.out) (RB.ext HD.out HW2.out)).mono ?_
    rintro e w3 ⟨a3, n3, c3, rfl, h3, hn3, hb3⟩
    replace hn3 : n3 = R.length := hn3
    subst hn3
    have H3 := Lib.hid (rb_off (show RB (UpA (fun b => b < w.heap.size) _) w3 (.slice a3 R.length c3) R from h3) hsz2)
    have HV3 := Lib.hid (off_low (HV2.out.ext hb3))
    have HP3 := Lib.hid (dblk hb3 HP2.out)
    have HC3 := Lib.hid (dblk hb3 HC2.out)
    have HR3 := Lib.hid (dblk hb3 HR2.out)
    have HW3 := Lib.hid (dcall HW2.out hb3)
    clear hb3 h3 x0 x1 x2 f0 f1 f2 y0 y1 y2 e0 e1 e2 z0 z1 z2 z3 z4
    obtain ⟨y0, e0⟩ := blk_cell (i := 0) (HP3.out)
    obtain ⟨y1, e1⟩ := blk_cell (i := 1) (HP3.out)
    obtain ⟨y2, e2⟩ := blk_cell (i := 2) (HP3.out)
    simp at y0 y1 y2
    go_upto_region 19 with fail
    obtain ⟨w4, hw4⟩ : ∃ w4, w4 = w3.setCell ⟨w.heap.size, 0, none⟩ (.slice a3 R.length c3) := ⟨_, rfl⟩
    rw [← hw4]
    have HP4 := Lib.hid (show w4.heap[w.heap.size]? = some (.cells #[.slice a3 R.length c3, .slice ka o.keys.length kc, .int .i64 o.seq] 39 (0, 0)) from by rw [hw4]; exact set_blk3 (j := 0) HP3.out)
    have HC4 := Lib.hid (dset1 hw4 (by simp) HC3.out)
    have HR4 := Lib.hid (dset1 hw4 (show w.heap.size + 2 ≠ w.heap.size by omega) HR3.out)
    have HW4 := Lib.hid (show Below w.heap.size w w4 from by rw [hw4]; exact HW3.out.setCell (show w.heap.size ≤ w.heap.size from Nat.le_refl _) _)
    have HV4 : Hid (ObV (Off w.heap.size) w4 (.agg #[.slice a3 R.length c3, .slice ka o.keys.length kc, .int .i64 o.seq]) ({ (o) with data := R })) := Lib.hid (by rw [hw4]; exact off_set (ob_data HV3.out H3.out) (.inl rfl))
    obtain ⟨z0, z1, z2, z3, z4⟩ := five_cells HC4.out
    clear hw4 y0 y1 y2 e0 e1 e2
    obtain ⟨y0, e0⟩ := blk_cell (i := 0) (HP4.out)
    obtain ⟨y1, e1⟩ := blk_cell (i := 1) (HP4.out)
    obtain ⟨y2, e2⟩ := blk_cell (i := 2) (HP4.out)
    simp at y0 y1 y2
    obtain ⟨x0, f0⟩ := blk_cell (i := 0) (HR4.out)
    obtain ⟨x1, f1⟩ := blk_cell (i := 1) (HR4.out)
    obtain ⟨x2, f2⟩ := blk_cell (i := 2) (HR4.out)
    simp at x0 x1 x2
    go_wp2
    refine bodyPost_ret (results_cell3 rfl _ _ (w.heap.size + 2) 39 _ (0, 0) _ rfl (set3_blk HR4.out) Tryd.underlying39 rfl (by kernel_rfl)) rfl ?_
    exact DoRR.ok HX.out (off_end HV4.out) (below3 HW4.out (by omega) _ _ _)
set_option maxRecDepth 100000 in
set_option maxHeartbeats 16000000 in
theorem rdo_7_false (A B : Nat → Prop) (v : Value) (o : ObD) (off n : Int) (nm : ByteArray) (oa : Option Addr) (oc : Nat) (d : List UInt8) (w : World)
    (hv : ObV A w v o) (hm : mayB o = true) (hd : RB B w (.slice oa d.length oc) d) (_hl : d.length ≤ 50000) :
    Calls Tryd.prog 41 #[v, .bool false, opV 7 off n nm oa d.length oc] w (DoRR (doG (ObD.none) false ⟨7, off, n, nm, d⟩) w) := by
  have ho := okl_of hm
  obtain ⟨dv0, kv0, rfl, hdd, hkk⟩ := hv
  obtain ⟨da, dc, rfl⟩ := hdd.shape
  obtain ⟨ka, kc, rfl⟩ := hkk.shape
  have HOV : Hid (ObV A w _ o) := Lib.hid ⟨_, _, rfl, hdd, hkk⟩
  have HD : Hid (RB (fun b => b < w.heap.size) w _ d) := Lib.hid (hd.weak fun b h _ => h)
  have hko := ho.keys
  have hmd := ((mayB_iff o).1 hm).1
  have HL := Lib.hid ho
  unfold opV
  clear hdd hkk ho hd
  go_enter Tryd.func41, Tryd.ntmps41
  go_wp2_with fail
  obtain ⟨w0, hw0⟩ : ∃ w0, w0 = ((w.alloc (.cells #[.slice da o.data.length dc, .slice ka o.keys.length kc, .int .i64 o.seq] 39)).alloc (.cells #[.int .i64 7, .int .i64 off, .int .i64 n, .string nm, .slice oa d.length oc] 48)).alloc (.cells #[.slice none 0 0, .slice none 0 0, .int .i64 0] 39) := ⟨_, rfl⟩
  rw [← hw0]
  have b0 : w0.heap[w.heap.size]? = some (.cells #[.slice da o.data.length dc, .slice ka o.keys.length kc, .int .i64 o.seq] 39 (0, 0)) := by rw [hw0]; exact dnew (dnew (heap_alloc_new _ _) _) _
  have b1 : w0.heap[w.heap.size + 1]? = some (.cells #[.int .i64 7, .int .i64 off, .int .i64 n, .string nm, .slice oa d.length oc] 48 (0, 0)) := by rw [hw0]; exact dnew (heap_alloc2_new _ _ _) _
  have b2 : w0.heap[w.heap.size + 2]? = some (.cells #[.slice none 0 0, .slice none 0 0, .int .i64 0] 39 (0, 0)) := by rw [hw0]; have h := fun (W : World) o' => heap_alloc_new W o'; have := h ((w.alloc (.cells #[.slice da o.data.length dc, .slice ka o.keys.length kc, .int .i64 o.seq] 39)).alloc (.cells #[.int .i64 7, .int .i64 off, .int .i64 n, .string nm, .slice oa d.length oc] 48)) (.cells #[.slice none 0 0, .slice none 0 0, .int .i64 0] 39); simpa using this
  have hw : Below w.heap.size w w0 := by rw [hw0]; ((repeat' (first | exact Below.refl _ _ | refine below_drewN ?_ _ | refine Below.drew ?_ | refine Below.alloc ?_ ?_ _ | refine Below.trans ?_ (Below.mono (by assumption) ?_))); all_goals (first | exact Nat.le_refl _ | exact Below.size (by assumption) | omega | (simp; done) | (simp; omega)))
  clear hw0
  refine (rmay8_any A _ o _ (HOV.out.ext hw) (by omega)).mono ?_
  rintro e w1 ⟨rfl, hb1⟩
  have HW1 := Lib.hid (dcall hw hb1)
  have HP1 := Lib.hid (dblk hb1 b0)
  have HC1 := Lib.hid (dblk hb1 b1)
  have HR1 := Lib.hid (dblk hb1 b2)
  rw [hm]
  clear hb1 b0 b1 b2 hw hm
  obtain ⟨y0, e0⟩ := blk_cell (i := 0) (HP1.out)
  obtain ⟨y1, e1⟩ := blk_cell (i := 1) (HP1.out)
  obtain ⟨y2, e2⟩ := blk_cell (i := 2) (HP1.out)
  simp at y0 y1 y2
  obtain ⟨x0, f0⟩ := blk_cell (i := 0) (HR1.out)
  obtain ⟨x1, f1⟩ := blk_cell (i := 1) (HR1.out)
  obtain ⟨x2, f2⟩ := blk_cell (i := 2) (HR1.out)
  simp at x0 x1 x2
  obtain ⟨z0, z1, z2, z3, z4⟩ := five_cells HC1.out
  go_upto_region 6 with fail
  obtain ⟨w2, hw2⟩ : ∃ w2, w2 = ((w1.setCell ⟨w.heap.size, 0, none⟩ (.slice none 0 0)).setCell ⟨w.heap.size, 1, none⟩ (.slice none 0 0)).setCell ⟨w.heap.size, 2, none⟩ (.int .i64 0) := ⟨_, rfl⟩
  rw [← hw2]
  have HV2 : Hid (ObV (fun b => b < w.heap.size) w2 (.agg #[.slice none 0 0, .slice none 0 0, .int .i64 0]) ObD.none) := Lib.hid (obv_none _ _)
  have HP2 := Lib.hid (show w2.heap[w.heap.size]? = some (.cells #[.slice none 0 0, .slice none 0 0, .int .i64 0] 39 (0, 0)) from by rw [hw2]; exact set3_blk HP1.out)
  have HC2 := Lib.hid (dset3 hw2 (by simp) HC1.out)
  have HR2 := Lib.hid (dset3 hw2 (show w.heap.size + 2 ≠ w.heap.size by omega) HR1.out)
  have HW2 := Lib.hid (show Below w.heap.size w w2 from by rw [hw2]; exact below3 HW1.out (Nat.le_refl _) _ _ _)
  have hsz2 : w.heap.size + 2 < w2.heap.size := (Array.getElem?_eq_some_iff.1 HR2.out).1
  clear hw2 HP1 HC1 HR1 HW1 HOV HL x0 x1 x2 f0 f1 f2 y0 y1 y2 e0 e1 e2 z0 z1 z2 z3 z4
  have HL := Lib.hid (okl_of mayB_none)
  obtain ⟨y0, e0⟩ := blk_cell (i := 0) (HP2.out)
  obtain ⟨y1, e1⟩ := blk_cell (i := 1) (HP2.out)
  obtain ⟨y2, e2⟩ := blk_cell (i := 2) (HP2.out)
  simp at y0 y1 y2
  obtain ⟨x0, f0⟩ := blk_cell (i := 0) (HR2.out)
  obtain ⟨x1, f1⟩ := blk_cell (i := 1) (HR2.out)
  obtain ⟨x2, f2⟩ := blk_cell (i := 2) (HR2.out)
  simp at x0 x1 x2
  obtain ⟨z0, z1, z2, z3, z4⟩ := five_cells HC2.out
  have HLD : Hid ((ObD.none).data.length ≤ 1000) := Lib.hid (by first | omega | decide)
  have hcl := fun W h1 h2 => (fun (_ : RB (fun b => b < w.heap.size) W (.slice oa d.length oc) d) => rdata_cut (fun b => b < w.heap.size) (none) 0 ((ObD.none).data) off n nm oa d.length oc W h1 HLD.out) h2
  unfold opV at hcl
  cases hs : spotB 0 n with
  | false =>
    rw [hs] at hcl
    have HX := Lib.hid (doG_none (o := ObD.none) (th := false) (op := ⟨7, off, n, nm, d⟩) (by simp) (by simp [changeB, hs]))
    have HCL := Lib.hid hcl
    clear hcl hs
    go_wp2_with fail
    refine (HCL.out _ (obv_data HV2.out) (RB.ext HD.out HW2.out)).mono ?_
    rintro e w3 ⟨a3, n3, c3, rfl, h3, hn3, hb3⟩
    replace hn3 : n3 = 0 := hn3
    subst hn3
    have HP3 := Lib.hid (dblk hb3 HP2.out)
    have HC3 := Lib.hid (dblk hb3 HC2.out)
    have HR3 := Lib.hid (dblk hb3 HR2.out)
    have HW3 := Lib.hid (dcall HW2.out hb3)
    clear hb3 h3 x0 x1 x2 f0 f1 f2 y0 y1 y2 e0 e1 e2 z0 z1 z2 z3 z4
    obtain ⟨y0, e0⟩ := blk_cell (i := 0) (HP3.out)
    obtain ⟨y1, e1⟩ := blk_cell (i := 1) (HP3.out)
    obtain ⟨y2, e2⟩ := blk_cell (i := 2) (HP3.out)
    simp at y0 y1 y2
    go_upto_region 19 with fail
    obtain ⟨w4, hw4⟩ : ∃ w4, w4 = w3.setCell ⟨w.heap.size, 0, none⟩ (.slice a3 0 c3) := ⟨_, rfl⟩
    rw [← hw4]
    have HC4 := Lib.hid (dset1 hw4 (by simp) HC3.out)
    have HR4 := Lib.hid (dset1 hw4 (show w.heap.size + 2 ≠ w.heap.size by omega) HR3.out)
    have HW4 := Lib.hid (show Below w.heap.size w w4 from by rw [hw4]; exact HW3.out.setCell (show w.heap.size ≤ w.heap.size from Nat.le_refl _) _)
    obtain ⟨z0, z1, z2, z3, z4⟩ := five_cells HC4.out
    clear hw4 y0 y1 y2 e0 e1 e2
    obtain ⟨x0, f0⟩ := blk_cell (i := 0) (HR4.out)
    obtain ⟨x1, f1⟩ := blk_cell (i := 1) (HR4.out)
    obtain ⟨x2, f2⟩ := blk_cell (i := 2) (HR4.out)
    simp at x0 x1 x2
    go_wp2
    refine bodyPost_ret (results_cell3 rfl _ _ (w.heap.size + 2) 39 _ (0, 0) _ rfl (set3_blk HR4.out) Tryd.underlying39 rfl (by kernel_rfl)) rfl ?_
    exact DoRR.no HX.out (below3 HW4.out (by omega) _ _ _)
  | true =>
    rw [hs] at hcl
    obtain ⟨R, hR⟩ : ∃ R, R = (ObD.none).data.take n.toNat := ⟨_, rfl⟩
    have HX : Hid (doG (ObD.none) false ⟨7, off, n, nm, d⟩ = ⟨if false then { (ObD.none) with data := R } else ObD.none, false, true, 0⟩) := Lib.hid ((doG_some (o := ObD.none) (th := false) (op := ⟨7, off, n, nm, d⟩) (o2 := { (ObD.none) with data := R }) (by simp) (by rw [hR]; simp [changeB, hs])).trans (by simp [thereB]))
    rw [if_pos rfl, ← hR] at hcl
    have HCL := Lib.hid hcl
    clear hcl hs hR
    go_wp2_with fail
    refine (HCL.out _ (obv_data HV2.out) (RB.ext HD.out HW2.out)).mono ?_
    rintro e w3 ⟨a3, n3, c3, rfl, h3, hn3, hb3⟩
    replace hn3 : n3 = R.length := hn3
    subst hn3
    have H3 := Lib.hid (rb_off (show RB (UpA (fun b => b < w.heap.size) _) w3 (.slice a3 R.length c3) R from h3) hsz2)
    have HV3 := Lib.hid (off_low (HV2.out.ext hb3))
    have HP3 := Lib.hid (dblk hb3 HP2.out)
    have HC3 := Lib.hid (dblk hb3 HC2.out)
    have HR3 := Lib.hid (dblk hb3 HR2.out)
    have HW3 := Lib.hid (dcall HW2.out hb3)
    clear hb3 h3 x0 x1 x2 f0 f1 f2 y0 y1 y2 e0 e1 e2 z0 z1 z2 z3 z4
    obtain ⟨y0, e0⟩ := blk_cell (i := 0) (HP3.out)
    obtain ⟨y1, e1⟩ := blk_cell (i := 1) (HP3.out)
    obtain ⟨y2, e2⟩ := blk_cell (i := 2) (HP3.out)
    simp at y0 y1 y2
    go_upto_region 19 with fail
    obtain ⟨w4, hw4⟩ : ∃ w4, w4 = w3.setCell ⟨w.heap.size, 0, none⟩ (.slice a3 R.length c3) := ⟨_, rfl⟩
    rw [← hw4]
    have HP4 := Lib.hid (show w4.heap[w.heap.size]? = some (.cells #[.slice a3 R.length c3, .slice none 0 0, .int .i64 0] 39 (0, 0)) from by rw [hw4]; exact set_blk3 (j := 0) HP3.out)
    have HC4 := Lib.hid (dset1 hw4 (by simp) HC3.out)
    have HR4 := Lib.hid (dset1 hw4 (show w.heap.size + 2 ≠ w.heap.size by omega) HR3.out)
    have HW4 := Lib.hid (show Below w.heap.size w w4 from by rw [hw4]; exact HW3.out.setCell (show w.heap.size ≤ w.heap.size from Nat.le_refl _) _)
    have HV4 : Hid (ObV (Off w.heap.size) w4 (.agg #[.slice a3 R.length c3, .slice none 0 0, .int .i64 0]) ({ (ObD.none) with data := R })) := Lib.hid (by rw [hw4]; exact off_set (ob_data HV3.out H3.out) (.inl rfl))
    obtain ⟨z0, z1, z2, z3, z4⟩ := five_cells HC4.out
    clear hw4 y0 y1 y2 e0 e1 e2
    obtain ⟨y0, e0⟩ := blk_cell (i := 0) (HP4.out)
    obtain ⟨y1, e1⟩ := blk_cell (i := 1) (HP4.out)
    obtain ⟨y2, e2⟩ := blk_cell (i := 2) (HP4.out)
    simp at y0 y1 y2
    obtain ⟨x0, f0⟩ := blk_cell (i := 0) (HR4.out)
    obtain ⟨x1, f1⟩ := blk_cell (i := 1) (HR4.out)
    obtain ⟨x2, f2⟩ := blk_cell (i := 2) (HR4.out)
    simp at x0 x1 x2
    go_wp2
    refine bodyPost_ret (results_cell3 rfl _ _ (w.heap.size + 2) 39 _ (0, 0) _ rfl (set3_blk ((set3_ne _ _ _ _ _ (show w.heap.size + 2 ≠ w.heap.size by omega)).trans HR4.out)) Tryd.underlying39 rfl (by kernel_rfl)) rfl ?_
    exact DoRR.ok (o := ObD.none) HX.out (obv_none _ _) (below3 (below3 HW4.out (Nat.le_refl _) _ _ _) (by omega) _ _ _)
end Go.Proofs.YtfeonfihlleoeaaDoor
