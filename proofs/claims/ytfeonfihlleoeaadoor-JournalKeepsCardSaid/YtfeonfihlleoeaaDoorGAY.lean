/- terrazzoref08.put and drop: their second contracts. (printed by gen_kf.py) terrazzoref08.key: its second contract. (printed by gen_kf.py) -/
import Derived.Test.YtfeonfihlleoeaaDoorGAX
namespace Go.Proofs.YtfeonfihlleoeaaDoor
open Go.RowKit Go.WideShapes

set_option maxRecDepth 100000 in
set_option maxHeartbeats 8000000 in
theorem rput_kf (K0 : Nat) (A : Nat → Prop) (v : Value) (o : ObD) (nm : ByteArray) (xa : Option Addr) (xc : Nat) (x : List UInt8) (w : World) (hv : ObV A w v o) (hx : RB A w (.slice xa x.length xc) x) (hl : o.keys.length ≤ 100000) (hK0 : K0 ≤ w.heap.size) :
    Calls Tryd.prog 83 #[v, .string nm, .slice xa x.length xc] w (ObRF K0 A { o with keys := putK o.keys nm x } w) := by
  obtain ⟨dv, kv, rfl, hd, hk⟩ := hv
  obtain ⟨da, dc, rfl⟩ := hd.shape
  obtain ⟨ka, kc, rfl⟩ := hk.shape
  obtain ⟨od, ks, os⟩ := o
  simp only at *
  obtain ⟨i0, hi, hz0, hz1, hz2⟩ := info_parts infoKey
  have HK := Lib.hid hk
  have HD := Lib.hid hd
  have HX := Lib.hid hx
  have HEND : Hid (putK ks nm x = if (putTo nm x ks ks.length).2 then (putTo nm x ks ks.length).1 else (putTo nm x ks ks.length).1 ++ [⟨nm, x⟩]) := Lib.hid putTo_end
  generalize putK ks nm x = KS at *
  clear hd hk hx
  go_enter Tryd.func83, Tryd.ntmps83
  go_wp2
  obtain ⟨w0, hw0⟩ : ∃ w0, w0 = (w.alloc (.cells #[.slice da od.length dc, .slice ka ks.length kc, .int .i64 os] 39)).alloc (.cells #[.slice none 0 0, .slice none 0 0, .int .i64 0] 39) := ⟨_, rfl⟩
  rw [← hw0]
  have b0 : w0.heap[w.heap.size]? = some (.cells #[.slice da od.length dc, .slice ka ks.length kc, .int .i64 os] 39 (0, 0)) := by rw [hw0]; exact dnew (heap_alloc_new _ _) _
  have b1 : w0.heap[w.heap.size + 1]? = some (.cells #[.slice none 0 0, .slice none 0 0, .int .i64 0] 39 (0, 0)) := by rw [hw0]; exact heap_alloc2_new _ _ _
  have hw : Below w.heap.size w w0 := by rw [hw0]; ((repeat' (first | exact Below.refl _ _ | refine below_drewN ?_ _ | refine Below.drew ?_ | refine Below.alloc ?_ ?_ _ | refine Below.trans ?_ (Below.mono (by assumption) ?_))); all_goals (first | exact Nat.le_refl _ | exact Below.size (by assumption) | omega | (simp; done) | (simp; omega)))
  have HK0 : Hid (SlE Enc.key (fun b => A b ∧ b < w.heap.size) w0 _ ks) := Lib.hid ((SlE.cut HK.out).ext hw)
  have HD0 : Hid (RB (fun b => A b ∧ b < w.heap.size) w0 _ od) := Lib.hid (RB.ext (SlA.cut HD.out) hw)
  have HX0 : Hid (RB (fun b => A b ∧ b < w.heap.size) w0 _ x) := Lib.hid (RB.ext (SlA.cut HX.out) hw)
  have HW := Lib.hid hw
  have HB0 := Lib.hid b0
  have HB1 := Lib.hid b1
  clear hw0 hw b0 b1 HK HD HX
  go_loopw [7, 8, 9] (fun q7 q8 q9 wr => ∃ k : Nat, k ≤ ks.length ∧ q9 = .int .i64 k ∧ q8 = .bool (putTo nm x ks k).2 ∧ EnRow Enc.key 51 (fun b => A b ∧ b < w.heap.size) w0.heap.size wr q7 (putTo nm x ks k).1 ∧ Below w0.heap.size w0 wr) (fun _ _ q9 _ => ks.length - (intOf q9).toNat)
  case atStart => exact ⟨0, Nat.zero_le _, rfl, rfl, EnRow.nil _ _ _ _ _, Below.refl _ _⟩
  case round =>
    obtain ⟨k, hk, rfl, rfl, hrow, hbr⟩ := hrel
    have HR := Lib.hid hrow
    have HBR := Lib.hid hbr
    have HLN := Lib.hid (putTo_len nm x ks k hk)
    have HY0 := Lib.hid (dblk hbr HB0.out)
    have HY1 := Lib.hid (dblk hbr HB1.out)
    clear hrow hbr
    obtain ⟨y0, e0⟩ := blk_cell (i := 0) (HY0.out)
    obtain ⟨y1, e1⟩ := blk_cell (i := 1) (HY0.out)
    obtain ⟨y2, e2⟩ := blk_cell (i := 2) (HY0.out)
    simp at y0 y1 y2
    by_cases hlt : k < ks.length
    · obtain ⟨b, off, u, rfl, hb, hbA, c3, c4, hu⟩ := Keys.at (HK0.out.ext HBR.out) hlt
      obtain ⟨ua, uc, rfl⟩ := hu.shape
      have HST := Lib.hid (putTo_succ (nm := nm) (v := x) hlt)
      have HU := Lib.hid hu
      have HXW := Lib.hid (HX0.out.mono (Same.of_below HBR.out fun _ h => Nat.lt_of_lt_of_le h.2 HW.out.size))
      generalize putTo nm x ks k = s at *
      generalize hky : ks[k] = ky at *
      obtain ⟨out, dn⟩ := s
      (try simp only at *)
      clear hky hu
      have hln := HLN.out
      (try simp only at hln)
      have HLE : Hid (out.length ≤ 1000000) := Lib.hid (by omega)
      have HLL : Hid (out.length ≤ 300000) := Lib.hid (by omega)
      clear hln HLN
      cases h1 : Op.bytesLess ky.name.toList nm.toList with
      | true =>
        have q1 : (ky.name.toList == nm.toList) = false := by
          rw [eqL]
          refine decide_eq_false fun e => ?_
          rw [e, bl_irrefl] at h1
          cases h1
        rw [putStep_lt h1] at HST
        go_wp2_with (first | (at_builtin; refine wpList_push wr rfl _ _ 37 rfl Enc.key (fun b => A b ∧ b < w.heap.size) w0.heap.size 51 i0 _ 40 Tryd.underlying37 hi hz0 hz1 hz2 rfl (by decide) (by decide) _ _ (by rfl) (HR.out) ([.string ky.name, .slice ua ky.value.length uc]) _ (ky) (by rfl) (rd_key HU.out) (HLE.out) (HBR.out).size (fun _ h => Nat.lt_of_lt_of_le h.2 HW.out.size) ?_) | go_in)
        intro v2 w2 hrow2 hb2
        have HR2 := Lib.hid hrow2
        have HBR2 := Lib.hid (HBR.out.trans hb2)
        clear hrow2 hb2
        go_wp2
        go_roundw
        case rel => exact ⟨k + 1, by omega, by go_num, by rw [HST.out], by rw [HST.out]; simpa using HR2.out, HBR2.out⟩
        case measure => simp [intOf]; omega
      | false =>
        by_cases hn : ky.name = nm
        · have q1 : (ky.name.toList == nm.toList) = true := by rw [eqL]; exact decide_eq_true hn
          cases dn with
          | true =>
            rw [putStep_de hn] at HST
            have HR2 := Lib.hid HR.out
            have HBR2 := Lib.hid HBR.out
            clear hn
            go_wp2
            go_roundw
            case rel => exact ⟨k + 1, by omega, by go_num, by rw [HST.out], by rw [HST.out]; simpa using HR2.out, HBR2.out⟩
            case measure => simp [intOf]; omega
          | false =>
            rw [putStep_eq hn] at HST
            clear hn
            go_wp2_with (first | (at_builtin; refine wpList_push wr rfl _ _ 37 rfl Enc.key (fun b => A b ∧ b < w.heap.size) w0.heap.size 51 i0 _ 40 Tryd.underlying37 hi hz0 hz1 hz2 rfl (by decide) (by decide) _ _ (by rfl) (HR.out) ([.string nm, .slice xa x.length xc]) _ ((⟨nm, x⟩ : KyD)) (by rfl) (rd_key (k := ⟨nm, x⟩) HXW.out) (HLE.out) (HBR.out).size (fun _ h => Nat.lt_of_lt_of_le h.2 HW.out.size) ?_) | go_in)
            intro v2 w2 hrow2 hb2
            have HR2 := Lib.hid hrow2
            have HBR2 := Lib.hid (HBR.out.trans hb2)
            have HY2 := Lib.hid (blk_keep hb2 (Array.getElem?_eq_some_iff.1 HB0.out).1 HY0.out)
            have c3' := cellB hb2 (Nat.lt_of_lt_of_le hbA.2 HW.out.size) c3
            have c4' := cellB hb2 (Nat.lt_of_lt_of_le hbA.2 HW.out.size) c4
            clear hrow2 hb2 c3 c4 y0 y1 y2 e0 e1 e2
            obtain ⟨y0, e0⟩ := blk_cell (i := 0) (HY2.out)
            obtain ⟨y1, e1⟩ := blk_cell (i := 1) (HY2.out)
            obtain ⟨y2, e2⟩ := blk_cell (i := 2) (HY2.out)
            simp at y0 y1 y2
            go_wp2
            go_roundw
            case rel => exact ⟨k + 1, by omega, by go_num, by rw [HST.out], by rw [HST.out]; simpa using HR2.out, HBR2.out⟩
            case measure => simp [intOf]; omega
        · have q1 : (ky.name.toList == nm.toList) = false := by rw [eqL]; exact decide_eq_false hn
          cases dn with
          | true =>
            rw [putStep_dn hn] at HST
            clear hn
            go_wp2_with (first | (at_builtin; refine wpList_push wr rfl _ _ 37 rfl Enc.key (fun b => A b ∧ b < w.heap.size) w0.heap.size 51 i0 _ 40 Tryd.underlying37 hi hz0 hz1 hz2 rfl (by decide) (by decide) _ _ (by rfl) (HR.out) ([.string ky.name, .slice ua ky.value.length uc]) _ (ky) (by rfl) (rd_key HU.out) (HLE.out) (HBR.out).size (fun _ h => Nat.lt_of_lt_of_le h.2 HW.out.size) ?_) | go_in)
            intro v2 w2 hrow2 hb2
            have HR2 := Lib.hid hrow2
            have HBR2 := Lib.hid (HBR.out.trans hb2)
            clear hrow2 hb2
            go_wp2
            go_roundw
            case rel => exact ⟨k + 1, by omega, by go_num, by rw [HST.out], by rw [HST.out]; simpa using HR2.out, HBR2.out⟩
            case measure => simp [intOf]; omega
          | false =>
            rw [putStep_ge h1 hn] at HST
            clear hn
            go_wp2_with (first | (at_builtin; refine wpList_push wr rfl _ _ 37 rfl Enc.key (fun b => A b ∧ b < w.heap.size) w0.heap.size 51 i0 _ 40 Tryd.underlying37 hi hz0 hz1 hz2 rfl (by decide) (by decide) _ _ (by rfl) (HR.out) ([.string nm, .slice xa x.length xc]) _ ((⟨nm, x⟩ : KyD)) (by rfl) (rd_key (k := ⟨nm, x⟩) HXW.out) (HLE.out) (HBR.out).size (fun _ h => Nat.lt_of_lt_of_le h.2 HW.out.size) ?_) | go_in)
            intro v2 w2 hrow2 hb2
            have HR1 := Lib.hid hrow2
            have HBR1 := Lib.hid (HBR.out.trans hb2)
            have HY2 := Lib.hid (blk_keep hb2 (Array.getElem?_eq_some_iff.1 HB0.out).1 HY0.out)
            have HU1 := Lib.hid (HU.out.mono (Same.of_below hb2 fun _ h => Nat.lt_of_lt_of_le h.2 HW.out.size))
            have HLE1 : Hid ((out ++ [(⟨nm, x⟩ : KyD)]).length ≤ 1000000) := Lib.hid (by have := HLL.out; simp; omega)
            have c3' := cellB hb2 (Nat.lt_of_lt_of_le hbA.2 HW.out.size) c3
            have c4' := cellB hb2 (Nat.lt_of_lt_of_le hbA.2 HW.out.size) c4
            clear hrow2 hb2 c3 c4 y0 y1 y2 e0 e1 e2
            obtain ⟨y0, e0⟩ := blk_cell (i := 0) (HY2.out)
            obtain ⟨y1, e1⟩ := blk_cell (i := 1) (HY2.out)
            obtain ⟨y2, e2⟩ := blk_cell (i := 2) (HY2.out)
            simp at y0 y1 y2
            go_wp2_with (first | (at_builtin; refine wpList_push w2 rfl _ _ 37 rfl Enc.key (fun b => A b ∧ b < w.heap.size) w0.heap.size 51 i0 _ 40 Tryd.underlying37 hi hz0 hz1 hz2 rfl (by decide) (by decide) _ _ (by rfl) (HR1.out) ([.string ky.name, .slice ua ky.value.length uc]) _ (ky) (by rfl) (rd_key HU1.out) (HLE1.out) (HBR1.out).size (fun _ h => Nat.lt_of_lt_of_le h.2 HW.out.size) ?_) | go_in)
            intro v3 w3 hrow2 hb2
            have HR2 := Lib.hid hrow2
            have HBR2 := Lib.hid (HBR1.out.trans hb2)
            clear hrow2 hb2
            go_wp2
            go_roundw
            case rel => exact ⟨k + 1, by omega, by go_num, by rw [HST.out], by rw [HST.out]; simpa using HR2.out, HBR2.out⟩
            case measure => simp [intOf]; omega
    · obtain rfl : k = ks.length := by omega
      generalize putTo nm x ks ks.length = s at *
      obtain ⟨out, dn⟩ := s
      (try simp only at *)
      have hln := HLN.out
      (try simp only at hln)
      have HLE : Hid (out.length ≤ 1000000) := Lib.hid (by omega)
      clear hln HLN
      cases dn with
      | true =>
        have HR2 := Lib.hid HR.out
        have HBR2 := Lib.hid HBR.out
        obtain ⟨ra, rc, hre⟩ := HR.out.shape
        subst hre
        have HE2 : Hid (KS = out) := HEND.out
        clear HR HBR HY0 HY1 y0 y1 y2 e0 e1 e2
        have hsz0 : w.heap.size + 1 < w0.heap.size := (Array.getElem?_eq_some_iff.1 HB1.out).1
        have HZ0 := Lib.hid (blk_keep HBR2.out (by omega) HB0.out)
        have HZ1 := Lib.hid (blk_keep HBR2.out (by omega) HB1.out)
        have HD2 := Lib.hid (HD0.out.mono (Same.of_ext HBR2.out))
        have HW2 := Lib.hid (dcall HW.out HBR2.out)
        obtain ⟨y0, e0⟩ := blk_cell (i := 0) (HZ0.out)
        obtain ⟨y1, e1⟩ := blk_cell (i := 1) (HZ0.out)
        obtain ⟨y2, e2⟩ := blk_cell (i := 2) (HZ0.out)
        simp at y0 y1 y2
        obtain ⟨x0, f0⟩ := blk_cell (i := 0) (HZ1.out)
        obtain ⟨x1, f1⟩ := blk_cell (i := 1) (HZ1.out)
        obtain ⟨x2, f2⟩ := blk_cell (i := 2) (HZ1.out)
        simp at x0 x1 x2
        go_wp2
        refine bodyPost_ret (results_cell_row rfl _ _ (w.heap.size + 1) 39 _ (0, 0) _ rfl (set3_blk ((Below.heap_setCell _ _ _ _ (by simp)).trans HZ1.out)) Tryd.underlying39 rfl (by kernel_rfl)) rfl ?_
        show ObRF _ _ _ _ _ _
        rw [HE2.out]
        exact ⟨_, _, rfl, ob_put rfl (lo := w0.heap.size) (p := w.heap.size) (r := w.heap.size + 1) HD2.out HR2.out (by omega) (by omega) (by omega), below3 (HW2.out.setCell (show w.heap.size ≤ w.heap.size from Nat.le_refl _) _) (by omega) _ _ _, ((((HR2.out.kf (Nat.le_trans hK0 HW.out.size)).set _ _).set _ _).set _ _).set _ _⟩
      | false =>
        have HXW := Lib.hid (HX0.out.mono (Same.of_below HBR.out fun _ h => Nat.lt_of_lt_of_le h.2 HW.out.size))
        go_wp2_with (first | (at_builtin; refine wpList_push wr rfl _ _ 37 rfl Enc.key (fun b => A b ∧ b < w.heap.size) w0.heap.size 51 i0 _ 40 Tryd.underlying37 hi hz0 hz1 hz2 rfl (by decide) (by decide) _ _ (by rfl) (HR.out) ([.string nm, .slice xa x.length xc]) _ ((⟨nm, x⟩ : KyD)) (by rfl) (rd_key (k := ⟨nm, x⟩) HXW.out) (HLE.out) (HBR.out).size (fun _ h => Nat.lt_of_lt_of_le h.2 HW.out.size) ?_) | go_in)
        intro v2 w2 hrow2 hb2
        obtain ⟨ra, rc, hre⟩ := hrow2.shape
        rw [List.length_append, List.length_singleton] at hre
        subst hre
        have HR2 := Lib.hid hrow2
        have HBR2 := Lib.hid (HBR.out.trans hb2)
        have HE2 : Hid (KS = out ++ [⟨nm, x⟩]) := HEND.out
        clear hrow2 hb2 HR HBR HY0 HY1 HXW y0 y1 y2 e0 e1 e2
        have hsz0 : w.heap.size + 1 < w0.heap.size := (Array.getElem?_eq_some_iff.1 HB1.out).1
        have HZ0 := Lib.hid (blk_keep HBR2.out (by omega) HB0.out)
        have HZ1 := Lib.hid (blk_keep HBR2.out (by omega) HB1.out)
        have HD2 := Lib.hid (HD0.out.mono (Same.of_ext HBR2.out))
        have HW2 := Lib.hid (dcall HW.out HBR2.out)
        obtain ⟨y0, e0⟩ := blk_cell (i := 0) (HZ0.out)
        obtain ⟨y1, e1⟩ := blk_cell (i := 1) (HZ0.out)
        obtain ⟨y2, e2⟩ := blk_cell (i := 2) (HZ0.out)
        simp at y0 y1 y2
        obtain ⟨x0, f0⟩ := blk_cell (i := 0) (HZ1.out)
        obtain ⟨x1, f1⟩ := blk_cell (i := 1) (HZ1.out)
        obtain ⟨x2, f2⟩ := blk_cell (i := 2) (HZ1.out)
        simp at x0 x1 x2
        go_wp2
        refine bodyPost_ret (results_cell_row rfl _ _ (w.heap.size + 1) 39 _ (0, 0) _ rfl (set3_blk ((Below.heap_setCell _ _ _ _ (by simp)).trans HZ1.out)) Tryd.underlying39 rfl (by kernel_rfl)) rfl ?_
        show ObRF _ _ _ _ _ _
        rw [HE2.out]
        exact ⟨_, _, rfl, ob_put rfl (lo := w0.heap.size) (p := w.heap.size) (r := w.heap.size + 1) HD2.out HR2.out (by omega) (by omega) (by omega), below3 (HW2.out.setCell (show w.heap.size ≤ w.heap.size from Nat.le_refl _) _) (by omega) _ _ _, ((((HR2.out.kf (Nat.le_trans hK0 HW.out.size)).set _ _).set _ _).set _ _).set _ _⟩
set_option maxRecDepth 100000 in
set_option maxHeartbeats 8000000 in
theorem rdrop_kf (K0 : Nat) (A : Nat → Prop) (v : Value) (o : ObD) (nm : ByteArray) (w : World) (hv : ObV A w v o) (hl : o.keys.length ≤ 100000) (hK0 : K0 ≤ w.heap.size) :
    Calls Tryd.prog 62 #[v, .string nm] w (ObRF K0 A { o with keys := dropK o.keys nm } w) := by
  obtain ⟨dv, kv, rfl, hd, hk⟩ := hv
  obtain ⟨da, dc, rfl⟩ := hd.shape
  obtain ⟨ka, kc, rfl⟩ := hk.shape
  obtain ⟨od, ks, os⟩ := o
  simp only at *
  obtain ⟨i0, hi, hz0, hz1, hz2⟩ := info_parts infoKey
  have HK := Lib.hid hk
  have HD := Lib.hid hd
  have HEND : Hid (dropK ks nm = dropTo nm ks ks.length) := Lib.hid (dropTo_end nm ks).symm
  generalize dropK ks nm = KS at *
  clear hd hk
  go_enter Tryd.func62, Tryd.ntmps62
  go_wp2
  obtain ⟨w0, hw0⟩ : ∃ w0, w0 = (w.alloc (.cells #[.slice da od.length dc, .slice ka ks.length kc, .int .i64 os] 39)).alloc (.cells #[.slice none 0 0, .slice none 0 0, .int .i64 0] 39) := ⟨_, rfl⟩
  rw [← hw0]
  have b0 : w0.heap[w.heap.size]? = some (.cells #[.slice da od.length dc, .slice ka ks.length kc, .int .i64 os] 39 (0, 0)) := by rw [hw0]; exact dnew (heap_alloc_new _ _) _
  have b1 : w0.heap[w.heap.size + 1]? = some (.cells #[.slice none 0 0, .slice none 0 0, .int .i64 0] 39 (0, 0)) := by rw [hw0]; exact heap_alloc2_new _ _ _
  have hw : Below w.heap.size w w0 := by rw [hw0]; ((repeat' (first | exact Below.refl _ _ | refine below_drewN ?_ _ | refine Below.drew ?_ | refine Below.alloc ?_ ?_ _ | refine Below.trans ?_ (Below.mono (by assumption) ?_))); all_goals (first | exact Nat.le_refl _ | exact Below.size (by assumption) | omega | (simp; done) | (simp; omega)))
  have HK0 : Hid (SlE Enc.key (fun b => A b ∧ b < w.heap.size) w0 _ ks) := Lib.hid ((SlE.cut HK.out).ext hw)
  have HD0 : Hid (RB (fun b => A b ∧ b < w.heap.size) w0 _ od) := Lib.hid (RB.ext (SlA.cut HD.out) hw)
  have HW := Lib.hid hw
  have HB0 := Lib.hid b0
  have HB1 := Lib.hid b1
  clear hw0 hw b0 b1 HK HD
  go_loopw [5, 6] (fun q7 q9 wr => ∃ k : Nat, k ≤ ks.length ∧ q9 = .int .i64 k ∧ EnRow Enc.key 51 (fun b => A b ∧ b < w.heap.size) w0.heap.size wr q7 (dropTo nm ks k) ∧ Below w0.heap.size w0 wr) (fun _ q9 _ => ks.length - (intOf q9).toNat)
  case atStart => exact ⟨0, Nat.zero_le _, rfl, EnRow.nil _ _ _ _ _, Below.refl _ _⟩
  case round =>
    obtain ⟨k, hk, rfl, hrow, hbr⟩ := hrel
    have HR := Lib.hid hrow
    have HBR := Lib.hid hbr
    have HY0 := Lib.hid (dblk hbr HB0.out)
    have HY1 := Lib.hid (dblk hbr HB1.out)
    clear hrow hbr
    obtain ⟨y0, e0⟩ := blk_cell (i := 0) (HY0.out)
    obtain ⟨y1, e1⟩ := blk_cell (i := 1) (HY0.out)
    obtain ⟨y2, e2⟩ := blk_cell (i := 2) (HY0.out)
    simp at y0 y1 y2
    by_cases hlt : k < ks.length
    · obtain ⟨b, off, u, rfl, hb, hbA, c3, c4, hu⟩ := Keys.at (HK0.out.ext HBR.out) hlt
      obtain ⟨ua, uc, rfl⟩ := hu.shape
      have HST := Lib.hid (dropTo_succ (nm := nm) hlt)
      have HU := Lib.hid hu
      have HLE : Hid ((dropTo nm ks k).length ≤ 1000000) := Lib.hid (by have := List.length_filter_le (fun k : KyD => !decide (k.name = nm)) (ks.take k); simp only [List.length_take] at this; unfold dropTo; omega)
      generalize hky : ks[k] = ky at *
      clear hky hu
      by_cases hn : ky.name = nm
      · have q1 : (ky.name.toList == nm.toList) = true := by rw [eqL]; exact decide_eq_true hn
        have HR2 := Lib.hid HR.out
        have HBR2 := Lib.hid HBR.out
        rw [if_pos (decide_eq_true hn)] at HST
        clear hn
        go_wp2
        go_roundw
        case rel => exact ⟨k + 1, by omega, by go_num, by rw [HST.out]; simpa using HR2.out, HBR2.out⟩
        case measure => simp [intOf]; omega
      · have q1 : (ky.name.toList == nm.toList) = false := by rw [eqL]; exact decide_eq_false hn
        rw [if_neg (by simpa using hn)] at HST
        clear hn
        go_wp2_with (first | (at_builtin; refine wpList_push wr rfl _ _ 37 rfl Enc.key (fun b => A b ∧ b < w.heap.size) w0.heap.size 51 i0 _ 40 Tryd.underlying37 hi hz0 hz1 hz2 rfl (by decide) (by decide) _ _ (by rfl) (HR.out) ([.string ky.name, .slice ua ky.value.length uc]) _ (ky) (by rfl) (rd_key HU.out) (HLE.out) (HBR.out).size (fun _ h => Nat.lt_of_lt_of_le h.2 HW.out.size) ?_) | go_in)
        intro v2 w2 hrow2 hb2
        have HR2 := Lib.hid hrow2
        have HBR2 := Lib.hid (HBR.out.trans hb2)
        clear hrow2 hb2
        go_wp2
        go_roundw
        case rel => exact ⟨k + 1, by omega, by go_num, by rw [HST.out]; simpa using HR2.out, HBR2.out⟩
        case measure => simp [intOf]; omega
    · obtain rfl : k = ks.length := by omega
      generalize dropTo nm ks ks.length = out at *
      have HR2 := Lib.hid HR.out
      have HBR2 := Lib.hid HBR.out
      obtain ⟨ra, rc, hre⟩ := HR.out.shape
      subst hre
      have HE2 : Hid (KS = out) := HEND.out
      clear HR HBR HY0 HY1 y0 y1 y2 e0 e1 e2
      have hsz0 : w.heap.size + 1 < w0.heap.size := (Array.getElem?_eq_some_iff.1 HB1.out).1
      have HZ0 := Lib.hid (blk_keep HBR2.out (by omega) HB0.out)
      have HZ1 := Lib.hid (blk_keep HBR2.out (by omega) HB1.out)
      have HD2 := Lib.hid (HD0.out.mono (Same.of_ext HBR2.out))
      have HW2 := Lib.hid (dcall HW.out HBR2.out)
      obtain ⟨y0, e0⟩ := blk_cell (i := 0) (HZ0.out)
      obtain ⟨y1, e1⟩ := blk_cell (i := 1) (HZ0.out)
      obtain ⟨y2, e2⟩ := blk_cell (i := 2) (HZ0.out)
      simp at y0 y1 y2
      obtain ⟨x0, f0⟩ := blk_cell (i := 0) (HZ1.out)
      obtain ⟨x1, f1⟩ := blk_cell (i := 1) (HZ1.out)
      obtain ⟨x2, f2⟩ := blk_cell (i := 2) (HZ1.out)
      simp at x0 x1 x2
      go_wp2
      refine bodyPost_ret (results_cell_row rfl _ _ (w.heap.size + 1) 39 _ (0, 0) _ rfl (set3_blk ((Below.heap_setCell _ _ _ _ (by simp)).trans HZ1.out)) Tryd.underlying39 rfl (by kernel_rfl)) rfl ?_
      show ObRF _ _ _ _ _ _
      rw [HE2.out]
      exact ⟨_, _, rfl, ob_put rfl (lo := w0.heap.size) (p := w.heap.size) (r := w.heap.size + 1) HD2.out HR2.out (by omega) (by omega) (by omega), below3 (HW2.out.setCell (show w.heap.size ≤ w.heap.size from Nat.le_refl _) _) (by omega) _ _ _, ((((HR2.out.kf (Nat.le_trans hK0 HW.out.size)).set _ _).set _ _).set _ _).set _ _⟩
end Go.Proofs.YtfeonfihlleoeaaDoor
namespace Go.Proofs.YtfeonfihlleoeaaDoor
open Go.RowKit Go.WideShapes

set_option maxRecDepth 100000 in
set_option maxHeartbeats 8000000 in
theorem rkey_kf (K0 : Nat) (A : Nat → Prop) (v : Value) (o : ObD) (off n : Int) (nm : ByteArray) (oa : Option Addr) (oc : Nat) (d : List UInt8) (w : World) (hv : ObV A w v o) (ho : o.okl) (hd : RB A w (.slice oa d.length oc) d) (hl : d.length ≤ 50000) (hK0 : K0 ≤ w.heap.size) :
    Calls Tryd.prog 63 #[v, opV 9 off n nm oa d.length oc] w (RKeyF K0 A o (keyOp o nm d) w) := by
  obtain ⟨dv, kv, rfl, hdd, hkk⟩ := hv
  obtain ⟨da, dc, rfl⟩ := hdd.shape
  obtain ⟨ka, kc, rfl⟩ := hkk.shape
  have HOV : Hid (ObV A w _ o) := Lib.hid ⟨_, _, rfl, hdd, hkk⟩
  have HD := Lib.hid hd
  have hkl := ho.keys
  unfold opV
  clear hdd hkk hd ho
  have HKO : Hid (keyOp o nm d = if nameB nm && decide (d.length ≤ 2048) && (hasK o.keys nm || decide (o.keys.length < 120)) then some { o with keys := putK o.keys nm d } else none) := rfl
  generalize keyOp o nm d = KO at *
  go_enter Tryd.func63, Tryd.ntmps63
  go_wp2_with fail
  obtain ⟨w0, hw0⟩ : ∃ w0, w0 = ((w.alloc (.cells #[.slice da o.data.length dc, .slice ka o.keys.length kc, .int .i64 o.seq] 39)).alloc (.cells #[.int .i64 9, .int .i64 off, .int .i64 n, .string nm, .slice oa d.length oc] 48)).alloc (.cells #[.slice none 0 0, .slice none 0 0, .int .i64 0] 39) := ⟨_, rfl⟩
  rw [← hw0]
  have b0 : w0.heap[w.heap.size]? = some (.cells #[.slice da o.data.length dc, .slice ka o.keys.length kc, .int .i64 o.seq] 39 (0, 0)) := by rw [hw0]; exact dnew (dnew (heap_alloc_new _ _) _) _
  have b1 : w0.heap[w.heap.size + 1]? = some (.cells #[.int .i64 9, .int .i64 off, .int .i64 n, .string nm, .slice oa d.length oc] 48 (0, 0)) := by rw [hw0]; exact dnew (heap_alloc2_new _ _ _) _
  have b2 : w0.heap[w.heap.size + 2]? = some (.cells #[.slice none 0 0, .slice none 0 0, .int .i64 0] 39 (0, 0)) := by rw [hw0]; have h := fun (W : World) o' => heap_alloc_new W o'; have := h ((w.alloc (.cells #[.slice da o.data.length dc, .slice ka o.keys.length kc, .int .i64 o.seq] 39)).alloc (.cells #[.int .i64 9, .int .i64 off, .int .i64 n, .string nm, .slice oa d.length oc] 48)) (.cells #[.slice none 0 0, .slice none 0 0, .int .i64 0] 39); simpa using this
  have hw : Below w.heap.size w w0 := by rw [hw0]; ((repeat' (first | exact Below.refl _ _ | refine below_drewN ?_ _ | refine Below.drew ?_ | refine Below.alloc ?_ ?_ _ | refine Below.trans ?_ (Below.mono (by assumption) ?_))); all_goals (first | exact Nat.le_refl _ | exact Below.size (by assumption) | omega | (simp; done) | (simp; omega)))
  clear hw0
  refine (rget_any A _ o nm _ (HOV.out.ext hw) (by omega)).mono ?_
  rintro e w1 ⟨a1, n1, c1, rfl, -, -, hb1⟩
  rw [getD_has]
  have HP1 := Lib.hid (dblk hb1 b0)
  have HC1 := Lib.hid (dblk hb1 b1)
  have HR1 := Lib.hid (dblk hb1 b2)
  have HW1 := Lib.hid (dcall hw hb1)
  generalize hasK o.keys nm = HS at *
  clear hb1 b0 b1 b2 hw
  obtain ⟨y0, e0⟩ := blk_cell (i := 0) (HP1.out)
  obtain ⟨y1, e1⟩ := blk_cell (i := 1) (HP1.out)
  obtain ⟨y2, e2⟩ := blk_cell (i := 2) (HP1.out)
  simp at y0 y1 y2
  obtain ⟨x0, f0⟩ := blk_cell (i := 0) (HR1.out)
  obtain ⟨x1, f1⟩ := blk_cell (i := 1) (HR1.out)
  obtain ⟨x2, f2⟩ := blk_cell (i := 2) (HR1.out)
  simp at x0 x1 x2
  obtain ⟨z0, z1, z2, z3, z4⟩ := five_cells HC1.out
  go_wp2_with fail
  refine (rname_any _ _).mono ?_
  rintro e w' ⟨rfl, rfl⟩
  cases hn : nameB nm with
  | false =>
    have HX : Hid (KO = none) := by show KO = none; rw [HKO.out, hn]; rfl
    clear hn
    go_wp2
    refine bodyPost_ret (results_cell2 rfl _ _ (w.heap.size + 2) 39 _ (0, 0) _ rfl (set3_blk HR1.out) Tryd.underlying39 rfl (by kernel_rfl)) rfl ?_
    exact RKeyF.no HX.out ((HOV.out.ext (below3 HW1.out (by omega) _ _ _)).weak fun _ _ h => .inl h) (below3 HW1.out (by omega) _ _ _)
  | true =>
    rw [hn] at HKO
    clear hn
    by_cases hv : 2048 < (d).length
    · have HX : Hid (KO = none) := by show KO = none; rw [HKO.out, if_neg]; simp; omega
      have hvd : decide ((2048 : Int) < (d).length) = true := decide_eq_true (by omega)
      clear hv
      go_wp2
      refine bodyPost_ret (results_cell2 rfl _ _ (w.heap.size + 2) 39 _ (0, 0) _ rfl (set3_blk HR1.out) Tryd.underlying39 rfl (by kernel_rfl)) rfl ?_
      exact RKeyF.no HX.out ((HOV.out.ext (below3 HW1.out (by omega) _ _ _)).weak fun _ _ h => .inl h) (below3 HW1.out (by omega) _ _ _)
    · have hvd : decide ((2048 : Int) < (d).length) = false := decide_eq_false (by omega)
      have hv' : decide ((d).length ≤ 2048) = true := decide_eq_true (by omega)
      rw [hv'] at HKO
      clear hv hv'
      by_cases hk : 120 ≤ o.keys.length
      · have hkd : decide ((120 : Int) ≤ o.keys.length) = true := decide_eq_true (by omega)
        have hk' : decide (o.keys.length < 120) = false := decide_eq_false (by omega)
        rw [hk'] at HKO
        clear hk hk'
        cases HS with
        | true =>
          have HX : Hid (KO = some { o with keys := putK o.keys nm (d) }) := HKO.out
          obtain ⟨O', hO'⟩ : ∃ O', O' = ({ o with keys := putK o.keys nm (d) } : ObD) := ⟨_, rfl⟩
          have hput := fun W h1 h2 (h3 : K0 ≤ W.heap.size) => rput_kf K0 (fun b => A b ∧ b < w.heap.size) (.agg #[.slice da o.data.length dc, .slice ka o.keys.length kc, .int .i64 o.seq]) o nm (oa) (oc) (d) W h1 h2 (by omega) h3
          rw [← hO'] at HX hput
          have HPUT := Lib.hid hput
          clear hO' hput
          go_wp2_with fail
          refine (HPUT.out _ (HOV.out.cut.ext HW1.out) (RB.ext (SlA.cut HD.out) HW1.out) (Nat.le_trans hK0 HW1.out.size)).mono ?_
          rintro e w2 ⟨dv2, kv2, rfl, hv2, hb2, hkf2⟩
          obtain ⟨⟨a2, c2, rfl⟩, ⟨u2, q2, rfl⟩⟩ := obv_shape hv2
          have HR2 := Lib.hid (dblk hb2 HR1.out)
          have HW2 := Lib.hid (dcall HW1.out hb2)
          have HV2 := Lib.hid hv2
          have HKF2 := Lib.hid hkf2
          have hsz1 : w.heap.size + 2 < w1.heap.size := (Array.getElem?_eq_some_iff.1 HR1.out).1
          clear hb2 hv2 hkf2 x0 x1 x2 f0 f1 f2 y0 y1 y2 e0 e1 e2 z0 z1 z2 z3 z4
          obtain ⟨x0, f0⟩ := blk_cell (i := 0) (HR2.out)
          obtain ⟨x1, f1⟩ := blk_cell (i := 1) (HR2.out)
          obtain ⟨x2, f2⟩ := blk_cell (i := 2) (HR2.out)
          simp at x0 x1 x2
          go_wp2
          refine bodyPost_ret (results_cell2 rfl _ _ (w.heap.size + 2) 39 _ (0, 0) _ rfl (set3_blk HR2.out) Tryd.underlying39 rfl (by kernel_rfl)) rfl ?_
          exact RKeyF.ok HX.out (ob_keep HV2.out (by omega) (by omega) _ _ _) (below3 HW2.out (by omega) _ _ _) (((HKF2.out.set _ _).set _ _).set _ _)
        | false =>
          have HX : Hid (KO = none) := HKO.out
          go_wp2
          refine bodyPost_ret (results_cell2 rfl _ _ (w.heap.size + 2) 39 _ (0, 0) _ rfl (set3_blk HR1.out) Tryd.underlying39 rfl (by kernel_rfl)) rfl ?_
          exact RKeyF.no HX.out ((HOV.out.ext (below3 HW1.out (by omega) _ _ _)).weak fun _ _ h => .inl h) (below3 HW1.out (by omega) _ _ _)
      · have hkd : decide ((120 : Int) ≤ o.keys.length) = false := decide_eq_false (by omega)
        have hk' : decide (o.keys.length < 120) = true := decide_eq_true (by omega)
        rw [hk'] at HKO
        have HX : Hid (KO = some { o with keys := putK o.keys nm (d) }) := by show KO = _; rw [HKO.out]; simp
        clear hk hk'
        obtain ⟨O', hO'⟩ : ∃ O', O' = ({ o with keys := putK o.keys nm (d) } : ObD) := ⟨_, rfl⟩
        have hput := fun W h1 h2 (h3 : K0 ≤ W.heap.size) => rput_kf K0 (fun b => A b ∧ b < w.heap.size) (.agg #[.slice da o.data.length dc, .slice ka o.keys.length kc, .int .i64 o.seq]) o nm (oa) (oc) (d) W h1 h2 (by omega) h3
        rw [← hO'] at HX hput
        have HPUT := Lib.hid hput
        clear hO' hput
        go_wp2_with fail
        refine (HPUT.out _ (HOV.out.cut.ext HW1.out) (RB.ext (SlA.cut HD.out) HW1.out) (Nat.le_trans hK0 HW1.out.size)).mono ?_
        rintro e w2 ⟨dv2, kv2, rfl, hv2, hb2, hkf2⟩
        obtain ⟨⟨a2, c2, rfl⟩, ⟨u2, q2, rfl⟩⟩ := obv_shape hv2
        have HR2 := Lib.hid (dblk hb2 HR1.out)
        have HW2 := Lib.hid (dcall HW1.out hb2)
        have HV2 := Lib.hid hv2
        have HKF2 := Lib.hid hkf2
        have hsz1 : w.heap.size + 2 < w1.heap.size := (Array.getElem?_eq_some_iff.1 HR1.out).1
        clear hb2 hv2 hkf2 x0 x1 x2 f0 f1 f2 y0 y1 y2 e0 e1 e2 z0 z1 z2 z3 z4
        obtain ⟨x0, f0⟩ := blk_cell (i := 0) (HR2.out)
        obtain ⟨x1, f1⟩ := blk_cell (i := 1) (HR2.out)
        obtain ⟨x2, f2⟩ := blk_cell (i := 2) (HR2.out)
        simp at x0 x1 x2
        go_wp2
        refine bodyPost_ret (results_cell2 rfl _ _ (w.heap.size + 2) 39 _ (0, 0) _ rfl (set3_blk HR2.out) Tryd.underlying39 rfl (by kernel_rfl)) rfl ?_
        exact RKeyF.ok HX.out (ob_keep HV2.out (by omega) (by omega) _ _ _) (below3 HW2.out (by omega) _ _ _) (((HKF2.out.set _ _).set _ _).set _ _)
end Go.Proofs.YtfeonfihlleoeaaDoor
