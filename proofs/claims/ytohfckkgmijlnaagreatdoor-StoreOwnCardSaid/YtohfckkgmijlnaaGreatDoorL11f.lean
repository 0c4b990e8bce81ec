/- The walk of terrazzolaw11.StoreOwn. -/
import Derived.Test.YtohfckkgmijlnaaGreatDoorGp11
import Derived.Test.YtohfckkgmijlnaaGreatDoorRfd11
import Derived.Test.YtohfckkgmijlnaaGreatDoorXr9
import Derived.StillTailTactics
namespace Go.Proofs.YtohfckkgmijlnaaGreatDoor
open Go.RowKit Go.Maps Go.WideShapes
attribute [local go_sem ↓] Go.wp_at_zero Go.wp_at_succ

theorem own8_keys {base : Nat} {w : World} {a c u q} {o : ObD} (h : Own8 base w (.slice a o.data.length c) (.slice u o.keys.length q) o) (h0 : 0 < o.keys.length) :
    ∃ g cs, u = some ⟨g, 0, Option.none⟩ ∧ base ≤ g ∧ w.heap[g]? = some (.cells cs 62 (0, 0)) ∧ o.keys.length ≤ q ∧ o.keys.length * 2 ≤ cs.size := by
  obtain ⟨cs, ho, hc⟩ := h.ex
  rcases ho.2 with ⟨e, h1⟩ | ⟨g, cap, cur, e, hbg, hg, hnc, hcm, hcs, ht⟩
  · omega
  · simp only [Value.slice.injEq] at e
    obtain ⟨rfl, -, rfl⟩ := e
    exact ⟨g, cur, rfl, hbg, hg, hnc, by omega⟩
/-- a cell of a known block is written: the block's size stays -/
theorem blk_set {w : World} {g j : Nat} {cs : Array Value} {t : TypeId} {n : Nat} (h : w.heap[g]? = some (.cells cs t (0, 0))) (hn : n ≤ cs.size) (v : Value) : ∃ cs', (w.setCell ⟨g, j, none⟩ v).heap[g]? = some (.cells cs' t (0, 0)) ∧ n ≤ cs'.size :=
  ⟨cs.setIfInBounds j v, by simp [World.setCell, Array.getElem?_modify, h], by simpa using hn⟩
theorem blk_ex {w : World} {g j : Nat} {cs : Array Value} {t : TypeId} (h : w.heap[g]? = some (.cells cs t (0, 0))) (hj : j < cs.size) : ∃ u, w.cell? ⟨g, j, none⟩ = some u ∧ w.frozen? ⟨g, j, none⟩ = false := by
  obtain ⟨a, b⟩ := blk_cell (i := j) h
  exact ⟨cs[j], by rw [a]; exact Array.getElem?_eq_getElem hj, b⟩
set_option maxRecDepth 100000 in
set_option maxHeartbeats 16000000 in
theorem own11_law (t : TxD) (va : Value) (z : Int) (w : World) (hE : ErrT w) (hl : SlE Enc.op (fun b => b < w.heap.size) w va t.ops) :
    Calls Tryz.prog 7 #[.agg #[.string t.obj, va], .int .u8 z] w (Says true w) := by
  obtain ⟨oa, oc, rfl⟩ := hl.shape
  have HL := Lib.hid hl
  have HE := Lib.hid hE
  clear hl hE
  go_enter Tryz.func7, Tryz.ntmps7
  go_wp2_with fail
  obtain ⟨w0, hw0⟩ : ∃ w0, w0 = w.alloc (.cells #[.string t.obj, .slice oa t.ops.length oc] 33) := ⟨_, rfl⟩
  rw [← hw0]
  have b0 : w0.heap[w.heap.size]? = some (.cells #[.string t.obj, .slice oa t.ops.length oc] 33 (0, 0)) := by rw [hw0]; exact heap_alloc_new _ _
  have hw : Below w.heap.size w w0 := by rw [hw0]; ((repeat' (first | exact Below.refl _ _ | refine below_drewN ?_ _ | refine Below.drew ?_ | refine Below.alloc ?_ ?_ _ | refine Below.trans ?_ (Below.mono (by assumption) ?_))); all_goals (first | exact Nat.le_refl _ | exact Below.size (by assumption) | omega | (simp; done) | (simp; omega)))
  clear hw0
  refine (awake11_any _ (HE.out.ext hw)).mono ?_
  rintro e w1 ⟨rfl, hb1⟩
  have HW1 := Lib.hid (dcall hw hb1)
  have P1 := Lib.hid (dblk hb1 b0)
  clear hb1 b0 hw
  obtain ⟨x0, -⟩ := blk_cell (i := 0) P1.out
  obtain ⟨x1, -⟩ := blk_cell (i := 1) P1.out
  simp at x0 x1
  go_wp2_with fail
  refine (few11_any _ t _ w1 (HL.out.ext HW1.out)).mono ?_
  rintro e w2 ⟨y, rfl, hy, hb2⟩
  have HY := Lib.hid hy
  have HW2 := Lib.hid (dcall HW1.out hb2)
  have P2 := Lib.hid (dblk hb2 P1.out)
  clear hy hb2 P1 HW1 x0 x1
  obtain ⟨x0, -⟩ := blk_cell (i := 0) P2.out
  obtain ⟨x1, -⟩ := blk_cell (i := 1) P2.out
  simp at x0 x1
  cases y with
  | false =>
    go_wp2
    go_ret
    exact ⟨rfl, HW2.out⟩
  | true =>
    have HFW := Lib.hid (HY.out rfl)
    clear HY
    go_wp2_with fail
    refine (sget_nil _ _).mono ?_
    rintro e w3 ⟨dv3, kv3, rfl, ho3, hb3⟩
    obtain ⟨⟨a3, c3, rfl⟩, ⟨u3, q3, rfl⟩⟩ := own8_shape ho3
    have hv3 := ho3.obv
    have P3 := Lib.hid (dblk hb3 P2.out)
    have HW3 := Lib.hid (dcall HW2.out hb3)
    simp only [ObD.none, List.length_nil] at hv3 ⊢
    clear ho3 hb3 P2 HW2 x0 x1
    go_upto_region 9 with fail
    obtain ⟨w4, hw4⟩ : ∃ w4, w4 = w3.alloc (.cells #[.slice a3 0 c3, .slice u3 0 q3, .int .i64 0] 41) := ⟨_, rfl⟩
    rw [← hw4]
    have hb4 : Below w3.heap.size w3 w4 := by rw [hw4]; exact (Below.refl _ w3).alloc (Nat.le_refl _) _
    have R4 : w4.heap[w3.heap.size]? = some (.cells #[.slice a3 0 c3, .slice u3 0 q3, .int .i64 0] 41 (0, 0)) := by rw [hw4]; exact heap_alloc_new _ _
    have HV4 := Lib.hid (hv3.ext hb4)
    have P4 := Lib.hid (dblk hb4 P3.out)
    have HW4 := Lib.hid (dcall HW3.out hb4)
    have HR4 := Lib.hid R4
    clear hw4 hb4 R4 hv3 P3 HW3
    obtain ⟨x0, -⟩ := blk_cell (i := 0) P4.out
    obtain ⟨x1, -⟩ := blk_cell (i := 1) P4.out
    simp at x0 x1
    go_wp2_with fail
    refine (sdo_nil _ _ _ ⟨_, _, _, rfl⟩).mono ?_
    rintro e w5 ⟨rfl, hb5⟩
    have HR5 := Lib.hid (dblk hb5 HR4.out)
    have HV5 := Lib.hid (HV4.out.ext hb5)
    have P5 := Lib.hid (dblk hb5 P4.out)
    have HW5 := Lib.hid (dcall HW4.out hb5)
    clear hb5 HR4 HV4 P4 HW4 x0 x1
    obtain ⟨y0, e0⟩ := blk_cell (i := 0) (HR5.out)
    obtain ⟨y1, e1⟩ := blk_cell (i := 1) (HR5.out)
    obtain ⟨y2, e2⟩ := blk_cell (i := 2) (HR5.out)
    simp at y0 y1 y2
    have hsm := rsame_any _ _ ⟨[], [], 0⟩ ⟨[], [], 0⟩ _ (.agg #[.slice none 0 0, .slice none 0 0, .int .i64 0]) w5 HV5.out (obv_none (fun _ => True) w5) (by simp) (by simp)
    rw [(sameB_iff _ _).2 rfl] at hsm
    have HSM := Lib.hid hsm
    clear hsm
    go_wp2_with fail
    refine HSM.out.mono ?_
    rintro e w6 ⟨rfl, hb6⟩
    have P6 := Lib.hid (dblk hb6 P5.out)
    have HW6 := Lib.hid (dcall HW5.out hb6)
    clear hb6 P5 HW5 HR5 HV5 HSM y0 y1 y2 e0 e1 e2
    go_wp2_with fail
    refine (slen_nil _).mono ?_
    rintro e w' ⟨rfl, rfl⟩
    go_wp2_with fail
    refine (snames_nil _ _).mono ?_
    rintro e w7 ⟨v7, rfl, hv7, hb7⟩
    obtain ⟨a7, c7, rfl⟩ := hv7.shape
    have P7 := Lib.hid (dblk hb7 P6.out)
    have HW7 := Lib.hid (dcall HW6.out hb7)
    simp only [List.length_nil]
    clear hb7 hv7 P6 HW6
    go_wp2_with fail
    refine (StAt.newC w w7 HW7.out 10).mono ?_
    rintro e w8 ⟨p, b, rfl, hS8, hb8⟩
    have HS8 : Hid (StAt w w8 p b ⟨10, []⟩) := Lib.hid hS8
    have P8 := Lib.hid (dblk hb8 P7.out)
    clear hS8 hb8 P7 HW7
    obtain ⟨x0, -⟩ := blk_cell (i := 0) P8.out
    obtain ⟨x1, -⟩ := blk_cell (i := 1) P8.out
    simp at x0 x1
    go_wp2_with fail
    refine (HS8.out.doC HE.out (t := t) (HL.out.ext HS8.out.bel) HFW.out.dat HFW.out.ob).mono ?_
    rintro e w9 ⟨rfl, hS9, hf9⟩
    have P9 := Lib.hid (HS8.out.blk hf9 P8.out)
    have hst := st_first (r := 10) (by decide) t
    obtain ⟨s9, hs9⟩ : ∃ s9, s9 = (stDo ⟨10, []⟩ t).1 := ⟨_, rfl⟩
    rw [← hs9] at hS9 hst
    rw [hst.1]
    have HS9 := Lib.hid hS9
    have HST := Lib.hid hst.2
    clear hS9 hf9 P8 HS8 x0 x1 hst hs9
    obtain ⟨x0, -⟩ := blk_cell (i := 0) P9.out
    obtain ⟨x1, -⟩ := blk_cell (i := 1) P9.out
    simp at x0 x1
    have hrt := rtdo_st (fun _ => True) (fun b => b < w.heap.size) (.agg #[.slice none 0 0, .slice none 0 0, .int .i64 0]) (.slice oa t.ops.length oc) ObD.none false t w9 (obv_none _ _) (by simp [ObD.none]) (HL.out.ext HS9.out.bel) HFW.out.dat
    generalize txDo ObD.none false t = X at *
    obtain ⟨xo, xt, xe⟩ := X
    simp only at HST hrt ⊢
    have HRT := Lib.hid hrt
    clear hrt
    go_wp2_with fail
    refine HRT.out.mono ?_
    rintro e w10 ⟨da, dc, ka, kc, rfl, hd10, hk10, hb10⟩
    have HV10 : Hid (ObV (fun _ => True) w10 (.agg #[.slice da xo.data.length dc, .slice ka xo.keys.length kc, .int .i64 xo.seq]) xo) := Lib.hid ⟨_, _, rfl, hd10, hk10⟩
    have HS10 := Lib.hid (HS9.out.ext hb10)
    have P10 := Lib.hid (dblk hb10 P9.out)
    clear hd10 hk10 hb10 P9 HS9 HRT x0 x1
    go_upto_region 14 with fail
    obtain ⟨pw, hpw⟩ : ∃ pw, pw = w10.heap.size := ⟨_, rfl⟩
    obtain ⟨w11, hw11⟩ : ∃ w11, w11 = w10.alloc (.cells #[.slice da xo.data.length dc, .slice ka xo.keys.length kc, .int .i64 xo.seq] 41) := ⟨_, rfl⟩
    rw [← hw11, ← hpw]
    have hb11 : Below w10.heap.size w10 w11 := by rw [hw11]; exact (Below.refl _ w10).alloc (Nat.le_refl _) _
    have HQ11 := Lib.hid (show w11.heap[pw]? = some (.cells #[.slice da xo.data.length dc, .slice ka xo.keys.length kc, .int .i64 xo.seq] 41 (0, 0)) from by rw [hw11, hpw]; exact heap_alloc_new _ _)
    have HV11 := Lib.hid (HV10.out.ext hb11)
    have HS11 := Lib.hid (HS10.out.ext hb11)
    have P11 := Lib.hid (dblk hb11 P10.out)
    clear hw11 hb11 HV10 HS10 P10 hpw
    obtain ⟨x0, -⟩ := blk_cell (i := 0) P11.out
    simp at x0
    go_wp2_with fail
    refine (HS11.out.getC t.obj HFW.out.ob).mono ?_
    rintro e w12 ⟨a12, c12, u12, q12, rfl, ho12, hb12, hS12⟩
    rw [HST.out.1] at ho12 ⊢
    rw [HST.out.2]
    have HO12 := Lib.hid ho12
    have HB12 := Lib.hid hb12
    clear ho12 hb12 hS12 x0
    go_upto_region 15 with fail
    obtain ⟨px, hpx⟩ : ∃ px, px = w12.heap.size := ⟨_, rfl⟩
    obtain ⟨w13, hw13⟩ : ∃ w13, w13 = w12.alloc (.cells #[.slice a12 xo.data.length c12, .slice u12 xo.keys.length q12, .int .i64 xo.seq] 41) := ⟨_, rfl⟩
    rw [← hw13, ← hpx]
    have hb13 : Below w12.heap.size w12 w13 := by rw [hw13]; exact (Below.refl _ w12).alloc (Nat.le_refl _) _
    have Z13 := Lib.hid (show w13.heap[px]? = some (.cells #[.slice a12 xo.data.length c12, .slice u12 xo.keys.length q12, .int .i64 xo.seq] 41 (0, 0)) from by rw [hw13, hpx]; exact heap_alloc_new _ _)
    have HB13 : Hid (Below w11.heap.size w11 w13) := Lib.hid (dcall HB12.out hb13)
    have HO13 : Hid (Own8 w11.heap.size w13 (.slice a12 xo.data.length c12) (.slice u12 xo.keys.length q12) xo) := Lib.hid (HO12.out.keep (Same.of_ext hb13))
    have hpw11 : w11.heap.size ≤ px := by rw [hpx]; exact HB12.out.size
    have hokx := okl_of (show mayB xo = true from by have := HS11.out.ok.obj t.obj; rw [HST.out.1] at this; exact this)
    have hdl : xo.data.length ≤ 1000000 := hokx.data
    have hkl : xo.keys.length ≤ 10000 := hokx.keys
    clear hw13 hb13 hpx HB12 HO12 hokx
    go_wp2
    go_loopw [17] (fun q wx => ∃ k : Nat, k ≤ xo.data.length ∧ q = .int .i64 k ∧ XR w11.heap.size w13 wx) (fun q _ => xo.data.length - (intOf q).toNat)
    case atStart => exact ⟨0, Nat.zero_le _, rfl, XR.refl _ _⟩
    case round =>
      obtain ⟨k, hk, rfl, hX⟩ := hrel
      have HX := Lib.hid hX
      have ZX := Lib.hid (hX.box Z13.out (by decide))
      clear hX
      obtain ⟨y0, e0⟩ := blk_cell (i := 0) (ZX.out)
      obtain ⟨y1, e1⟩ := blk_cell (i := 1) (ZX.out)
      obtain ⟨y2, e2⟩ := blk_cell (i := 2) (ZX.out)
      simp at y0 y1 y2
      by_cases hlt : k < xo.data.length
      · obtain ⟨hcap, g, off, rfl, hg, hIs⟩ := HO13.out.data.isB (by omega)
        obtain ⟨z', z0, z1, z2⟩ := (HX.out.byt _ _ _ hIs).cell hlt
        have HIS := Lib.hid hIs
        have hk5 : (0 : Int) ≤ k := by omega
        have hkl5 : (k : Int) < xo.data.length := by omega
        clear hIs
        go_upto_region 18 with fail
        go_still_tail 12, (by kernel_rfl)
        change wpList _ _ _ _ _ wr.drew
        go_wp2
        go_roundw
        case rel => exact ⟨k + 1, by omega, by go_num, HX.out.drew.set hg HIS.out _ _⟩
        case measure => simp [intOf]; omega
      · obtain rfl : k = xo.data.length := by omega
        obtain ⟨wd, rfl⟩ : ∃ wd, wd = wr := ⟨_, rfl⟩
        have HBD : Hid (Below w11.heap.size w11 wd) := Lib.hid (HB13.out.trans HX.out.bl)
        go_wp2
        go_loopw [18] (fun q wx => ∃ k : Nat, k ≤ xo.keys.length ∧ q = .int .i64 k ∧ Below w11.heap.size w11 wx ∧ wx.heap[px]? = some (.cells #[.slice a12 xo.data.length c12, .slice u12 xo.keys.length q12, .int .i64 xo.seq] 41 (0, 0)) ∧ (∀ g, u12 = some ⟨g, 0, none⟩ → 0 < xo.keys.length → ∃ cs, wx.heap[g]? = some (.cells cs 62 (0, 0)) ∧ xo.keys.length * 2 ≤ cs.size)) (fun q _ => xo.keys.length - (intOf q).toNat)
        case atStart =>
          refine ⟨0, Nat.zero_le _, rfl, HBD.out, ZX.out, fun g hg h0 => ?_⟩
          obtain ⟨g', cs, e', -, h1, -, h2⟩ := own8_keys HO13.out h0
          rw [hg] at e'
          simp only [Option.some.injEq, Addr.mk.injEq] at e'
          obtain ⟨rfl, -, -⟩ := e'
          exact ⟨cs, HX.out.box h1 (by decide), h2⟩
        case round =>
          obtain ⟨k, hk, rfl, hbr, hz, hu⟩ := hrel
          have HBR := Lib.hid hbr
          have ZR := Lib.hid hz
          have HU := Lib.hid hu
          clear hbr hz hu y0 y1 y2 e0 e1 e2
          obtain ⟨y0, e0⟩ := blk_cell (i := 0) (ZR.out)
          obtain ⟨y1, e1⟩ := blk_cell (i := 1) (ZR.out)
          obtain ⟨y2, e2⟩ := blk_cell (i := 2) (ZR.out)
          simp at y0 y1 y2
          by_cases hlt : k < xo.keys.length
          · obtain ⟨g, cs0, rfl, hg, -, hq, -⟩ := own8_keys HO13.out (by omega)
            obtain ⟨cs, hcs, hsz⟩ := HU.out g rfl (by omega)
            obtain ⟨u0, z0, z1⟩ := blk_ex (j := k * 2) hcs (by omega)
            have hk5 : (0 : Int) ≤ k := by omega
            have hkl5 : (k : Int) < xo.keys.length := by omega
            have hgx : g ≠ px := fun e => by
              subst e
              have h := ZR.out
              rw [hcs] at h
              simp only [Option.some.injEq, Obj.cells.injEq] at h
              exact absurd h.2.1 (by decide)
            have HCS := Lib.hid hcs
            clear hcs
            go_wp2
            go_roundw
            case rel =>
              refine ⟨k + 1, by omega, by go_num, HBR.out.setCell (show w11.heap.size ≤ (⟨g, _, none⟩ : Addr).block from hg) _, (Below.heap_setCell _ _ _ _ (show px ≠ g from fun e => hgx e.symm)).trans ZR.out, fun g' hg' h0 => ?_⟩
              simp only [Option.some.injEq, Addr.mk.injEq] at hg'
              obtain ⟨rfl, -, -⟩ := hg'
              exact blk_set HCS.out hsz _
            case measure => simp [intOf]; omega
          · obtain rfl : k = xo.keys.length := by omega
            have HSr := Lib.hid (HS11.out.ext HBR.out)
            have PR := Lib.hid (dblk HBR.out P11.out)
            have QR := Lib.hid (dblk HBR.out HQ11.out)
            have HVR := Lib.hid (HV11.out.ext HBR.out)
            clear HU ZR HX ZX
            obtain ⟨x0, -⟩ := blk_cell (i := 0) PR.out
            simp at x0
            go_wp2_with fail
            refine (HSr.out.getC t.obj HFW.out.ob).mono ?_
            rintro e w14 ⟨a14, c14, u14, q14, rfl, ho14, hb14, hS14⟩
            rw [HST.out.1] at ho14 ⊢
            rw [HST.out.2]
            have hv14 := ho14.obv
            have Q14 := Lib.hid (dblk hb14 QR.out)
            have HVW14 := Lib.hid (HVR.out.ext hb14)
            have HW14 := Lib.hid hS14.bel
            clear ho14 hS14 hb14 x0 PR QR HVR HSr y0 y1 y2 e0 e1 e2
            go_upto_region 24 with fail
            obtain ⟨w15, hw15⟩ : ∃ w15, w15 = w14.alloc (.cells #[.slice a14 xo.data.length c14, .slice u14 xo.keys.length q14, .int .i64 xo.seq] 41) := ⟨_, rfl⟩
            rw [← hw15]
            have hb15 : Below w14.heap.size w14 w15 := by rw [hw15]; exact (Below.refl _ w14).alloc (Nat.le_refl _) _
            have R15 : w15.heap[w14.heap.size]? = some (.cells #[.slice a14 xo.data.length c14, .slice u14 xo.keys.length q14, .int .i64 xo.seq] 41 (0, 0)) := by rw [hw15]; exact heap_alloc_new _ _
            have Q15 := dblk hb15 Q14.out
            have HW15 := Lib.hid (dcall HW14.out hb15)
            have hsm := rsame_any _ _ xo xo _ _ w15 (hv14.ext hb15) (HVW14.out.ext hb15) (by omega) (by omega)
            rw [sameB_self] at hsm
            have HSM := Lib.hid hsm
            clear hsm hw15 hb15 Q14 HVW14 HW14 hv14
            obtain ⟨y0, e0⟩ := blk_cell (i := 0) (R15)
            obtain ⟨y1, e1⟩ := blk_cell (i := 1) (R15)
            obtain ⟨y2, e2⟩ := blk_cell (i := 2) (R15)
            simp at y0 y1 y2
            obtain ⟨t0, g0⟩ := blk_cell (i := 0) (Q15)
            obtain ⟨t1, g1⟩ := blk_cell (i := 1) (Q15)
            obtain ⟨t2, g2⟩ := blk_cell (i := 2) (Q15)
            simp at t0 t1 t2
            have k1 : (xe == xe) = true := by simp
            clear R15 Q15 HST
            have hs : (xt = false) ∨ (xt = true ∧ xe = 0) ∨ (xt = true ∧ xe ≠ 0) := by
              cases xt with
              | false => exact .inl rfl
              | true => exact .inr (by by_cases h : xe = 0 <;> simp [h])
            rcases hs with rfl | ⟨rfl, rfl⟩ | ⟨rfl, hne⟩
            · rw [Bool.false_and]
              go_wp2_with fail
              refine HSM.out.mono ?_
              rintro e w16 ⟨rfl, hb16⟩
              go_wp2
              go_ret
              exact ⟨rfl, dcall HW15.out hb16⟩
            · rw [show (true && decide ((0 : Int) = 0)) = true from rfl]
              go_wp2_with fail
              refine HSM.out.mono ?_
              rintro e w16 ⟨rfl, hb16⟩
              go_wp2
              go_ret
              exact ⟨rfl, dcall HW15.out hb16⟩
            · have k2 : (xe == 0) = false := by simpa using hne
              rw [show (true && decide (xe = 0)) = false from by simp [hne]]
              clear hne
              go_wp2_with fail
              refine HSM.out.mono ?_
              rintro e w16 ⟨rfl, hb16⟩
              go_wp2
              go_ret
              exact ⟨rfl, dcall HW15.out hb16⟩
end Go.Proofs.YtohfckkgmijlnaaGreatDoor
