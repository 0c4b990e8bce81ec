/- The walk of terrazzolaw08.ObjectReads. -/
import Derived.Test.YtfefnfgppgohgaaDoorRdw8
import Derived.Test.YtfefnfgppgohgaaDoorL8c
import Derived.Deep.RegionHeldLaw
namespace Go.Proofs.YtfefnfgppgohgaaDoor
open Go.RowKit Go.WideShapes

set_option maxRecDepth 100000 in
set_option maxHeartbeats 16000000 in
theorem reads_law (A B : Nat → Prop) (v : Value) (o : ObD) (off : Int) (oa : Option Addr) (oc : Nat) (d : List UInt8) (w : World) (hE : ErrT w) (hv : ObV A w v o) (hd : RB B w (.slice oa d.length oc) d) :
    Calls Tryd.prog 5 #[v, .int .i64 off, .slice oa d.length oc] w (Says true w) := by
  obtain ⟨dva, kva, rfl, hda, hka⟩ := hv
  obtain ⟨da, dc, rfl⟩ := hda.shape
  obtain ⟨ka, kc, rfl⟩ := hka.shape
  have HA : Hid (ObV A w _ o) := Lib.hid ⟨_, _, rfl, hda, hka⟩
  have HD := Lib.hid hd
  have HE := Lib.hid hE
  clear hda hka hE hd
  go_enter Tryd.func5, Tryd.ntmps5
  go_wp2_with fail
  obtain ⟨w0, hw0⟩ : ∃ w0, w0 = w.alloc (.cells #[.slice da o.data.length dc, .slice ka o.keys.length kc, .int .i64 o.seq] 25) := ⟨_, rfl⟩
  rw [← hw0]
  have b0 : w0.heap[w.heap.size]? = some (.cells #[.slice da o.data.length dc, .slice ka o.keys.length kc, .int .i64 o.seq] 25 (0, 0)) := by rw [hw0]; exact heap_alloc_new _ _
  have hw : Below w.heap.size w w0 := by rw [hw0]; ((repeat' (first | exact Below.refl _ _ | refine below_drewN ?_ _ | refine Below.drew ?_ | refine Below.alloc ?_ ?_ _ | refine Below.trans ?_ (Below.mono (by assumption) ?_))); all_goals (first | exact Nat.le_refl _ | exact Below.size (by assumption) | omega | (simp; done) | (simp; omega)))
  clear hw0
  refine (awake_any _ (HE.out.ext hw)).mono ?_
  rintro e w1 ⟨rfl, hb1⟩
  have HW1 := Lib.hid (dcall hw hb1)
  have P1 := Lib.hid (dblk hb1 b0)
  clear hb1 b0 hw
  obtain ⟨y0, e0⟩ := blk_cell (i := 0) (P1.out)
  obtain ⟨y1, e1⟩ := blk_cell (i := 1) (P1.out)
  obtain ⟨y2, e2⟩ := blk_cell (i := 2) (P1.out)
  simp at y0 y1 y2
  go_wp2_with fail
  refine (few8_any _ _ o _ (HA.out.ext HW1.out)).mono ?_
  rintro e w2 ⟨p1, rfl, hf1, hb2⟩
  have HF1 := Lib.hid hf1
  have HW2 := Lib.hid (dcall HW1.out hb2)
  have P2 := Lib.hid (dblk hb2 P1.out)
  clear hb2 P1 HW1 hf1 y0 y1 y2 e0 e1 e2
  obtain ⟨y0, e0⟩ := blk_cell (i := 0) (P2.out)
  obtain ⟨y1, e1⟩ := blk_cell (i := 1) (P2.out)
  obtain ⟨y2, e2⟩ := blk_cell (i := 2) (P2.out)
  simp at y0 y1 y2
  rcases p1 with _ | _
  · go_wp2
    go_ret
    exact ⟨rfl, HW2.out⟩
  have HOK := Lib.hid (few8_okl (HF1.out rfl))
  have hkl := (HF1.out rfl).2.1
  clear HF1
  by_cases hl1 : (100 : Int) < d.length
  · go_wp2
    go_ret
    exact ⟨rfl, HW2.out⟩
  go_wp2_with fail
  refine (check_any _ _ o _ (HA.out.ext HW2.out) (by omega)).mono ?_
  unfold ChkR
  rintro e w3 ⟨rfl, hb3⟩
  have HW3 := Lib.hid (dcall HW2.out hb3)
  have P3 := Lib.hid (dblk hb3 P2.out)
  clear hb3 P2 HW2 y0 y1 y2 e0 e1 e2
  obtain ⟨y0, e0⟩ := blk_cell (i := 0) (P3.out)
  obtain ⟨y1, e1⟩ := blk_cell (i := 1) (P3.out)
  obtain ⟨y2, e2⟩ := blk_cell (i := 2) (P3.out)
  simp at y0 y1 y2
  cases hm : mayB o with
  | false =>
    clear hm
    go_wp2
    go_ret
    exact ⟨rfl, HW3.out⟩
  | true =>
    have HM := Lib.hid hm
    clear hm
    go_wp2_with fail
    have hdo := do_any _ _ _ o true 5 off 0 ByteArray.empty oa oc d w3 (HA.out.ext HW3.out) HOK.out (RB.ext HD.out HW3.out) (by omega) (HE.out.ext HW3.out)
    unfold opV at hdo
    refine hdo.mono ?_
    clear hdo
    intro e w4 h4
    cases hs : spotB off d.length with
    | false =>
      have hz : doB o true ⟨5, off, 0, ByteArray.empty, d⟩ = ⟨⟨[], [], 0⟩, false, false, 2⟩ := do_write_no HM.out hs
      rw [hz] at h4
      obtain ⟨a4, c4, u4, q4, rfl, hv4, hb4⟩ := h4.ways
      have HW4 := Lib.hid (dcall HW3.out hb4)
      clear h4 hv4 hb4 y0 y1 y2 e0 e1 e2 hz
      by_cases c1 : off < 0
      · go_wp2
        go_ret
        exact ⟨rfl, below_nw HW4.out _⟩
      by_cases c2 : 64 < off
      · go_wp2
        go_ret
        exact ⟨rfl, below_nw HW4.out _⟩
      have c3 : 64 < off + (d.length : Int) := by
        unfold spotB at hs
        simp at hs
        omega
      clear hs
      have hwr : IntKind.i64.wrap (off + (d.length : Int)) = off + (d.length : Int) := by rw [IntKind.wrap_i64]; omega
      go_wp2
      go_ret
      exact ⟨rfl, below_nw HW4.out _⟩
    | true =>
      rw [do_write HM.out hs] at h4
      have hsp := hs
      simp only [spotB, Bool.and_eq_true, decide_eq_true_eq] at hsp
      obtain ⟨k, rfl⟩ := Int.eq_ofNat_of_zero_le hsp.1.1.1.1
      have hkm : k + d.length ≤ 64 := by omega
      have HM1 := Lib.hid (write_may HM.out hkm)
      simp only [Int.toNat_natCast] at h4
      have HR1 := Lib.hid (show readD { o with data := writeD o.data k d } (k : Int) (d.length : Int) = d by rw [readD_spot hkm]; exact pad_write_in _ _ _)
      have HR2 := Lib.hid (show readD { o with data := writeD o.data k d } 0 (k : Int) = readD o 0 (k : Int) by
        rw [show (0 : Int) = ((0 : Nat) : Int) from rfl, readD_spot (by omega), readD_spot (by omega)]; exact pad_write_lo _ _ _)
      have HR3 := Lib.hid (show readD { o with data := writeD o.data k d } ((k : Int) + d.length) (64 - ((k : Int) + d.length)) = readD o ((k : Int) + d.length) (64 - ((k : Int) + d.length)) by
        obtain ⟨m, hmm⟩ : ∃ m : Nat, (64 - ((k : Int) + d.length)) = (m : Int) := ⟨64 - (k + d.length), by omega⟩
        rw [hmm, show (k : Int) + d.length = ((k + d.length : Nat) : Int) by omega, readD_spot (by omega), readD_spot (by omega)]; exact pad_write_hi _ _ _ _)
      have HZ := Lib.hid (show doB { o with data := writeD o.data k d } true ⟨6, (k : Int), (d.length : Int), ByteArray.empty, []⟩ = ⟨{ o with data := zeroD (writeD o.data k d) k d.length }, true, true, 0⟩ from do_zero HM1.out (by unfold spotB; simp; omega))
      have HR4 := Lib.hid (show readD { o with data := zeroD (writeD o.data k d) k d.length } (k : Int) (d.length : Int) = List.replicate d.length 0 by rw [readD_spot hkm]; exact pad_zero_in _ _ _)
      have HR5 := Lib.hid (show readD { o with data := zeroD (writeD o.data k d) k d.length } ((k : Int) + d.length) (64 - ((k : Int) + d.length)) = readD o ((k : Int) + d.length) (64 - ((k : Int) + d.length)) by
        obtain ⟨m, hmm⟩ : ∃ m : Nat, (64 - ((k : Int) + d.length)) = (m : Int) := ⟨64 - (k + d.length), by omega⟩
        rw [hmm, show (k : Int) + d.length = ((k + d.length : Nat) : Int) by omega, readD_spot (by omega), readD_spot (by omega)]; exact (pad_zero_hi _ _ _ _).trans (pad_write_hi _ _ _ _))
      have HM2 := Lib.hid (zero_may (k := k) (n := d.length) HM1.out)
      obtain ⟨N, hN⟩ : ∃ N : ObD, N = { o with data := writeD o.data k d } := ⟨_, rfl⟩
      obtain ⟨Z, hZ⟩ : ∃ Z : ObD, Z = { o with data := zeroD (writeD o.data k d) k d.length } := ⟨_, rfl⟩
      rw [← hN] at h4 HM1 HR1 HR2 HR3 HZ
      rw [← hZ] at HR4 HR5 HM2 HZ
      clear hN hZ hs hsp
      obtain ⟨a4, c4, u4, q4, rfl, hv4, hb4⟩ := h4.ways
      have HW4 := Lib.hid (dcall HW3.out hb4)
      have P4 := Lib.hid (dblk hb4 P3.out)
      have HV4 : Hid (ObV _ w4 (.agg #[.slice a4 N.data.length c4, .slice u4 N.keys.length q4, .int .i64 N.seq]) N) := Lib.hid hv4
      clear h4 hv4 hb4 P3 y0 y1 y2 e0 e1 e2
      obtain ⟨y0, e0⟩ := blk_cell (i := 0) (P4.out)
      obtain ⟨y1, e1⟩ := blk_cell (i := 1) (P4.out)
      obtain ⟨y2, e2⟩ := blk_cell (i := 2) (P4.out)
      simp at y0 y1 y2
      have hlt4 : w.heap.size < w4.heap.size := (Array.getElem?_eq_some_iff.1 P4.out).1
      have hwr : IntKind.i64.wrap ((k : Int) + (d.length : Int)) = (k : Int) + (d.length : Int) := by rw [IntKind.wrap_i64]; omega
      have c1 : ¬ (k : Int) < 0 := by omega
      have c2 : ¬ (64 : Int) < k := by omega
      have c3 : ¬ (64 : Int) < (k : Int) + (d.length : Int) := by omega
      go_upto_region 10 with fail
      obtain ⟨w5, hw5⟩ : ∃ w5, w5 = w4.alloc (.cells #[.slice a4 N.data.length c4, .slice u4 N.keys.length q4, .int .i64 N.seq] 25) := ⟨_, rfl⟩
      rw [← hw5]
      have hb5 : Below w4.heap.size w4 w5 := by rw [hw5]; ((repeat' (first | exact Below.refl _ _ | refine below_drewN ?_ _ | refine Below.drew ?_ | refine Below.alloc ?_ ?_ _ | refine Below.trans ?_ (Below.mono (by assumption) ?_))); all_goals (first | exact Nat.le_refl _ | exact Below.size (by assumption) | omega | (simp; done) | (simp; omega)))
      have HW5 := Lib.hid (dcall HW4.out hb5)
      have Q5 := Lib.hid (show w5.heap[w4.heap.size]? = some (.cells #[.slice a4 N.data.length c4, .slice u4 N.keys.length q4, .int .i64 N.seq] 25 (0, 0)) from by rw [hw5]; exact heap_alloc_new _ _)
      have P5 := Lib.hid (dblk hb5 P4.out)
      have HV5 := Lib.hid (HV4.out.ext hb5)
      clear hw5 hb5 P4 HV4 y0 y1 y2 e0 e1 e2
      obtain ⟨y0, y1, y2⟩ := three_cells P5.out
      obtain ⟨x0, x1, x2⟩ := three_cells Q5.out
      have HC5 : Hid (∀ W, Below w5.heap.size w5 W → (Go.convert 22 9 (.slice oa d.length oc)).run Tryd.prog W = .ok (.string ⟨d.toArray⟩) W) := Lib.hid fun W h => cnv_bytes HD.out W (dcall HW5.out h)
      have hcells : Hid (∀ W, Below w5.heap.size w5 W → Below w5.heap.size w5 W ∧ W.cell? ⟨w.heap.size, 0, none⟩ = some (.slice da o.data.length dc) ∧ W.cell? ⟨w.heap.size, 1, none⟩ = some (.slice ka o.keys.length kc) ∧ W.cell? ⟨w.heap.size, 2, none⟩ = some (.int .i64 o.seq) ∧
          W.cell? ⟨w4.heap.size, 0, none⟩ = some (.slice a4 N.data.length c4) ∧ W.cell? ⟨w4.heap.size, 1, none⟩ = some (.slice u4 N.keys.length q4) ∧ W.cell? ⟨w4.heap.size, 2, none⟩ = some (.int .i64 N.seq) ∧
          (Go.convert 22 9 (.slice oa d.length oc)).run Tryd.prog W = .ok (.string ⟨d.toArray⟩) W) := Lib.hid fun W h => ⟨h, cellExt h y0, cellExt h y1, cellExt h y2, cellExt h x0, cellExt h x1, cellExt h x2, HC5.out W h⟩
      have hdN : N.data.length ≤ 1000000 := by have := ((mayB_iff N).1 HM1.out).1; omega
      have hdO : o.data.length ≤ 1000000 := by have := ((mayB_iff o).1 HM.out).1; omega
      have HQ1 := Lib.hid fun W (h : Below w5.heap.size w5 W) => HR1.out ▸ read_any _ _ N (k : Int) (d.length : Int) W (HV5.out.ext h) hdN
      have HQ2 := Lib.hid fun W (h : Below w5.heap.size w5 W) => HR2.out ▸ read_any _ _ N 0 (k : Int) W (HV5.out.ext h) hdN
      have HQ3 := Lib.hid fun W (h : Below w5.heap.size w5 W) => read_any _ _ o 0 (k : Int) W (HA.out.ext (dcall HW5.out h)) hdO
      generalize readD o 0 (k : Int) = L0 at HQ2 HQ3
      clear x0 x1 x2 y0 y1 y2
      go_cut [83] (fun s83 wx => s83 = .bool false ∧ Below w5.heap.size w5 wx)
      case first =>
        go_region_held_law (fun W => Below w5.heap.size w5 W ∧ W.cell? ⟨w.heap.size, 0, none⟩ = some (.slice da o.data.length dc) ∧ W.cell? ⟨w.heap.size, 1, none⟩ = some (.slice ka o.keys.length kc) ∧ W.cell? ⟨w.heap.size, 2, none⟩ = some (.int .i64 o.seq) ∧
          W.cell? ⟨w4.heap.size, 0, none⟩ = some (.slice a4 N.data.length c4) ∧ W.cell? ⟨w4.heap.size, 1, none⟩ = some (.slice u4 N.keys.length q4) ∧ W.cell? ⟨w4.heap.size, 2, none⟩ = some (.int .i64 N.seq) ∧
          (Go.convert 22 9 (.slice oa d.length oc)).run Tryd.prog W = .ok (.string ⟨d.toArray⟩) W)
          ((refine hcells.out _ ?_; first
            | (with_reducible exact Below.drew (Below.refl _ _))
            | (with_reducible exact hz6)
            | (with_reducible exact hz7)
            | (with_reducible exact hz8)))
          (first
            | (go_at_call 17; refine (HQ3.out _ hz7).mono ?_; rintro e w8 ⟨v8, rfl, h8, hb8⟩; obtain ⟨a8, c8, rfl⟩ := h8.rb.shape; have hz8 : Below w5.heap.size w5 w8 := dcall hz7 hb8; have s4 := cnv_bytes h8.rb w8 (Below.refl _ _); have s5 := cnv_bytes r7 w8 hb8)
            | (go_at_call 17; refine (HQ2.out _ hz6).mono ?_; rintro e w7 ⟨v7, rfl, h7, hb7⟩; obtain ⟨a7, c7, rfl⟩ := h7.rb.shape; have hz7 : Below w5.heap.size w5 w7 := dcall hz6 hb7; have s3 := cnv_bytes h7.rb w7 (Below.refl _ _); have r7 := h7.rb)
            | (go_at_call 17; refine (HQ1.out _ (Below.drew (Below.refl _ _))).mono ?_; rintro e w6 ⟨v6, rfl, h6, hb6⟩; obtain ⟨a6, c6, rfl⟩ := h6.rb.shape; have hz6 : Below w5.heap.size w5 w6 := dcall (Below.drew (Below.refl _ _)) hb6; have s2 := cnv_bytes h6.rb w6 (Below.refl _ _)))
        all_goals
          go_wp2_with fail
          go_meet
          exact ⟨rfl, hz8⟩
      case rest =>
        obtain ⟨rfl, hc⟩ := hcut
        have HC := Lib.hid hc
        have PC := Lib.hid (dblk hc P5.out)
        have QC := Lib.hid (dblk hc Q5.out)
        have VC := Lib.hid (HV5.out.ext hc)
        have HWC := Lib.hid (dcall HW5.out hc)
        clear hc HQ1 HQ2 HQ3 P5 Q5 HV5 HC5 hcells
        obtain ⟨y0, e0⟩ := blk_cell (i := 0) (PC.out)
        obtain ⟨y1, e1⟩ := blk_cell (i := 1) (PC.out)
        obtain ⟨y2, e2⟩ := blk_cell (i := 2) (PC.out)
        simp at y0 y1 y2
        obtain ⟨x0, f0⟩ := blk_cell (i := 0) (QC.out)
        obtain ⟨x1, f1⟩ := blk_cell (i := 1) (QC.out)
        obtain ⟨x2, f2⟩ := blk_cell (i := 2) (QC.out)
        simp at x0 x1 x2
        have hltp : w.heap.size < wc.heap.size := (Array.getElem?_eq_some_iff.1 PC.out).1
        have hltq : w4.heap.size < wc.heap.size := (Array.getElem?_eq_some_iff.1 QC.out).1
        go_wp2_with fail
        have hdo := do_any _ (fun _ => True) _ N true 6 (k : Int) (d.length : Int) ByteArray.empty none 0 [] wc VC.out (okl_of HM1.out) (RB.nil _ _) (by simp) (HE.out.ext HWC.out)
        unfold opV at hdo
        rw [HZ.out] at hdo
        refine hdo.mono ?_
        clear hdo
        intro e w7 h7
        obtain ⟨a7, c7, u7, q7, rfl, hv7, hb7⟩ := h7.ways
        have HW7 := Lib.hid (dcall HWC.out hb7)
        have P7 := Lib.hid (dblk hb7 PC.out)
        have Q7 := Lib.hid (dblk hb7 QC.out)
        have V7 := Lib.hid (VC.out.ext hb7)
        have HV7 : Hid (ObV _ w7 (.agg #[.slice a7 Z.data.length c7, .slice u7 Z.keys.length q7, .int .i64 Z.seq]) Z) := Lib.hid hv7
        clear h7 hv7 hb7 PC QC VC HC y0 y1 y2 e0 e1 e2 x0 x1 x2 f0 f1 f2 hltp hltq
        obtain ⟨y0, e0⟩ := blk_cell (i := 0) (P7.out)
        obtain ⟨y1, e1⟩ := blk_cell (i := 1) (P7.out)
        obtain ⟨y2, e2⟩ := blk_cell (i := 2) (P7.out)
        simp at y0 y1 y2
        obtain ⟨x0, f0⟩ := blk_cell (i := 0) (Q7.out)
        obtain ⟨x1, f1⟩ := blk_cell (i := 1) (Q7.out)
        obtain ⟨x2, f2⟩ := blk_cell (i := 2) (Q7.out)
        simp at x0 x1 x2
        have hltp : w.heap.size < w7.heap.size := (Array.getElem?_eq_some_iff.1 P7.out).1
        have hltq : w4.heap.size < w7.heap.size := (Array.getElem?_eq_some_iff.1 Q7.out).1
        go_upto_region 14 with fail
        obtain ⟨w8, hw8⟩ : ∃ w8, w8 = w7.alloc (.cells #[.slice a7 Z.data.length c7, .slice u7 Z.keys.length q7, .int .i64 Z.seq] 25) := ⟨_, rfl⟩
        rw [← hw8]
        have hb8 : Below w7.heap.size w7 w8 := by rw [hw8]; ((repeat' (first | exact Below.refl _ _ | refine below_drewN ?_ _ | refine Below.drew ?_ | refine Below.alloc ?_ ?_ _ | refine Below.trans ?_ (Below.mono (by assumption) ?_))); all_goals (first | exact Nat.le_refl _ | exact Below.size (by assumption) | omega | (simp; done) | (simp; omega)))
        have HW8 := Lib.hid (dcall HW7.out hb8)
        have R8 := Lib.hid (show w8.heap[w7.heap.size]? = some (.cells #[.slice a7 Z.data.length c7, .slice u7 Z.keys.length q7, .int .i64 Z.seq] 25 (0, 0)) from by rw [hw8]; exact heap_alloc_new _ _)
        have P8 := Lib.hid (dblk hb8 P7.out)
        have Q8 := Lib.hid (dblk hb8 Q7.out)
        have V8 := Lib.hid (V7.out.ext hb8)
        have HV8 := Lib.hid (HV7.out.ext hb8)
        clear hw8 hb8 P7 Q7 V7 HV7 y0 y1 y2 e0 e1 e2 x0 x1 x2 f0 f1 f2
        obtain ⟨y0, y1, y2⟩ := three_cells P8.out
        obtain ⟨x0, x1, x2⟩ := three_cells Q8.out
        obtain ⟨z0, z1, z2⟩ := three_cells R8.out
        have hcells : Hid (∀ W, Below w8.heap.size w8 W → Below w8.heap.size w8 W ∧ W.cell? ⟨w.heap.size, 0, none⟩ = some (.slice da o.data.length dc) ∧ W.cell? ⟨w.heap.size, 1, none⟩ = some (.slice ka o.keys.length kc) ∧ W.cell? ⟨w.heap.size, 2, none⟩ = some (.int .i64 o.seq) ∧
            W.cell? ⟨w4.heap.size, 0, none⟩ = some (.slice a4 N.data.length c4) ∧ W.cell? ⟨w4.heap.size, 1, none⟩ = some (.slice u4 N.keys.length q4) ∧ W.cell? ⟨w4.heap.size, 2, none⟩ = some (.int .i64 N.seq) ∧
            W.cell? ⟨w7.heap.size, 0, none⟩ = some (.slice a7 Z.data.length c7) ∧ W.cell? ⟨w7.heap.size, 1, none⟩ = some (.slice u7 Z.keys.length q7) ∧ W.cell? ⟨w7.heap.size, 2, none⟩ = some (.int .i64 Z.seq)) := Lib.hid fun W h => ⟨h, cellExt h y0, cellExt h y1, cellExt h y2, cellExt h x0, cellExt h x1, cellExt h x2, cellExt h z0, cellExt h z1, cellExt h z2⟩
        have hdZ : Z.data.length ≤ 1000000 := by have := ((mayB_iff Z).1 HM2.out).1; omega
        have HQ4 := Lib.hid fun W (h : Below w8.heap.size w8 W) => HR4.out ▸ read_any _ _ Z (k : Int) (d.length : Int) W (HV8.out.ext h) hdZ
        clear x0 x1 x2 y0 y1 y2 z0 z1 z2
        have hmk := fun W => mk_bytes d.length (by omega) W
        have hmc := fun W => mk_cnv d.length (by omega) W _ (Below.refl _ _)
        have hmd := mk_cnv d.length (by omega) w8 _ (Below.drew (Below.refl _ _))
        simp only [List.toArray_replicate] at hmk hmc hmd
        go_cut [113] (fun s113 wx => s113 = .bool false ∧ Below w8.heap.size w8 wx)
        case first =>
          go_region_held_law (fun W => Below w8.heap.size w8 W ∧ W.cell? ⟨w.heap.size, 0, none⟩ = some (.slice da o.data.length dc) ∧ W.cell? ⟨w.heap.size, 1, none⟩ = some (.slice ka o.keys.length kc) ∧ W.cell? ⟨w.heap.size, 2, none⟩ = some (.int .i64 o.seq) ∧
            W.cell? ⟨w4.heap.size, 0, none⟩ = some (.slice a4 N.data.length c4) ∧ W.cell? ⟨w4.heap.size, 1, none⟩ = some (.slice u4 N.keys.length q4) ∧ W.cell? ⟨w4.heap.size, 2, none⟩ = some (.int .i64 N.seq) ∧
            W.cell? ⟨w7.heap.size, 0, none⟩ = some (.slice a7 Z.data.length c7) ∧ W.cell? ⟨w7.heap.size, 1, none⟩ = some (.slice u7 Z.keys.length q7) ∧ W.cell? ⟨w7.heap.size, 2, none⟩ = some (.int .i64 Z.seq))
            ((refine hcells.out _ ?_; first
              | (with_reducible exact Below.drew (Below.refl _ _))
              | (with_reducible exact below_nw (Below.drew (Below.refl _ _)) _)
              | (with_reducible exact Below.drew (below_nw (Below.refl _ _) _))
              | (with_reducible exact hz6)
              | (with_reducible exact below_nw hz6 _)))
            (first
              | (go_at_call 17; refine (HQ4.out _ (by first | exact Below.drew (Below.refl _ _) | exact Below.drew (below_nw (Below.refl _ _) _))).mono ?_; rintro e w9 ⟨v9, rfl, h9, hb9⟩; obtain ⟨a9, c9, rfl⟩ := h9.rb.shape; have hz6 : Below w8.heap.size w8 w9 := (by first | exact Below.trans (Below.drew (Below.refl w8.heap.size w8)) (Below.mono hb9 (Nat.le_refl _)) | exact Below.trans (Below.drew (below_nw (Below.refl w8.heap.size w8) _)) (Below.mono hb9 (by simp))); have s2 := cnv_bytes h9.rb w9 (Below.refl _ _); have s3 := (fun X => cnv_bytes h9.rb (w9.alloc X) (below_nw (Below.refl _ _) X)); simp only [List.length_replicate, List.toArray_replicate] at s2 s3; (first | (have s4 := mk_cnv d.length (by omega) w8 _ (by simp only [List.toArray_replicate]; exact Below.trans (Below.drew (Below.refl _ _)) hb9); simp only [List.toArray_replicate] at s4) | skip)))
          all_goals
            go_wp2_with fail
            go_meet
            first | exact ⟨rfl, hz6⟩ | exact ⟨rfl, below_nw hz6 _⟩
        case rest =>
          obtain ⟨rfl, hc⟩ := hcut
          have HQ5 := Lib.hid fun W (h : Below w8.heap.size w8 W) => HR3.out ▸ read_any _ _ N ((k : Int) + d.length) (64 - ((k : Int) + d.length)) W (V8.out.ext h) hdN
          have HQ6 := Lib.hid fun W (h : Below w8.heap.size w8 W) => read_any _ _ o ((k : Int) + d.length) (64 - ((k : Int) + d.length)) W (HA.out.ext (dcall HW8.out h)) hdO
          have HQ7 := Lib.hid fun W (h : Below w8.heap.size w8 W) => HR5.out ▸ read_any _ _ Z ((k : Int) + d.length) (64 - ((k : Int) + d.length)) W (HV8.out.ext h) hdZ
          generalize readD o ((k : Int) + d.length) (64 - ((k : Int) + d.length)) = L1 at HQ5 HQ6 HQ7
          have hwr2 : IntKind.i64.wrap (64 - ((k : Int) + (d.length : Int))) = 64 - ((k : Int) + (d.length : Int)) := by rw [IntKind.wrap_i64]; omega
          clear hmk hmc hmd HQ4
          go_wp2_with fail
          go_region_held_law (fun W => Below w8.heap.size w8 W ∧ W.cell? ⟨w.heap.size, 0, none⟩ = some (.slice da o.data.length dc) ∧ W.cell? ⟨w.heap.size, 1, none⟩ = some (.slice ka o.keys.length kc) ∧ W.cell? ⟨w.heap.size, 2, none⟩ = some (.int .i64 o.seq) ∧
            W.cell? ⟨w4.heap.size, 0, none⟩ = some (.slice a4 N.data.length c4) ∧ W.cell? ⟨w4.heap.size, 1, none⟩ = some (.slice u4 N.keys.length q4) ∧ W.cell? ⟨w4.heap.size, 2, none⟩ = some (.int .i64 N.seq) ∧
            W.cell? ⟨w7.heap.size, 0, none⟩ = some (.slice a7 Z.data.length c7) ∧ W.cell? ⟨w7.heap.size, 1, none⟩ = some (.slice u7 Z.keys.length q7) ∧ W.cell? ⟨w7.heap.size, 2, none⟩ = some (.int .i64 Z.seq))
            ((refine hcells.out _ ?_; first
              | (with_reducible exact Below.drew hc)
              | (with_reducible exact hz6)
              | (with_reducible exact hz7)
              | (with_reducible exact hzA)
              | (with_reducible exact hzB)))
            (first
              | (go_at_call 17; refine (HQ6.out _ hzA).mono ?_; rintro e wB ⟨vB, rfl, hB, hbB⟩; obtain ⟨aB, cB, rfl⟩ := hB.rb.shape; have hzB : Below w8.heap.size w8 wB := dcall hzA hbB; have s6 := cnv_bytes hB.rb wB (Below.refl _ _); have s7 := cnv_bytes rA wB hbB)
              | (go_at_call 17; refine (HQ7.out _ hz7).mono ?_; rintro e wA ⟨vA, rfl, hA, hbA⟩; obtain ⟨aA, cA, rfl⟩ := hA.rb.shape; have hzA : Below w8.heap.size w8 wA := dcall hz7 hbA; have s5 := cnv_bytes hA.rb wA (Below.refl _ _); have rA := hA.rb)
              | (go_at_call 17; refine (HQ6.out _ hz6).mono ?_; rintro e w9 ⟨v9, rfl, h9, hb9⟩; obtain ⟨a9, c9, rfl⟩ := h9.rb.shape; have hz7 : Below w8.heap.size w8 w9 := dcall hz6 hb9; have s3 := cnv_bytes h9.rb w9 (Below.refl _ _); have s4 := cnv_bytes r6 w9 hb9)
              | (go_at_call 17; refine (HQ5.out _ (Below.drew hc)).mono ?_; rintro e w6 ⟨v6, rfl, h6, hb6⟩; obtain ⟨a6, c6, rfl⟩ := h6.rb.shape; have hz6 : Below w8.heap.size w8 w6 := dcall (Below.drew hc) hb6; have s2 := cnv_bytes h6.rb w6 (Below.refl _ _); have r6 := h6.rb))
          all_goals
            go_wp2
            go_ret
            exact ⟨rfl, dcall HW8.out hzB⟩
end Go.Proofs.YtfefnfgppgohgaaDoor
