/- The walk of terrazzolaw08.ObjectTells. -/
import Derived.Test.YtfefnfgppgohgaaDoorL8b
import Derived.Deep.RegionHeldLaw
namespace Go.Proofs.YtfefnfgppgohgaaDoor
open Go.RowKit Go.WideShapes

set_option maxRecDepth 100000 in
set_option maxHeartbeats 16000000 in
theorem tells_law (A : Nat → Prop) (v : Value) (o : ObD) (nm : ByteArray) (at_ : Int) (w : World) (hE : ErrT w) (hv : ObV A w v o) :
    Calls Tryd.prog 7 #[v, .string nm, .int .i64 at_] w (Says true w) := by
  obtain ⟨dva, kva, rfl, hda, hka⟩ := hv
  obtain ⟨da, dc, rfl⟩ := hda.shape
  obtain ⟨ka, kc, rfl⟩ := hka.shape
  have HA : Hid (ObV (fun b => b < w.heap.size) w _ o) := Lib.hid ((show ObV A w _ o from ⟨_, _, rfl, hda, hka⟩).weak fun b h _ => h)
  have HE := Lib.hid hE
  clear hda hka hE
  obtain ⟨C, hC⟩ : ∃ C : Int, C = (if mayB o = true then (0 : Int) else 1) := ⟨_, rfl⟩
  have HC := Lib.hid hC
  clear hC
  go_enter Tryd.func7, Tryd.ntmps7
  go_wp2_with fail
  obtain ⟨w0, hw0⟩ : ∃ w0, w0 = w.alloc (.cells #[.slice da o.data.length dc, .slice ka o.keys.length kc, .int .i64 o.seq] 25) := ⟨_, rfl⟩
  rw [← hw0]
  have b0 : w0.heap[w.heap.size]? = some (.cells #[.slice da o.data.length dc, .slice ka o.keys.length kc, .int .i64 o.seq] 25 (0, 0)) := by rw [hw0]; exact heap_alloc_new _ _
  have hw : Below w.heap.size w w0 := by rw [hw0]; ((repeat' (first | exact Below.refl _ _ | refine below_drewN ?_ _ | refine Below.drew ?_ | refine Below.alloc ?_ ?_ _ | refine Below.trans ?_ (Below.mono (by assumption) ?_))); all_goals (first | exact Nat.le_refl _ | exact Below.size (by assumption) | omega | (simp; done) | (simp; omega)))
  clear hw0
  refine (awake_any _ (HE.out.ext hw)).mono ?_
  rintro e w1 ⟨rfl, hb1⟩
  have HW1 := Lib.hid (dcall hw hb1)
  have P1 := Lib.hid (dblk hb1 b0)
  clear hb1 b0 hw
  obtain ⟨y0, e0⟩ := blk_cell (i := 0) (P1.out)
  obtain ⟨y1, e1⟩ := blk_cell (i := 1) (P1.out)
  obtain ⟨y2, e2⟩ := blk_cell (i := 2) (P1.out)
  simp at y0 y1 y2
  go_wp2_with fail
  refine (few8_any _ _ o _ (HA.out.ext HW1.out)).mono ?_
  rintro e w2 ⟨p1, rfl, hf1, hb2⟩
  have HF1 := Lib.hid hf1
  have HW2 := Lib.hid (dcall HW1.out hb2)
  have P2 := Lib.hid (dblk hb2 P1.out)
  clear hb2 P1 HW1 hf1 y0 y1 y2 e0 e1 e2
  obtain ⟨y0, e0⟩ := blk_cell (i := 0) (P2.out)
  obtain ⟨y1, e1⟩ := blk_cell (i := 1) (P2.out)
  obtain ⟨y2, e2⟩ := blk_cell (i := 2) (P2.out)
  simp at y0 y1 y2
  rcases p1 with _ | _
  · go_wp2
    go_ret
    exact ⟨rfl, HW2.out⟩
  have hfp := HF1.out rfl
  have hkl := hfp.2.1
  have hdl := hfp.1
  have HOK := Lib.hid (few8_okl hfp)
  clear hfp HF1
  go_wp2_with fail
  refine (rmay_any _ _ o _ (HA.out.ext HW2.out) (by omega)).mono ?_
  rintro e w3 ⟨rfl, hb3⟩
  have HW3 := Lib.hid (dcall HW2.out hb3)
  have P3 := Lib.hid (dblk hb3 P2.out)
  clear hb3 P2 HW2 y0 y1 y2 e0 e1 e2
  obtain ⟨y0, e0⟩ := blk_cell (i := 0) (P3.out)
  obtain ⟨y1, e1⟩ := blk_cell (i := 1) (P3.out)
  obtain ⟨y2, e2⟩ := blk_cell (i := 2) (P3.out)
  simp at y0 y1 y2
  go_upto_if 24 with fail
  go_cut [9] (fun s9 wx => s9 = .int .i64 C ∧ wx = w3)
  case first =>
    cases hm : mayB o with
    | true =>
      rw [hm] at HC
      have HCC : Hid (C = 0) := Lib.hid HC.out
      clear hm HC
      go_wp2
      go_meet
      exact ⟨by rw [HCC.out], rfl⟩
    | false =>
      rw [hm] at HC
      have HCC : Hid (C = 1) := Lib.hid HC.out
      clear hm HC
      go_wp2
      go_meet
      exact ⟨by rw [HCC.out], rfl⟩
  case rest =>
    obtain ⟨rfl, rfl⟩ := hcut
    go_wp2_with fail
    refine (get_any _ _ o nm _ (HA.out.ext HW3.out) HOK.out).mono ?_
    rintro e w4 ⟨v4, rfl, h4, hb4⟩
    obtain ⟨a4, c4, rfl⟩ := h4.rb.shape
    have HG4 := Lib.hid h4.rb
    have HB4 := Lib.hid hb4
    have HW4 := Lib.hid (dcall HW3.out hb4)
    have P4 := Lib.hid (dblk hb4 P3.out)
    clear h4 hb4 y0 y1 y2 e0 e1 e2
    obtain ⟨y0, e0⟩ := blk_cell (i := 0) (P4.out)
    obtain ⟨y1, e1⟩ := blk_cell (i := 1) (P4.out)
    obtain ⟨y2, e2⟩ := blk_cell (i := 2) (P4.out)
    simp at y0 y1 y2
    go_wp2_with fail
    refine (rget_any _ _ o nm _ (HA.out.ext HW4.out) (by omega)).mono ?_
    rintro e w5 ⟨a5, n5, c5, rfl, h5, hn5, hb5⟩
    have HW5 := Lib.hid (dcall HW4.out hb5)
    have P5 := Lib.hid (dblk hb5 P4.out)
    have HG5 := Lib.hid (RB.ext HG4.out hb5)
    subst hn5
    have HR5 := Lib.hid h5
    clear h5 hb5 y0 y1 y2 e0 e1 e2
    obtain ⟨y0, e0⟩ := blk_cell (i := 0) (P5.out)
    obtain ⟨y1, e1⟩ := blk_cell (i := 1) (P5.out)
    obtain ⟨y2, e2⟩ := blk_cell (i := 2) (P5.out)
    simp at y0 y1 y2
    generalize (getD o.keys nm).isSome = IS at *
    generalize (getD o.keys nm).getD [] = XG at *
    go_upto_region 14 with fail
    have HCK : Hid (∀ W, Below w5.heap.size w5 W → Calls Tryd.prog 16 #[.agg #[.slice da o.data.length dc, .slice ka o.keys.length kc, .int .i64 o.seq]] W fun e w' => e = .returned (.int .i64 C) ∧ Below W.heap.size W w') := Lib.hid fun W h => by
      have h1 := check_any _ _ o W (HA.out.ext (dcall HW5.out h)) (by omega)
      unfold ChkR at h1
      rw [← HC.out] at h1
      exact h1
    have HV : Hid (∀ W, Below w5.heap.size w5 W → ObV (fun b => b < w.heap.size) W (.agg #[.slice da o.data.length dc, .slice ka o.keys.length kc, .int .i64 o.seq]) o) := Lib.hid fun W h => HA.out.ext (dcall HW5.out h)
    have HS1 : Hid (∀ W, Below w5.heap.size w5 W → (Go.convert 22 9 (.slice a4 XG.length c4)).run Tryd.prog W = .ok (.string ⟨XG.toArray⟩) W) := Lib.hid fun W h => cnv_bytes HG5.out W h
    have HS2 : Hid (∀ W, Below w5.heap.size w5 W → (Go.convert 22 9 (.slice a5 XG.length c5)).run Tryd.prog W = .ok (.string ⟨XG.toArray⟩) W) := Lib.hid fun W h => cnv_bytes HR5.out W h
    have hcells : Hid (∀ W, Below w5.heap.size w5 W → Below w5.heap.size w5 W ∧ W.cell? ⟨w.heap.size, 0, none⟩ = some (.slice da o.data.length dc) ∧ W.cell? ⟨w.heap.size, 1, none⟩ = some (.slice ka o.keys.length kc) ∧ W.cell? ⟨w.heap.size, 2, none⟩ = some (.int .i64 o.seq) ∧ (Go.convert 22 9 (.slice a4 XG.length c4)).run Tryd.prog W = .ok (.string ⟨XG.toArray⟩) W ∧ (Go.convert 22 9 (.slice a5 XG.length c5)).run Tryd.prog W = .ok (.string ⟨XG.toArray⟩) W) := Lib.hid fun W h => ⟨h, cellExt h y0, cellExt h y1, cellExt h y2, HS1.out W h, HS2.out W h⟩
    have HAT := Lib.hid fun W h => at_any _ _ o nm W (HV.out W h) HOK.out
    have HRAT := Lib.hid fun W h => rat_any _ _ o nm W (HV.out W h) (by omega)
    have HRD := Lib.hid fun off n W h => read_any _ _ o off n W (HV.out W h) (by omega)
    have HRRD := Lib.hid fun off n W h => rread_any _ _ o off n W (HV.out W h) (by omega)
    have HCL := Lib.hid fun W h => objclone_own _ _ o W (HV.out W h) HOK.out
    generalize atD o nm = XA at *
    clear y0 y1 y2 e0 e1 e2 HG5 HR5 HG4 HA HC
    go_region_held_law (fun W => Below w5.heap.size w5 W ∧ W.cell? ⟨w.heap.size, 0, none⟩ = some (.slice da o.data.length dc) ∧ W.cell? ⟨w.heap.size, 1, none⟩ = some (.slice ka o.keys.length kc) ∧ W.cell? ⟨w.heap.size, 2, none⟩ = some (.int .i64 o.seq) ∧ (Go.convert 22 9 (.slice a4 XG.length c4)).run Tryd.prog W = .ok (.string ⟨XG.toArray⟩) W ∧ (Go.convert 22 9 (.slice a5 XG.length c5)).run Tryd.prog W = .ok (.string ⟨XG.toArray⟩) W)
      ((refine hcells.out _ ?_; first
        | (with_reducible exact Below.drew (Below.refl _ _))
        | (with_reducible exact hz6)
        | (with_reducible exact hz7)
        | (with_reducible exact hz8)
        | (with_reducible exact hz9)
        | (with_reducible exact hzA)
        | (with_reducible exact hzB)
        | (with_reducible exact hzC)))
      (first
        | (go_at_call 16; refine (HCK.out _ (Below.drew (Below.refl _ _))).mono ?_; rintro e w6 ⟨rfl, hb6⟩; have hz6 : Below w5.heap.size w5 w6 := dcall (Below.drew (Below.refl _ _)) hb6)
        | (go_at_call 19; refine (HAT.out _ hz6).mono ?_; rintro e w7 ⟨v7, rfl, h7, hb7⟩; obtain ⟨a7, c7, rfl⟩ := h7.rb.shape; have hz7 : Below w5.heap.size w5 w7 := dcall hz6 hb7; have s3 := cnv_bytes h7.rb w7 (Below.refl _ _); have r7 := h7.rb)
        | (go_at_call 22; refine (HRAT.out _ hz7).mono ?_; rintro e w8 ⟨a8, c8, rfl, h8, hb8⟩; have hz8 : Below w5.heap.size w5 w8 := dcall hz7 hb8; have s4 := cnv_bytes h8 w8 (Below.refl _ _); have s5 := cnv_bytes r7 w8 hb8)
        | (go_at_call 17; refine (HRD.out _ _ _ hz8).mono ?_; rintro e w9 ⟨v9, rfl, h9, hb9⟩; obtain ⟨a9, c9, rfl⟩ := h9.rb.shape; have hz9 : Below w5.heap.size w5 w9 := dcall hz8 hb9; have s6 := cnv_bytes h9.rb w9 (Below.refl _ _); have r9 := h9.rb)
        | (go_at_call 23; refine (HRRD.out _ _ _ hz9).mono ?_; rintro e wA ⟨aA, cA, rfl, hA, hbA⟩; have hzA : Below w5.heap.size w5 wA := dcall hz9 hbA; have s7 := cnv_bytes hA wA (Below.refl _ _); have s8 := cnv_bytes r9 wA hbA)
        | (go_at_call 15; refine (HCL.out _ hzA).mono ?_; rintro e wB ⟨dB, kB, rfl, hB, hbB⟩; obtain ⟨⟨aB, cB, rfl⟩, ⟨uB, qB, rfl⟩⟩ := own8_shape hB; have hzB : Below w5.heap.size w5 wB := dcall hzA hbB; have vB := hB.obv)
        | (go_at_call 24; refine (osame_any _ _ o o _ _ _ vB (HV.out _ hzB) (by omega)).mono ?_; rw [sameB_self]; rintro e wC ⟨rfl, hbC⟩; have hzC : Below w5.heap.size w5 wC := dcall hzB hbC))
    all_goals
      go_wp2
      go_ret
      exact ⟨rfl, dcall HW5.out hzC⟩
end Go.Proofs.YtfefnfgppgohgaaDoor
