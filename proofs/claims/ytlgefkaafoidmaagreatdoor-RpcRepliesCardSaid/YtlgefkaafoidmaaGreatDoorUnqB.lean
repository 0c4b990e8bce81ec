/- The walk of rpc.UnpackRequest at a request without a transaction. -/
import Derived.Test.YtlgefkaafoidmaaGreatDoorGH
import Derived.Laws.IdiomStrings
namespace Go.Proofs.YtlgefkaafoidmaaGreatDoor
open Go.RowKit Go.WideShapes
attribute [local go_sem ↓] Go.wp_at_zero Go.wp_at_succ

theorem conv_empty {A : Nat → Prop} {w : World} {v : Value} (h : RB A w v []) (W : World) : (Go.convert 27 9 v).run Tryz.prog W = .ok (.string ByteArray.empty) W := by
  obtain ⟨a, c, rfl⟩ := h.shape
  cases a with
  | none => exact run_convert_bytes_nil W _ 5 Tryz.underlying27 Tryz.underlying5 _ _ _ Tryz.underlying9
  | some p => exact run_convert_bytes_back W 27 9 5 p c [] Tryz.underlying27 Tryz.underlying5 Tryz.underlying9 (fun j hj => by simp at hj)
set_option maxRecDepth 100000 in
set_option maxHeartbeats 4000000 in
theorem unq_plain (A : Nat → Prop) (v : Value) (l : List UInt8) (c lf s kd im wh n : Nat) (w : World) (hx : RB A w v l) (hl : l.length ≤ 100000) (hT : TabW w) (hg0 : 0 < w.heap.size)
    (hn : nextB l = ⟨1, bodyQ c lf s kd im wh n [], [], 0⟩) (hq : PlainQ ⟨c, lf, s, kd, im, wh, n, TxD.none⟩) :
    Calls Tryz.prog 7 #[v] w fun e w' => e = .returned (.tuple #[rqV ⟨c, lf, s, kd, im, wh, n, TxD.none⟩ (.slice none 0 0), .int .i64 0]) ∧ Below w.heap.size w w' := by
  obtain ⟨xa, xc, rfl⟩ := hx.shape
  have hbl : (bodyQ c lf s kd im wh n []).length = 22 := by simp [bodyQ_length]
  have hrd : rdNums wsQ ⟨bodyQ c lf s kd im wh n [], 0⟩ = ([c, lf, s, kd, im, wh, n], ⟨be 2 ([] : List UInt8).length ++ [], 0⟩) := by
    obtain ⟨hc, hl, hs, hk, hi, hw, hn, ht⟩ := hq
    simp only at hc hl hs hk hi hw hn
    exact rdNums_bodyQ c lf s kd im wh n [] (by omega) (by omega) (by omega) (by omega) (by omega) (by omega) (by omega)
  have hk1 : 3 ≤ kd := by have := hq.k; simp only at this; omega
  obtain ⟨L0, hL0⟩ : ∃ L0, L0 = bodyQ c lf s kd im wh n [] := ⟨_, rfl⟩
  rw [← hL0] at hn hbl hrd
  have HX := Lib.hid hx
  have HT := Lib.hid hT
  have HN := Lib.hid hn
  have HG := Lib.hid hg0
  have HQ := Lib.hid hq
  have HRD := Lib.hid hrd
  have HBL := Lib.hid hbl
  have hb0 : ∀ o, Below w.heap.size w (w.alloc o) := fun o => (Below.refl _ w).alloc (Nat.le_refl _) o
  have HB := Lib.hid hb0
  clear hx hT hn hg0 hq hrd hbl hL0 hb0
  go_enter Tryz.func7, Tryz.ntmps7
  go_wp2_with fail
  refine (opn_ok A _ l L0 1 _ (HX.out.ext (HB.out _)) hl (tab_below HT.out (HB.out _) HG.out) (by have := HG.out; rw [World.size_alloc]; omega) HN.out (by rw [HBL.out]; omega)).mono ?_
  rintro e w1 ⟨p, rfl, hr, hp, hb1⟩
  have B0 := (hb1.block w.heap.size (by simp)).trans (heap_alloc_new w _)
  have hbw : Below w.heap.size w w1 := ((Below.refl _ w).alloc (Nat.le_refl _) _).trans (hb1.mono (by simp))
  have hpl := hr.lt
  have hs1 := hb1.size
  simp only [World.size_alloc] at hs1 hp
  have HR : Hid (IsRd (fun b => w.heap.size < b ∧ b < p) w1 p ⟨L0, 0⟩) := by
    obtain ⟨u, h1, h2⟩ := hr.ex
    exact ⟨⟨u, h1, h2.weak fun b _ h => by simp at h; omega⟩, fun h => by have := h.2; omega⟩
  have HBW := Lib.hid hbw
  have HB0 := Lib.hid B0
  clear hb1 hbw B0 hr
  have hs2 : w.heap.size < w1.heap.size := by omega
  have Q1 : ((w1.alloc (.cells (qcells [c, lf, s, kd, im, wh, n] 0) 26)).alloc (.cells (fcells w1.heap.size) 63)).heap[w1.heap.size]? = some (.cells (qcells [c, lf, s, kd, im, wh, n] 0) 26 (0, 0)) :=
    (Below.heap_alloc _ _ _ (by simp)).trans (heap_alloc_new _ _)
  have S1 := heap_alloc2_new w1 (.cells (qcells [c, lf, s, kd, im, wh, n] 0) 26) (.cells (fcells w1.heap.size) 63)
  have hA2 : Below w1.heap.size w1 ((w1.alloc (.cells (qcells [c, lf, s, kd, im, wh, n] 0) 26)).alloc (.cells (fcells w1.heap.size) 63)) := ((Below.refl _ w1).alloc (Nat.le_refl _) _).alloc (by simp) _
  have HQ1 := Lib.hid Q1
  have HS1 := Lib.hid S1
  have HA2 := Lib.hid hA2
  have HK1 := Lib.hid hk1
  have HNE : Hid ([c, lf, s, kd, im, wh, n].length = 7) := rfl
  obtain ⟨ns, hns⟩ : ∃ ns, ns = [c, lf, s, kd, im, wh, n] := ⟨_, rfl⟩
  have HNS := Lib.hid hns
  clear Q1 S1 hA2 hk1
  go_wp2
  go_loopw [36] (fun q wr => ∃ k : Nat, k ≤ 7 ∧ q = .int .i64 k ∧ wr.heap[w1.heap.size]? = some (.cells (qcells [c, lf, s, kd, im, wh, n] k) 26 (0, 0)) ∧ wr.heap[w1.heap.size + 1]? = some (.cells (fcells w1.heap.size) 63 (0, 0)) ∧
      IsRd (fun b => w.heap.size < b ∧ b < p) wr p (rdNums (wsQ.take k) ⟨L0, 0⟩).2 ∧ wr.heap[w.heap.size]? = some (.cells rq0 26 (0, 0)) ∧ Below w.heap.size w wr) (fun q _ => 7 - (intOf q).toNat)
  case atStart =>
    refine ⟨0, by omega, rfl, HQ1.out, HS1.out, HR.out.ext HA2.out, (HA2.out.block _ hs2).trans HB0.out, HBW.out.trans (HA2.out.mono (by omega))⟩
  case round =>
    obtain ⟨k, hk, rfl, q1, s1, rr, b0, bw⟩ := hrel
    have HQR := Lib.hid q1
    have HSR := Lib.hid s1
    have HRR := Lib.hid rr
    have HB0R := Lib.hid b0
    have HBWR := Lib.hid bw
    have hpr := rr.lt
    have hqr : w1.heap.size + 1 < wr.heap.size := (Array.getElem?_eq_some_iff.1 s1).1
    clear q1 s1 rr b0 bw
    by_cases hlt : k < 7
    · have hwk : k < wsQ.length := hlt
      have c0 := (blk_cell (i := k * 2) HSR.out).1.trans (fcells_at w1.heap.size k hlt).1
      have c1 := (blk_cell (i := k * 2 + 1) HSR.out).1.trans (fcells_at w1.heap.size k hlt).2
      have d0 := (blk_cell (i := k) HQR.out).1.trans (qcells_at [c, lf, s, kd, im, wh, n] k rfl hlt)
      have g0 := (blk_cell (i := k) HQR.out).2
      have HW := Lib.hid (wsQ_b k hwk)
      have HSTEP := Lib.hid (rdNums_take wsQ ⟨L0, 0⟩ k hwk)
      have HPRE := Lib.hid (rdNums_prefix wsQ ⟨L0, 0⟩ (k + 1))
      have HINV := Lib.hid (rdNums_inv (wsQ.take k) ⟨L0, 0⟩ (Rd.ok_mk _) (show 0 < 1000 by decide))
      generalize wsQ[k] = W at *
      have hplen : (rdNums (wsQ.take k) ⟨L0, 0⟩).1.length = k := by rw [rdNums_length, List.length_take]; show min k 7 = k; omega
      have hnum : Hid ((((rdNums (wsQ.take k) ⟨L0, 0⟩).2.num W).1) = [c, lf, s, kd, im, wh, n][k]) := by
        refine last_is (ns := [c, lf, s, kd, im, wh, n]) hplen hlt ?_
        have h1 := congrArg Prod.fst HSTEP.out
        rw [HPRE.out, HRD.out] at h1
        exact h1.symm
      have hlen : (rdNums (wsQ.take k) ⟨L0, 0⟩).2.l.length ≤ 100000 := by have h2 := HINV.out.2.2; have h3 := HBL.out; simp only at h2; omega
      have hlen' := Lib.hid hlen
      have hre := Lib.hid HINV.out.2.1
      have hSN : Hid ((rdNums (wsQ.take (k + 1)) ⟨L0, 0⟩).2 = ((rdNums (wsQ.take k) ⟨L0, 0⟩).2.num W).2) := by
        show _ = _
        rw [HSTEP.out]
        rfl
      have HST := Lib.hid (qcells_step [c, lf, s, kd, im, wh, n] k rfl hlt)
      generalize (rdNums (wsQ.take k) ⟨L0, 0⟩).2 = R at *
      clear hplen hlen
      have hqp : w1.heap.size ≠ p := by omega
      have hpw : wr.heap.size ≠ p := by omega
      have hqw : w1.heap.size < wr.heap.size := by omega
      have hfz : ∀ o, (wr.alloc o).drew.frozen? ⟨w1.heap.size, k, none⟩ = false := fun o => (World.frozen?_of_block (Below.heap_alloc wr o w1.heap.size hqw)).trans g0
      go_wp2
      go_region_with (go_at_call 26; refine (rnum_any _ p W R _ (HRR.out.ext (Below.drew ((Below.refl _ _).alloc (Nat.le_refl _) _))) HW.out.1 HW.out.2 hlen'.out hre.out).mono ?_; rintro e w3 ⟨rfl, hr3, hf3⟩; have hs3 := hf3.size; have e0 : w3.cell? ⟨wr.heap.size, 0, none⟩ = _ := (hf3.cell (p := ⟨wr.heap.size, 0, none⟩) (by simp) hpw).trans (by simp; rfl); have e2 : w3.cell? ⟨w1.heap.size, k, none⟩ = _ := (hf3.cell (p := ⟨w1.heap.size, k, none⟩) (by simp; omega) hqp).trans ((World.cell?_alloc_lt _ _ _ hqw).trans d0); have e3 : w3.frozen? ⟨w1.heap.size, k, none⟩ = false := (hf3.frozen (p := ⟨w1.heap.size, k, none⟩) (by simp; omega) hqp).trans (hfz _); have HR3 := Lib.hid hr3; have HF3 := Lib.hid hf3; clear hr3 hf3)
      all_goals
        go_wp2
        go_roundw
        case rel =>
          refine ⟨k + 1, by omega, by go_num, ?_, ?_, ?_, ?_, ?_⟩
          · rw [hnum.out, ← HST.out]
            exact set_blk3 ((HF3.out.block _ (by simp; omega) hqp).trans ((Below.heap_alloc _ _ _ hqw).trans HQR.out))
          · exact (Below.heap_setCell _ ⟨w1.heap.size, k, none⟩ _ _ (by show _ ≠ w1.heap.size; omega)).trans ((HF3.out.block (w1.heap.size + 1) (by simp; omega) (by show ¬ (w1.heap.size + 1 = p); omega)).trans ((Below.heap_alloc _ _ _ (by omega)).trans HSR.out))
          · rw [hSN.out]
            exact IsRd.same (B := fun b => b ≠ w1.heap.size) HR3.out (Same.setCell (a := ⟨w1.heap.size, k, none⟩) (Same.refl _ _) (fun h => h rfl) _) (Ne.symm hqp) (fun b h => by have := h.2; omega)
          · exact (Below.heap_setCell _ ⟨w1.heap.size, k, none⟩ _ _ (by show _ ≠ w1.heap.size; omega)).trans ((HF3.out.block w.heap.size (by simp; omega) (by show ¬ (w.heap.size = p); omega)).trans ((Below.heap_alloc _ _ _ (by omega)).trans HB0R.out))
          · refine Below.setCell (p := ⟨w1.heap.size, k, none⟩) ?_ (by show _ ≤ w1.heap.size; omega) _
            exact ((HBWR.out.alloc (by omega) _).drew).trans (HF3.out.below (B := w.heap.size) (by simp; omega) fun j hj h => by have h : j = p := h; omega)
        case measure => simp [intOf]; omega
    · obtain rfl : k = 7 := by omega
      have h7 : (rdNums (wsQ.take 7) ⟨L0, 0⟩).2 = ⟨be 2 ([] : List UInt8).length ++ [], 0⟩ := congrArg Prod.snd HRD.out
      have HR7 := Lib.hid (h7 ▸ HRR.out)
      clear h7
      have HQ7 : Hid (wr.heap[w1.heap.size]? = some (.cells (rqC ⟨c, lf, s, kd, im, wh, n, TxD.none⟩ (.slice none 0 0)) 26 (0, 0))) := HQR.out
      go_wp2_with fail
      refine (rblob_any _ p 8192 _ _ HR7.out (by omega) (by simp [be_length]) (by simp) (by rw [Rd.num_be 2 _ [] (by simp)]; simp)).mono ?_
      rw [show Rd.blob 8192 ⟨be 2 ([] : List UInt8).length ++ [], 0⟩ = ([], ⟨[], 0⟩) from Rd.blob_be 8192 [] [] (by simp) (by simp)]
      rintro e w3 ⟨v3, rfl, hv3, hr3, hf3⟩
      obtain ⟨a3, c3, rfl⟩ := hv3.shape
      simp only [List.length_nil]
      have Q3 := (hf3.block w1.heap.size (by omega) (by show ¬ (w1.heap.size = p); omega)).trans HQ7.out
      have B3 := (hf3.block w.heap.size (by omega) (by show ¬ (w.heap.size = p); omega)).trans HB0R.out
      have hbw3 : Below w.heap.size w w3 := HBWR.out.trans (hf3.below (B := w.heap.size) (by omega) fun j hj h => by have h : j = p := h; omega)
      have hs3 := hf3.size
      have HV3 := Lib.hid hv3
      have HR3 := Lib.hid hr3
      have HQ3 := Lib.hid Q3
      have HB3 := Lib.hid B3
      have HW3 := Lib.hid hbw3
      clear hv3 hr3 hf3 Q3 B3 hbw3
      go_wp2_with fail
      refine (end_any _ p _ _ HR3.out (by simp) (by simp)).mono ?_
      rw [show (Rd.fin ⟨[], 0⟩) = ⟨[], 0⟩ from rfl]
      rintro e w4 ⟨rfl, hr4, hf4⟩
      have Q4 := (hf4.block w1.heap.size (by omega) (by show ¬ (w1.heap.size = p); omega)).trans HQ3.out
      have B4 := (hf4.block w.heap.size (by omega) (by show ¬ (w.heap.size = p); omega)).trans HB3.out
      have hbw4 : Below w.heap.size w w4 := HW3.out.trans (hf4.below (B := w.heap.size) (by omega) fun j hj h => by have h : j = p := h; omega)
      have hs4 := hf4.size
      have HQ4 := Lib.hid Q4
      have HB4 := Lib.hid B4
      have HW4 := Lib.hid hbw4
      have hkd : ((kd : Int) == 1) = false := by have := HK1.out; simp; omega
      obtain ⟨y0, g0⟩ := blk_cell (i := 0) HQ4.out
      obtain ⟨y1, g1⟩ := blk_cell (i := 1) HQ4.out
      obtain ⟨y2, g2⟩ := blk_cell (i := 2) HQ4.out
      obtain ⟨y3, g3⟩ := blk_cell (i := 3) HQ4.out
      obtain ⟨y4, g4⟩ := blk_cell (i := 4) HQ4.out
      obtain ⟨y5, g5⟩ := blk_cell (i := 5) HQ4.out
      obtain ⟨y6, g6⟩ := blk_cell (i := 6) HQ4.out
      obtain ⟨y7, g7⟩ := blk_cell (i := 7) HQ4.out
      obtain ⟨y8, g8⟩ := blk_cell (i := 8) HQ4.out
      simp [rqC] at y0 y1 y2 y3 y4 y5 y6 y7 y8
      clear hr4 hf4 Q4 B4 hbw4
      have hcv : ∀ W : World, (Go.convert 27 9 (.slice a3 0 c3)).run Tryz.prog W = .ok (.string ByteArray.empty) W := conv_empty HV3.out
      have hw14 : w1.heap.size < w4.heap.size := by omega
      go_wp2_with fail
      refine (mayq_plain ⟨c, lf, s, kd, im, wh, n, TxD.none⟩ none 0 HQ.out _).mono ?_
      rintro e w5 ⟨rfl, hb5⟩
      have hsz : (w4.setCell ⟨w1.heap.size, 7, none⟩ (.string ByteArray.empty)).heap.size = w4.heap.size := by simp [World.setCell]
      have hs5 := hb5.size
      rw [hsz] at hb5 hs5
      have Q5 : w5.heap[w1.heap.size]? = some (.cells (rqC ⟨c, lf, s, kd, im, wh, n, TxD.none⟩ (.slice none 0 0)) 26 (0, 0)) := (hb5.block _ (by omega)).trans (set_blk3 (j := 7) HQ4.out)
      have B5 : w5.heap[w.heap.size]? = some (.cells rq0 26 (0, 0)) := (hb5.block _ (by omega)).trans ((Below.heap_setCell _ ⟨w1.heap.size, 7, none⟩ _ _ (by show w.heap.size ≠ w1.heap.size; omega)).trans HB4.out)
      have HB5 := Lib.hid B5
      have hbw5 : Below w.heap.size w w5 := (HW4.out.setCell (p := ⟨w1.heap.size, 7, none⟩) (by show _ ≤ w1.heap.size; omega) _).trans (hb5.mono (by omega))
      have HW5 := Lib.hid hbw5
      clear hb5 hbw5 y0 y1 y2 y3 y4 y5 y6 y7 y8 g0 g1 g2 g3 g4 g5 g6 g7 g8
      obtain ⟨y0, g0⟩ := blk_cell (i := 0) Q5
      obtain ⟨y1, g1⟩ := blk_cell (i := 1) Q5
      obtain ⟨y2, g2⟩ := blk_cell (i := 2) Q5
      obtain ⟨y3, g3⟩ := blk_cell (i := 3) Q5
      obtain ⟨y4, g4⟩ := blk_cell (i := 4) Q5
      obtain ⟨y5, g5⟩ := blk_cell (i := 5) Q5
      obtain ⟨y6, g6⟩ := blk_cell (i := 6) Q5
      obtain ⟨y7, g7⟩ := blk_cell (i := 7) Q5
      obtain ⟨y8, g8⟩ := blk_cell (i := 8) Q5
      obtain ⟨x0, f0⟩ := blk_cell (i := 0) B5
      obtain ⟨x1, f1⟩ := blk_cell (i := 1) B5
      obtain ⟨x2, f2⟩ := blk_cell (i := 2) B5
      obtain ⟨x3, f3⟩ := blk_cell (i := 3) B5
      obtain ⟨x4, f4⟩ := blk_cell (i := 4) B5
      obtain ⟨x5, f5⟩ := blk_cell (i := 5) B5
      obtain ⟨x6, f6⟩ := blk_cell (i := 6) B5
      obtain ⟨x7, f7⟩ := blk_cell (i := 7) B5
      obtain ⟨x8, f8⟩ := blk_cell (i := 8) B5
      simp [rqC] at y0 y1 y2 y3 y4 y5 y6 y7 y8
      simp [rq0] at x0 x1 x2 x3 x4 x5 x6 x7 x8
      clear Q5 B5
      go_wp2
      refine bodyPost_ret (results_cell_tmp_row rfl _ _ w.heap.size 26 _ (0, 0) _ rfl (set9_blk HB5.out) Tryz.underlying26 rfl (by kernel_rfl)) rfl ?_
      exact ⟨rfl, below9 HW5.out (Nat.le_refl _)⟩
end Go.Proofs.YtlgefkaafoidmaaGreatDoor
