/- The walk of terrazzolaw09.TxnDoes. -/
import Derived.Test.YtgdilkhaopnhaaaGreatDoorMN
import Derived.Test.YtgdilkhaopnhaaaGreatDoorRd9
namespace Go.Proofs.YtgdilkhaopnhaaaGreatDoor
open Go.RowKit Go.WideShapes

theorem runT_keys : ∀ (l : List OpD) (o : ObD) (th : Bool), mayB o = true → (th = false → o = ObD.none) → (runT o th l).o.keys.length ≤ 200
  | [], o, th, hm, _ => by have := ((mayB_iff o).1 hm).2.1; show o.keys.length ≤ 200; omega
  | op :: l, o, th, hm, hn => by
    have hs := stay_of (op := op) hm hn
    by_cases h0 : (doB o th op).e = 0
    · cases hon : (doB o th op).on with
      | true => rw [runT_go h0 hon]; exact runT_keys l _ _ (hs.may h0) (hs.nn h0)
      | false =>
        rw [runT_halt h0 hon]
        have := ((mayB_iff _).1 (hs.may h0)).2.1
        show (doB o th op).o.keys.length ≤ 200
        omega
    · rw [runT_bad h0]; simp [TDoR.no, ObD.none]
theorem txDo_keys (o : ObD) (th : Bool) (t : TxD) : (txDo o th t).o.keys.length ≤ 200 := by
  by_cases h1 : txE t = 0
  · by_cases h2 : mayB o = true
    · rw [txDo_run h1 h2]
      exact runT_keys _ _ _ (mayB_of h2) fun h => by rw [h]; rfl
    · rw [txDo_may h1 (by simpa using h2)]; simp [TDoR.no, ObD.none]
  · rw [txDo_chk h1]; simp [TDoR.no, ObD.none]
theorem TDoRR.ways {x : TDoR} {w w' : World} {e : Ending} (h : TDoRR x w e w') : ∃ a c u q, e = .returned (.tuple #[.agg #[.slice a x.o.data.length c, .slice u x.o.keys.length q, .int .i64 x.o.seq], .bool x.there, .int .i64 x.e]) ∧
    ObV (fun _ => True) w' (.agg #[.slice a x.o.data.length c, .slice u x.o.keys.length q, .int .i64 x.o.seq]) x.o ∧ Below w.heap.size w w' := by
  obtain ⟨dv, kv, rfl, hv, hb⟩ := h
  obtain ⟨d, k, e, hd, hk⟩ := id hv
  simp at e
  obtain ⟨rfl, rfl⟩ := e
  obtain ⟨a, c, rfl⟩ := hd.shape
  obtain ⟨u, q, rfl⟩ := hk.shape
  exact ⟨_, _, _, _, rfl, hv, hb⟩
set_option maxRecDepth 100000 in
set_option maxHeartbeats 16000000 in
theorem tdoes_law (A B : Nat → Prop) (v va : Value) (o : ObD) (th : Bool) (t : TxD) (w : World) (hE : ErrT w) (hv : ObV A w v o) (h : SlE Enc.op B w va t.ops) :
    Calls Tryz.prog 3 #[v, .bool th, .agg #[.string t.obj, va]] w (Says true w) := by
  obtain ⟨dva, kva, rfl, hda, hka⟩ := hv
  obtain ⟨da, dc, rfl⟩ := hda.shape
  obtain ⟨ka, kc, rfl⟩ := hka.shape
  obtain ⟨ta, tc, rfl⟩ := h.shape
  have HA : Hid (ObV A w _ o) := Lib.hid ⟨_, _, rfl, hda, hka⟩
  have HS := Lib.hid h
  have HE := Lib.hid hE
  obtain ⟨ob, ops⟩ := t
  simp only at HS ⊢
  clear hda hka h hE
  go_enter Tryz.func3, Tryz.ntmps3
  go_wp2_with fail
  obtain ⟨w0, hw0⟩ : ∃ w0, w0 = (w.alloc (.cells #[.slice da o.data.length dc, .slice ka o.keys.length kc, .int .i64 o.seq] 25)).alloc (.cells #[.string ob, .slice ta ops.length tc] 28) := ⟨_, rfl⟩
  rw [← hw0]
  have b0 : w0.heap[w.heap.size]? = some (.cells #[.slice da o.data.length dc, .slice ka o.keys.length kc, .int .i64 o.seq] 25 (0, 0)) := by rw [hw0]; exact dnew (heap_alloc_new _ _) _
  have b1 : w0.heap[w.heap.size + 1]? = some (.cells #[.string ob, .slice ta ops.length tc] 28 (0, 0)) := by rw [hw0]; exact heap_alloc2_new _ _ _
  have hw : Below w.heap.size w w0 := by rw [hw0]; ((repeat' (first | exact Below.refl _ _ | refine below_drewN ?_ _ | refine Below.drew ?_ | refine Below.alloc ?_ ?_ _ | refine Below.trans ?_ (Below.mono (by assumption) ?_))); all_goals (first | exact Nat.le_refl _ | exact Below.size (by assumption) | omega | (simp; done) | (simp; omega)))
  clear hw0
  refine (awake9_any _ (HE.out.ext hw)).mono ?_
  rintro e w1 ⟨rfl, hb1⟩
  have HW1 := Lib.hid (dcall hw hb1)
  have P1 := Lib.hid (dblk hb1 b0)
  have R1 := Lib.hid (dblk hb1 b1)
  clear hb1 b0 b1 hw
  obtain ⟨y0, e0⟩ := blk_cell (i := 0) (P1.out)
  obtain ⟨y1, e1⟩ := blk_cell (i := 1) (P1.out)
  obtain ⟨y2, e2⟩ := blk_cell (i := 2) (P1.out)
  simp at y0 y1 y2
  obtain ⟨t0, -⟩ := blk_cell (i := 0) R1.out
  obtain ⟨t1, -⟩ := blk_cell (i := 1) R1.out
  simp at t0 t1
  go_wp2_with fail
  refine (few9_any A B _ _ o ⟨ob, ops⟩ _ (HA.out.ext HW1.out) (HS.out.ext HW1.out)).mono ?_
  rintro e w2 ⟨p1, rfl, hf1, hb2⟩
  have HF1 := Lib.hid hf1
  have HW2 := Lib.hid (dcall HW1.out hb2)
  have P2 := Lib.hid (dblk hb2 P1.out)
  have R2 := Lib.hid (dblk hb2 R1.out)
  clear hb2 P1 R1 HW1 hf1 y0 y1 y2 e0 e1 e2 t0 t1
  obtain ⟨y0, e0⟩ := blk_cell (i := 0) (P2.out)
  obtain ⟨y1, e1⟩ := blk_cell (i := 1) (P2.out)
  obtain ⟨y2, e2⟩ := blk_cell (i := 2) (P2.out)
  simp at y0 y1 y2
  obtain ⟨t0, -⟩ := blk_cell (i := 0) R2.out
  obtain ⟨t1, -⟩ := blk_cell (i := 1) R2.out
  simp at t0 t1
  rcases p1 with _ | _
  · go_wp2
    go_ret
    exact ⟨rfl, HW2.out⟩
  have HFP := Lib.hid (HF1.out rfl)
  have hko := HFP.out.keys
  have hdo := fun v va W h1 h2 h3 => tdo_any A B v va o th ⟨ob, ops⟩ W h1 HFP.out.okl h2 HFP.out.dat h3
  have hrd := fun v va W h1 h2 => rtdo_any A B v va o th ⟨ob, ops⟩ W h1 (by omega) h2 HFP.out.dat
  have hck := fun va W h1 => tcheck_any B ⟨ob, ops⟩ va W h1
  have hrc := fun va W h1 => rcheck9_any B ⟨ob, ops⟩ va W h1
  have hkk := txDo_keys o th ⟨ob, ops⟩
  simp only at hdo hrd hck hrc
  generalize txDo o th ⟨ob, ops⟩ = X at *
  generalize txE ⟨ob, ops⟩ = E at *
  obtain ⟨xo, xt, xe⟩ := X
  have HDO := Lib.hid hdo
  have HRD := Lib.hid hrd
  have HCK := Lib.hid hck
  have HRC := Lib.hid hrc
  have HKK := Lib.hid hkk
  clear hdo hrd hck hrc hkk
  go_wp2_with fail
  refine (HDO.out _ _ _ (HA.out.ext HW2.out) (HS.out.ext HW2.out) (HE.out.ext HW2.out)).mono ?_
  intro e w3 h3
  obtain ⟨a3, c3, u3, q3, rfl, hv3, hb3⟩ := h3.ways
  have HW3 := Lib.hid (dcall HW2.out hb3)
  have P3 := Lib.hid (dblk hb3 P2.out)
  have R3 := Lib.hid (dblk hb3 R2.out)
  have HV3 : Hid (ObV _ w3 (.agg #[.slice a3 xo.data.length c3, .slice u3 xo.keys.length q3, .int .i64 xo.seq]) xo) := Lib.hid hv3.obv
  clear h3 hv3 hb3 P2 R2 HW2 y0 y1 y2 e0 e1 e2 t0 t1
  go_upto_region 8 with fail
  obtain ⟨w4, hw4⟩ : ∃ w4, w4 = w3.alloc (.cells #[.slice a3 xo.data.length c3, .slice u3 xo.keys.length q3, .int .i64 xo.seq] 25) := ⟨_, rfl⟩
  rw [← hw4]
  have hb4 : Below w3.heap.size w3 w4 := by rw [hw4]; ((repeat' (first | exact Below.refl _ _ | refine below_drewN ?_ _ | refine Below.drew ?_ | refine Below.alloc ?_ ?_ _ | refine Below.trans ?_ (Below.mono (by assumption) ?_))); all_goals (first | exact Nat.le_refl _ | exact Below.size (by assumption) | omega | (simp; done) | (simp; omega)))
  have HW4 := Lib.hid (dcall HW3.out hb4)
  have Q4 := Lib.hid (show w4.heap[w3.heap.size]? = some (.cells #[.slice a3 xo.data.length c3, .slice u3 xo.keys.length q3, .int .i64 xo.seq] 25 (0, 0)) from by rw [hw4]; exact heap_alloc_new _ _)
  have HV4 := Lib.hid (HV3.out.ext hb4)
  have P4 := Lib.hid (dblk hb4 P3.out)
  have R4 := Lib.hid (dblk hb4 R3.out)
  clear hw4 hb4 P3 R3 HV3 HW3
  obtain ⟨y0, e0⟩ := blk_cell (i := 0) (P4.out)
  obtain ⟨y1, e1⟩ := blk_cell (i := 1) (P4.out)
  obtain ⟨y2, e2⟩ := blk_cell (i := 2) (P4.out)
  simp at y0 y1 y2
  obtain ⟨t0, -⟩ := blk_cell (i := 0) R4.out
  obtain ⟨t1, -⟩ := blk_cell (i := 1) R4.out
  simp at t0 t1
  go_wp2_with fail
  refine (HRD.out _ _ _ (HA.out.ext HW4.out) (HS.out.ext HW4.out)).mono ?_
  intro e w5 h5
  obtain ⟨a5, c5, u5, q5, rfl, hv5, hb5⟩ := h5.ways
  have HW5 := Lib.hid (dcall HW4.out hb5)
  have Q5 := Lib.hid (dblk hb5 Q4.out)
  have HV5 : Hid (ObV (fun _ => True) w5 (.agg #[.slice a5 xo.data.length c5, .slice u5 xo.keys.length q5, .int .i64 xo.seq]) xo) := Lib.hid hv5
  have HX5 := Lib.hid (HV4.out.ext hb5)
  have R5 := Lib.hid (dblk hb5 R4.out)
  clear h5 hv5 hb5 Q4 HV4 P4 R4 HW4 y0 y1 y2 e0 e1 e2 t0 t1
  go_upto_region 9 with fail
  obtain ⟨w6, hw6⟩ : ∃ w6, w6 = w5.alloc (.cells #[.slice a5 xo.data.length c5, .slice u5 xo.keys.length q5, .int .i64 xo.seq] 25) := ⟨_, rfl⟩
  rw [← hw6]
  have hb6 : Below w5.heap.size w5 w6 := by rw [hw6]; ((repeat' (first | exact Below.refl _ _ | refine below_drewN ?_ _ | refine Below.drew ?_ | refine Below.alloc ?_ ?_ _ | refine Below.trans ?_ (Below.mono (by assumption) ?_))); all_goals (first | exact Nat.le_refl _ | exact Below.size (by assumption) | omega | (simp; done) | (simp; omega)))
  have Z6 := show w6.heap[w5.heap.size]? = some (.cells #[.slice a5 xo.data.length c5, .slice u5 xo.keys.length q5, .int .i64 xo.seq] 25 (0, 0)) from by rw [hw6]; exact heap_alloc_new _ _
  have HW6 := Lib.hid (dcall HW5.out hb6)
  have Q6 := dblk hb6 Q5.out
  have R6 := dblk hb6 R5.out
  have x0 : ∀ n : After w6, n.w.cell? ⟨w3.heap.size, 0, none⟩ = some (.slice a3 xo.data.length c3) := after_cell (three_cells Q6).1
  have x1 : ∀ n : After w6, n.w.cell? ⟨w3.heap.size, 1, none⟩ = some (.slice u3 xo.keys.length q3) := after_cell (three_cells Q6).2.1
  have x2 : ∀ n : After w6, n.w.cell? ⟨w3.heap.size, 2, none⟩ = some (.int .i64 xo.seq) := after_cell (three_cells Q6).2.2
  have z0 : ∀ n : After w6, n.w.cell? ⟨w5.heap.size, 0, none⟩ = some (.slice a5 xo.data.length c5) := after_cell (three_cells Z6).1
  have z1 : ∀ n : After w6, n.w.cell? ⟨w5.heap.size, 1, none⟩ = some (.slice u5 xo.keys.length q5) := after_cell (three_cells Z6).2.1
  have z2 : ∀ n : After w6, n.w.cell? ⟨w5.heap.size, 2, none⟩ = some (.int .i64 xo.seq) := after_cell (three_cells Z6).2.2
  have t0 : ∀ n : After w6, n.w.cell? ⟨w.heap.size + 1, 0, none⟩ = some (.string ob) := after_cell (blk_cell (i := 0) R6).1
  have t1 : ∀ n : After w6, n.w.cell? ⟨w.heap.size + 1, 1, none⟩ = some (.slice ta ops.length tc) := after_cell (blk_cell (i := 1) R6).1
  have HSM : Hid (∀ n : After w6, Calls Tryz.prog 15 #[.agg #[.slice a3 xo.data.length c3, .slice u3 xo.keys.length q3, .int .i64 xo.seq], .agg #[.slice a5 xo.data.length c5, .slice u5 xo.keys.length q5, .int .i64 xo.seq]] n.w fun e w' => e = .returned (.bool true) ∧ Below n.w.heap.size n.w w') := Lib.hid fun n => by
    have h := rsame_any _ _ xo xo _ _ n.w ((HX5.out.ext hb6).ext n.h) ((HV5.out.ext hb6).ext n.h) (Nat.le_trans HKK.out (by decide)) (Nat.le_trans HKK.out (by decide))
    rw [sameB_self] at h
    exact h
  have HSS := Lib.hid (HS.out.ext HW6.out)
  have g1 : (E == E) = true := by simp
  have g2 : (xe == xe) = true := by simp
  have g3 : (xt == xt) = true := by simp
  clear hw6 hb6 Z6 Q6 R6 Q5 HV5 HX5 R5 HW5
  (refine wp_region_after (by kernel_rfl) (by kernel_rfl) ?_
   repeat (first | go_big_quiet_skip | (go_big_quiet_want; go_big_quiet_op; (first | go_big_quiet_on | (apply Exists.intro; refine ⟨fun _ => ?_, ?_⟩; (focus ((first | (go_at_call 13; exact calls_after (HCK.out _ _ (HSS.out.ext (After.h _)))) | (go_at_call 14; exact calls_after (HRC.out _ _ (HSS.out.ext (After.h _)))) | (go_at_call 15; exact calls_after (HSM.out _))))); go_big_quiet_on))))
   refine wpQuiet_nil ?_
   intro _ hw'
   obtain ⟨nq, hw''⟩ := hw'
   subst hw''
   have hq := nq.h)
  have HQ := Lib.hid hq
  clear hq
  go_wp2
  go_ret
  exact ⟨rfl, dcall HW6.out HQ.out⟩
end Go.Proofs.YtgdilkhaopnhaaaGreatDoor
