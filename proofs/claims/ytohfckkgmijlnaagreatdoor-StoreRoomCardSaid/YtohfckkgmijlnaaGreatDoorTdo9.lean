/- The walk of txn.Do, whole. -/
import Derived.Test.YtohfckkgmijlnaaGreatDoorTd9
import Derived.BigRegion
import Derived.Stop.IfaceNil
namespace Go.Proofs.YtohfckkgmijlnaaGreatDoor
open Go.RowKit Go.WideShapes

set_option maxRecDepth 100000 in
set_option maxHeartbeats 16000000 in
theorem tdo_any (A B : Nat → Prop) (v va : Value) (o : ObD) (th : Bool) (t : TxD) (w : World) (hv : ObV A w v o) (ho : o.okl) (h : SlE Enc.op B w va t.ops) (hop : ∀ op ∈ t.ops, op.data.length ≤ 50000) (hE : ErrT w) :
    Calls Tryz.prog 26 #[v, .bool th, .agg #[.string t.obj, va]] w (TDoOut (txDo o th t) w) := by
  obtain ⟨dv0, kv0, rfl, hdd, hkk⟩ := hv
  obtain ⟨da, dc, rfl⟩ := hdd.shape
  obtain ⟨ka, kc, rfl⟩ := hkk.shape
  have HOV : Hid (ObV A w _ o) := Lib.hid ⟨_, _, rfl, hdd, hkk⟩
  obtain ⟨ta, tc, rfl⟩ := h.shape
  obtain ⟨ob, ops⟩ := t
  simp only at *
  have HS := Lib.hid (SlE.cut h)
  have HOP := Lib.hid hop
  have HER := Lib.hid hE
  have HOK := Lib.hid ho
  have hko := ho.keys
  clear hdd hkk h hop hE ho
  have hmf : ∀ (fn : Fn) (first cap : Array Value) (w : World), (Instr.makeFunc fn first cap).run Tryz.prog w = .ok (.func fn first cap) w := fun _ _ _ _ => rfl
  go_enter_defers Tryz.func26, Tryz.ntmps26
  go_wp2_with fail
  obtain ⟨w0, hw0⟩ : ∃ w0, w0 = ((((w.alloc (.cells #[.slice da o.data.length dc, .slice ka o.keys.length kc, .int .i64 o.seq] 41)).alloc (.cells #[.string ob, .slice ta ops.length tc] 33)).alloc (.cells #[.slice none 0 0, .slice none 0 0, .int .i64 0] 41)).alloc (.cells #[.bool false] 4)).alloc (.cells #[.int .i64 0] 34) := ⟨_, rfl⟩
  rw [← hw0]
  have b0 : w0.heap[w.heap.size]? = some (.cells #[.slice da o.data.length dc, .slice ka o.keys.length kc, .int .i64 o.seq] 41 (0, 0)) := by rw [hw0]; exact dnew (dnew (dnew (dnew (heap_alloc_new _ _) _) _) _) _
  have b1 : w0.heap[w.heap.size + 1]? = some (.cells #[.string ob, .slice ta ops.length tc] 33 (0, 0)) := by rw [hw0]; exact dnew (dnew (dnew (heap_alloc2_new _ _ _) _) _) _
  have b2 : w0.heap[w.heap.size + 2]? = some (.cells #[.slice none 0 0, .slice none 0 0, .int .i64 0] 41 (0, 0)) := by rw [hw0]; refine dnew (dnew ?_ _) _; have h := fun (W : World) o' => heap_alloc_new W o'; have := h ((w.alloc (.cells #[.slice da o.data.length dc, .slice ka o.keys.length kc, .int .i64 o.seq] 41)).alloc (.cells #[.string ob, .slice ta ops.length tc] 33)) (.cells #[.slice none 0 0, .slice none 0 0, .int .i64 0] 41); simpa using this
  have b3 : w0.heap[w.heap.size + 3]? = some (.cells #[.bool false] 4 (0, 0)) := by rw [hw0]; refine dnew ?_ _; have h := fun (W : World) o' => heap_alloc_new W o'; have := h (((w.alloc (.cells #[.slice da o.data.length dc, .slice ka o.keys.length kc, .int .i64 o.seq] 41)).alloc (.cells #[.string ob, .slice ta ops.length tc] 33)).alloc (.cells #[.slice none 0 0, .slice none 0 0, .int .i64 0] 41)) (.cells #[.bool false] 4); simpa using this
  have b4 : w0.heap[w.heap.size + 4]? = some (.cells #[.int .i64 0] 34 (0, 0)) := by rw [hw0]; have h := fun (W : World) o' => heap_alloc_new W o'; have := h ((((w.alloc (.cells #[.slice da o.data.length dc, .slice ka o.keys.length kc, .int .i64 o.seq] 41)).alloc (.cells #[.string ob, .slice ta ops.length tc] 33)).alloc (.cells #[.slice none 0 0, .slice none 0 0, .int .i64 0] 41)).alloc (.cells #[.bool false] 4)) (.cells #[.int .i64 0] 34); simpa using this
  have hw : Below w.heap.size w w0 := by rw [hw0]; ((repeat' (first | exact Below.refl _ _ | refine below_drewN ?_ _ | refine Below.drew ?_ | refine Below.alloc ?_ ?_ _ | refine Below.trans ?_ (Below.mono (by assumption) ?_))); all_goals (first | exact Nat.le_refl _ | exact Below.size (by assumption) | omega | (simp; done) | (simp; omega)))
  clear hw0
  refine (tcheck_any _ ⟨ob, ops⟩ _ _ (HS.out.ext hw)).mono ?_
  rintro e w1 ⟨rfl, hb1⟩
  have HW1 := Lib.hid (dcall hw hb1)
  have P1 := Lib.hid (dblk hb1 b0)
  have T1 := Lib.hid (dblk hb1 b1)
  have O1 := Lib.hid (dblk hb1 b2)
  have I1 := Lib.hid (dblk hb1 b3)
  have E1 := Lib.hid (dblk hb1 b4)
  clear hb1 b0 b1 b2 b3 b4 hw
  by_cases hE : txE ⟨ob, ops⟩ = 0
  · have HE := Lib.hid hE
    rw [hE]
    clear hE
    obtain ⟨y0, e0⟩ := blk_cell (i := 0) (P1.out)
    obtain ⟨y1, e1⟩ := blk_cell (i := 1) (P1.out)
    obtain ⟨y2, e2⟩ := blk_cell (i := 2) (P1.out)
    simp at y0 y1 y2
    go_wp2_with fail
    refine (check_any _ _ o _ (HOV.out.ext HW1.out) (by omega)).mono ?_
    unfold ChkR
    rintro e w2 ⟨rfl, hb2⟩
    have HW2 := Lib.hid (dcall HW1.out hb2)
    have P2 := Lib.hid (dblk hb2 P1.out)
    have T2 := Lib.hid (dblk hb2 T1.out)
    have O2 := Lib.hid (dblk hb2 O1.out)
    have I2 := Lib.hid (dblk hb2 I1.out)
    have E2 := Lib.hid (dblk hb2 E1.out)
    clear hb2 P1 T1 O1 I1 E1 HW1 y0 y1 y2 e0 e1 e2
    cases hm : mayB o with
    | false =>
      have HX := Lib.hid (txDo_may (th := th) HE.out hm)
      clear hm
      obtain ⟨x0, f0⟩ := blk_cell (i := 0) (O2.out)
      obtain ⟨x1, f1⟩ := blk_cell (i := 1) (O2.out)
      obtain ⟨x2, f2⟩ := blk_cell (i := 2) (O2.out)
      simp at x0 x1 x2
      obtain ⟨y0, g0⟩ := blk_cell (i := 0) I2.out
      obtain ⟨z0, k0⟩ := blk_cell (i := 0) E2.out
      simp at y0 z0
      go_wp2
      go_region
      all_goals go_wp2
      obtain ⟨wd, hwd⟩ : ∃ wd, wd = (((((w2.setCell ⟨w.heap.size + 1 + 1, 0, none⟩ (.slice none 0 0)).setCell ⟨w.heap.size + 1 + 1, 1, none⟩ (.slice none 0 0)).setCell ⟨w.heap.size + 1 + 1, 2, none⟩ (.int .i64 0)).setCell ⟨w.heap.size + 1 + 1 + 1, 0, none⟩ (.bool false)).setCell ⟨w.heap.size + 1 + 1 + 1 + 1, 0, none⟩ (.int .i64 1)) := ⟨_, rfl⟩
      rw [← hwd]
      have c := door_blks (x := .slice none 0 0) (y := .slice none 0 0) (z := .int .i64 0) (u := .bool false) (v := .int .i64 1) O2.out I2.out E2.out
      have c1 : wd.heap[w.heap.size + 1 + 1]? = some (.cells #[.slice none 0 0, .slice none 0 0, .int .i64 0] 41 (0, 0)) := by rw [hwd]; exact c.1
      have c2 : wd.heap[w.heap.size + 1 + 1 + 1]? = some (.cells #[.bool false] 4 (0, 0)) := by rw [hwd]; exact c.2.1
      have c3 : wd.heap[w.heap.size + 1 + 1 + 1 + 1]? = some (.cells #[.int .i64 1] 34 (0, 0)) := by rw [hwd]; exact c.2.2
      have c4 : Below w.heap.size w wd := by rw [hwd]; exact (((below3 HW2.out (show w.heap.size ≤ w.heap.size + 1 + 1 by omega) _ _ _).setCell (show w.heap.size ≤ w.heap.size + 1 + 1 + 1 by omega) _).setCell (show w.heap.size ≤ w.heap.size + 1 + 1 + 1 + 1 by omega) _)
      clear hwd c
      refine tdo_door (p := w.heap.size) (o := ObD.none) (b := false) (E := 1) ?_ ?_ ?_ c1 c2 c3 (Own8.none _ _) c4.drew (Nat.le_refl _) (.inr ⟨by decide, HX.out⟩)
      · rfl
      · rfl
      · rfl
    | true =>
      have HM := Lib.hid hm
      obtain ⟨X, hX⟩ : ∃ X, X = txDo o th ⟨ob, ops⟩ := ⟨_, rfl⟩
      have HXE := Lib.hid hX.symm
      obtain ⟨V, hV⟩ : ∃ V, V = (if th then o else ObD.none) := ⟨_, rfl⟩
      have HMV : Hid (mayB V = true) := Lib.hid (by rw [hV]; exact mayB_of hm)
      have HNV : Hid (th = false → V = ObD.none) := Lib.hid (fun h => by rw [hV, h]; rfl)
      have HXV : Hid (runT V th ops = X) := Lib.hid (by rw [hX, txDo_run HE.out hm, hV]; rfl)
      have HV := Lib.hid hV
      have hle := (txE_ok' HE.out).1
      simp only at hle
      clear hX hV hm
      cases th with
      | true =>
        obtain rfl : V = o := HV.out
        obtain ⟨wc, hwc⟩ : ∃ wc, wc = w2 := ⟨_, rfl⟩
        subst hwc
        have HP := Lib.hid P2.out
        have HVV := Lib.hid (HOV.out.ext HW2.out)
        have HT := Lib.hid T2.out
        have HO := Lib.hid O2.out
        have HI := Lib.hid I2.out
        have HEE := Lib.hid E2.out
        have HB := Lib.hid HW2.out
        clear P2 T2 O2 I2 E2 HW2 HV
        obtain ⟨y0, e0⟩ := blk_cell (i := 0) (HP.out)
        obtain ⟨y1, e1⟩ := blk_cell (i := 1) (HP.out)
        obtain ⟨y2, e2⟩ := blk_cell (i := 2) (HP.out)
        simp at y0 y1 y2
        go_wp2_with fail
        refine (objclone_own _ _ V _ HVV.out (okl_of HMV.out)).mono ?_
        rintro e w4 ⟨dv4, kv4, rfl, h4, hb4⟩
        obtain ⟨⟨a4, c4, rfl⟩, ⟨u4, q4, rfl⟩⟩ := own8_shape h4
        have hs4 : w.heap.size + 4 < wc.heap.size := (Array.getElem?_eq_some_iff.1 HEE.out).1
        have H4 := Lib.hid (h4.base_le (base' := w.heap.size) (by omega))
        have T4 := Lib.hid (dblk hb4 HT.out)
        have O4 := Lib.hid (dblk hb4 HO.out)
        have I4 := Lib.hid (dblk hb4 HI.out)
        have E4 := Lib.hid (dblk hb4 HEE.out)
        have HW4 := Lib.hid (dcall HB.out hb4)
        have hs5 : w.heap.size + 4 < w4.heap.size := by have := hb4.size; omega
        clear h4 hb4 HP HVV HT HO HI HEE HB y0 y1 y2 e0 e1 e2
        go_upto_region 11 with fail
        obtain ⟨w5, hw5⟩ : ∃ w5, w5 = w4.alloc (.cells #[.slice a4 V.data.length c4, .slice u4 V.keys.length q4, .int .i64 V.seq, .bool true] 81) := ⟨_, rfl⟩
        rw [← hw5]
        have hb5 : Below w4.heap.size w4 w5 := by rw [hw5]; ((repeat' (first | exact Below.refl _ _ | refine below_drewN ?_ _ | refine Below.drew ?_ | refine Below.alloc ?_ ?_ _ | refine Below.trans ?_ (Below.mono (by assumption) ?_))); all_goals (first | exact Nat.le_refl _ | exact Below.size (by assumption) | omega | (simp; done) | (simp; omega)))
        have TH5 : Hid (IsTh w.heap.size w4.heap.size w5 (.slice a4 V.data.length c4) (.slice u4 V.keys.length q4) V true) := Lib.hid ⟨by rw [hw5]; exact heap_alloc_new _ _, H4.out.keep (Same.of_ext hb5)⟩
        have T5 := Lib.hid (dblk hb5 T4.out)
        have O5 := Lib.hid (dblk hb5 O4.out)
        have I5 := Lib.hid (dblk hb5 I4.out)
        have E5 := Lib.hid (dblk hb5 E4.out)
        have HW5 := Lib.hid (dcall HW4.out hb5)
        have hs6 : w4.heap.size < w5.heap.size := by rw [hw5]; simp
        obtain ⟨t1, -⟩ := blk_cell (i := 1) T5.out
        simp at t1
        clear hw5 hb5 T4 O4 I4 E4 H4 HW4
        generalize w4.heap.size = p at *
        have hge : 0 < w.heap.size := World.block_lt_of_cell? w _ HER.out
        go_wp2_with fail
        refine (th_any w.heap.size p (fun b => B b ∧ b < w.heap.size) _ _ _ V true ops w5 TH5.out HMV.out (by first | exact HNV.out | exact fun _ => HNV.out trivial) (HS.out.ext HW5.out) (fun h => by omega) HOP.out (HER.out.ext HW5.out) (by omega) HW5.out.size (by omega)).mono ?_
        rw [HXV.out]
        rintro e w6 ⟨ev, dv6, kv6, o6, th6, rfl, hev, hT6, hr6, hf6⟩
        obtain ⟨⟨a6, c6, rfl⟩, ⟨u6, q6, rfl⟩⟩ := own8_shape hT6.own
        have TH6 := Lib.hid hT6
        have HR6 := Lib.hid hr6
        have O6 := Lib.hid ((hf6.block _ (by omega) (by omega)).trans O5.out)
        have I6 := Lib.hid ((hf6.block _ (by omega) (by omega)).trans I5.out)
        have E6 := Lib.hid ((hf6.block _ (by omega) (by omega)).trans E5.out)
        have HW6 : Hid (Below w.heap.size w w6) := Lib.hid (HW5.out.trans (hf6.below HW5.out.size fun j hj h => by omega))
        have hs7 : w5.heap.size ≤ w6.heap.size := hf6.size
        clear hT6 hr6 hf6 TH5 T5 O5 I5 E5 HW5 t1
        obtain ⟨⟨y0, e0⟩, ⟨y1, e1⟩, ⟨y2, e2⟩, ⟨y3, e3⟩⟩ := four_cells TH6.out.blk
        obtain ⟨x0, f0⟩ := blk_cell (i := 0) (O6.out)
        obtain ⟨x1, f1⟩ := blk_cell (i := 1) (O6.out)
        obtain ⟨x2, f2⟩ := blk_cell (i := 2) (O6.out)
        simp at x0 x1 x2
        obtain ⟨i0, g0⟩ := blk_cell (i := 0) I6.out
        obtain ⟨z0, k0⟩ := blk_cell (i := 0) E6.out
        simp at i0 z0
        rcases hev with ⟨hr0, rfl | rfl⟩ | ⟨hr0, rfl⟩
        · obtain ⟨rfl, rfl⟩ := HR6.out hr0
          have HX0 : Hid (X = ⟨X.o, X.there, 0⟩) := Lib.hid (by cases X; simp only at hr0; rw [hr0])
          obtain ⟨o6, ho6⟩ : ∃ o6, o6 = X.o := ⟨_, rfl⟩
          obtain ⟨b6, hb6⟩ : ∃ b6, b6 = X.there := ⟨_, rfl⟩
          rw [← ho6, ← hb6] at HX0
          simp only [← ho6, ← hb6] at *
          clear hr0 ho6 hb6 HR6
          go_wp2_with fail
          go_region
          all_goals go_wp2
          obtain ⟨wd, hwd⟩ : ∃ wd, wd = (((((w6.setCell ⟨w.heap.size + 1 + 1, 0, none⟩ (.slice a6 o6.data.length c6)).setCell ⟨w.heap.size + 1 + 1, 1, none⟩ (.slice u6 o6.keys.length q6)).setCell ⟨w.heap.size + 1 + 1, 2, none⟩ (.int .i64 o6.seq)).setCell ⟨w.heap.size + 1 + 1 + 1, 0, none⟩ (.bool b6)).setCell ⟨w.heap.size + 1 + 1 + 1 + 1, 0, none⟩ (.int .i64 0)) := ⟨_, rfl⟩
          rw [← hwd]
          have c := door_blks (x := .slice a6 o6.data.length c6) (y := .slice u6 o6.keys.length q6) (z := .int .i64 o6.seq) (u := .bool b6) (v := .int .i64 0) O6.out I6.out E6.out
          have c1 : wd.heap[w.heap.size + 1 + 1]? = some (.cells #[.slice a6 o6.data.length c6, .slice u6 o6.keys.length q6, .int .i64 o6.seq] 41 (0, 0)) := by rw [hwd]; exact c.1
          have c2 : wd.heap[w.heap.size + 1 + 1 + 1]? = some (.cells #[.bool b6] 4 (0, 0)) := by rw [hwd]; exact c.2.1
          have c3 : wd.heap[w.heap.size + 1 + 1 + 1 + 1]? = some (.cells #[.int .i64 0] 34 (0, 0)) := by rw [hwd]; exact c.2.2
          have c4 : Below w.heap.size w wd := by rw [hwd]; exact (((below3 HW6.out (show w.heap.size ≤ w.heap.size + 1 + 1 by omega) _ _ _).setCell (show w.heap.size ≤ w.heap.size + 1 + 1 + 1 by omega) _).setCell (show w.heap.size ≤ w.heap.size + 1 + 1 + 1 + 1 by omega) _)
          have c5 : Own8 w.heap.size wd (.slice a6 o6.data.length c6) (.slice u6 o6.keys.length q6) o6 := by rw [hwd]; exact own_door TH6.out.own O6.out I6.out E6.out
          clear hwd c
          refine tdo_door (p := w.heap.size) (o := o6) (b := b6) (E := 0) ?_ ?_ ?_ c1 c2 c3 (c5.keep (Same.drew (Same.refl _ _))) c4.drew (Nat.le_refl _) (.inl ⟨rfl, HXE.out.trans HX0.out⟩)
          · rfl
          · rfl
          · rfl
        · obtain ⟨rfl, rfl⟩ := HR6.out hr0
          have HX0 : Hid (X = ⟨X.o, X.there, 0⟩) := Lib.hid (by cases X; simp only at hr0; rw [hr0])
          obtain ⟨o6, ho6⟩ : ∃ o6, o6 = X.o := ⟨_, rfl⟩
          obtain ⟨b6, hb6⟩ : ∃ b6, b6 = X.there := ⟨_, rfl⟩
          rw [← ho6, ← hb6] at HX0
          simp only [← ho6, ← hb6] at *
          have hie := is_enough w6
          unfold enoughV at hie ⊢
          have HIE := Lib.hid hie
          clear hr0 ho6 hb6 HR6 hie
          go_wp2_with fail
          refine HIE.out.mono ?_
          rintro e w7 ⟨rfl, rfl⟩
          go_wp2_with fail
          go_region
          all_goals go_wp2
          obtain ⟨wd, hwd⟩ : ∃ wd, wd = (((((w7.setCell ⟨w.heap.size + 1 + 1, 0, none⟩ (.slice a6 o6.data.length c6)).setCell ⟨w.heap.size + 1 + 1, 1, none⟩ (.slice u6 o6.keys.length q6)).setCell ⟨w.heap.size + 1 + 1, 2, none⟩ (.int .i64 o6.seq)).setCell ⟨w.heap.size + 1 + 1 + 1, 0, none⟩ (.bool b6)).setCell ⟨w.heap.size + 1 + 1 + 1 + 1, 0, none⟩ (.int .i64 0)) := ⟨_, rfl⟩
          rw [← hwd]
          have c := door_blks (x := .slice a6 o6.data.length c6) (y := .slice u6 o6.keys.length q6) (z := .int .i64 o6.seq) (u := .bool b6) (v := .int .i64 0) O6.out I6.out E6.out
          have c1 : wd.heap[w.heap.size + 1 + 1]? = some (.cells #[.slice a6 o6.data.length c6, .slice u6 o6.keys.length q6, .int .i64 o6.seq] 41 (0, 0)) := by rw [hwd]; exact c.1
          have c2 : wd.heap[w.heap.size + 1 + 1 + 1]? = some (.cells #[.bool b6] 4 (0, 0)) := by rw [hwd]; exact c.2.1
          have c3 : wd.heap[w.heap.size + 1 + 1 + 1 + 1]? = some (.cells #[.int .i64 0] 34 (0, 0)) := by rw [hwd]; exact c.2.2
          have c4 : Below w.heap.size w wd := by rw [hwd]; exact (((below3 HW6.out (show w.heap.size ≤ w.heap.size + 1 + 1 by omega) _ _ _).setCell (show w.heap.size ≤ w.heap.size + 1 + 1 + 1 by omega) _).setCell (show w.heap.size ≤ w.heap.size + 1 + 1 + 1 + 1 by omega) _)
          have c5 : Own8 w.heap.size wd (.slice a6 o6.data.length c6) (.slice u6 o6.keys.length q6) o6 := by rw [hwd]; exact own_door TH6.out.own O6.out I6.out E6.out
          clear hwd c
          refine tdo_door (p := w.heap.size) (o := o6) (b := b6) (E := 0) ?_ ?_ ?_ c1 c2 c3 (c5.keep (Same.drew (Same.refl _ _))) c4.drew (Nat.le_refl _) (.inl ⟨rfl, HXE.out.trans HX0.out⟩)
          · rfl
          · rfl
          · rfl
        · have HX0 : Hid (X = TDoR.no X.e) := Lib.hid (by have := runT_no ops V true (by rw [HXV.out]; exact hr0); rw [HXV.out] at this; exact this)
          obtain ⟨E, hE⟩ : ∃ E, E = X.e := ⟨_, rfl⟩
          rw [← hE] at hr0 HX0 ⊢
          have HNE := Lib.hid hr0
          obtain ⟨b6, hb6⟩ : ∃ b6, b6 = th6 := ⟨_, rfl⟩
          subst hb6
          have his := is_errno E w6
          have has := as_errno E ⟨w.heap.size + 1 + 1 + 1 + 1, 0, none⟩ (.int .i64 0) w6 (HER.out.ext HW6.out) (blk_cell E6.out).1 (blk_cell E6.out).2
          unfold errnoV enoughV at his
          unfold errnoV at has ⊢
          have HIS := Lib.hid his
          have HAS := Lib.hid has
          clear hr0 hE HR6 his has
          go_wp2_with fail
          refine HIS.out.mono ?_
          rintro e w7 ⟨rfl, rfl⟩
          go_wp2_with fail
          refine HAS.out.mono ?_
          rintro e w8 ⟨rfl, w9, hb9, rfl⟩
          have TH9 := Lib.hid (TH6.out.ext hb9)
          have O9 := Lib.hid (dblk hb9 O6.out)
          have I9 := Lib.hid (dblk hb9 I6.out)
          have E9 := Lib.hid (dblk hb9 E6.out)
          have HW9 := Lib.hid (dcall HW6.out hb9)
          obtain ⟨wx, hwx⟩ : ∃ wx, wx = w9.setCell ⟨w.heap.size + 1 + 1 + 1 + 1, 0, none⟩ (.int .i64 E) := ⟨_, rfl⟩
          rw [← hwx]
          have THX : Hid (IsTh w.heap.size p wx (.slice a6 o6.data.length c6) (.slice u6 o6.keys.length q6) o6 b6) := Lib.hid ⟨dset1 hwx (show p ≠ w.heap.size + 1 + 1 + 1 + 1 by omega) TH9.out.blk, by rw [hwx]; exact TH9.out.own.past E9.out (by decide) (by decide) (boxI _) (by simp [World.setCell]) fun b hb _ => Below.heap_setCell _ _ _ _ hb⟩
          have OX := Lib.hid (dset1 hwx (show w.heap.size + 2 ≠ w.heap.size + 1 + 1 + 1 + 1 by omega) O9.out)
          have IX := Lib.hid (dset1 hwx (show w.heap.size + 3 ≠ w.heap.size + 1 + 1 + 1 + 1 by omega) I9.out)
          have EX : Hid (wx.heap[w.heap.size + 4]? = some (.cells #[.int .i64 E] 34 (0, 0))) := Lib.hid (by rw [hwx]; exact set1_blk E9.out)
          have HWX := Lib.hid (show Below w.heap.size w wx from by rw [hwx]; exact HW9.out.setCell (show w.heap.size ≤ w.heap.size + 1 + 1 + 1 + 1 by omega) _)
          clear hwx hb9 TH9 O9 I9 E9 HW9 TH6 O6 I6 E6 HW6 y0 e0 y1 e1 y2 e2 y3 e3 x0 x1 x2 f0 f1 f2 i0 g0 z0 k0
          obtain ⟨⟨y0, e0⟩, ⟨y1, e1⟩, ⟨y2, e2⟩, ⟨y3, e3⟩⟩ := four_cells THX.out.blk
          obtain ⟨x0, f0⟩ := blk_cell (i := 0) (OX.out)
          obtain ⟨x1, f1⟩ := blk_cell (i := 1) (OX.out)
          obtain ⟨x2, f2⟩ := blk_cell (i := 2) (OX.out)
          simp at x0 x1 x2
          obtain ⟨i0, g0⟩ := blk_cell (i := 0) IX.out
          obtain ⟨z0, k0⟩ := blk_cell (i := 0) EX.out
          simp at i0 z0
          go_wp2_with fail
          go_region
          all_goals go_wp2
          obtain ⟨wd, hwd⟩ : ∃ wd, wd = (((((wx.setCell ⟨w.heap.size + 1 + 1, 0, none⟩ (.slice a6 o6.data.length c6)).setCell ⟨w.heap.size + 1 + 1, 1, none⟩ (.slice u6 o6.keys.length q6)).setCell ⟨w.heap.size + 1 + 1, 2, none⟩ (.int .i64 o6.seq)).setCell ⟨w.heap.size + 1 + 1 + 1, 0, none⟩ (.bool b6)).setCell ⟨w.heap.size + 1 + 1 + 1 + 1, 0, none⟩ (.int .i64 E)) := ⟨_, rfl⟩
          rw [← hwd]
          have c := door_blks (x := .slice a6 o6.data.length c6) (y := .slice u6 o6.keys.length q6) (z := .int .i64 o6.seq) (u := .bool b6) (v := .int .i64 E) OX.out IX.out EX.out
          have c1 : wd.heap[w.heap.size + 1 + 1]? = some (.cells #[.slice a6 o6.data.length c6, .slice u6 o6.keys.length q6, .int .i64 o6.seq] 41 (0, 0)) := by rw [hwd]; exact c.1
          have c2 : wd.heap[w.heap.size + 1 + 1 + 1]? = some (.cells #[.bool b6] 4 (0, 0)) := by rw [hwd]; exact c.2.1
          have c3 : wd.heap[w.heap.size + 1 + 1 + 1 + 1]? = some (.cells #[.int .i64 E] 34 (0, 0)) := by rw [hwd]; exact c.2.2
          have c4 : Below w.heap.size w wd := by rw [hwd]; exact (((below3 HWX.out (show w.heap.size ≤ w.heap.size + 1 + 1 by omega) _ _ _).setCell (show w.heap.size ≤ w.heap.size + 1 + 1 + 1 by omega) _).setCell (show w.heap.size ≤ w.heap.size + 1 + 1 + 1 + 1 by omega) _)
          have c5 : Own8 w.heap.size wd (.slice a6 o6.data.length c6) (.slice u6 o6.keys.length q6) o6 := by rw [hwd]; exact own_door THX.out.own OX.out IX.out EX.out
          clear hwd c
          refine tdo_door (p := w.heap.size) (o := o6) (b := b6) (E := E) ?_ ?_ ?_ c1 c2 c3 (c5.keep (Same.drew (Same.refl _ _))) c4.drew (Nat.le_refl _) (.inr ⟨HNE.out, HXE.out.trans HX0.out⟩)
          · rfl
          · rfl
          · rfl
      | false =>
        obtain rfl : V = ObD.none := HV.out
        obtain ⟨y0, e0⟩ := blk_cell (i := 0) (P2.out)
        obtain ⟨y1, e1⟩ := blk_cell (i := 1) (P2.out)
        obtain ⟨y2, e2⟩ := blk_cell (i := 2) (P2.out)
        simp at y0 y1 y2
        go_upto_region 10 with fail
        obtain ⟨wc, hwc⟩ : ∃ wc, wc = ((w2.setCell ⟨w.heap.size, 0, none⟩ (.slice none 0 0)).setCell ⟨w.heap.size, 1, none⟩ (.slice none 0 0)).setCell ⟨w.heap.size, 2, none⟩ (.int .i64 0) := ⟨_, rfl⟩
        rw [← hwc]
        obtain ⟨V, hVV⟩ : ∃ V, V = ObD.none := ⟨_, rfl⟩
        rw [← hVV] at HMV HXV
        replace HNV : Hid (false = false → V = ObD.none) := Lib.hid fun _ => hVV
        have HP := Lib.hid (show wc.heap[w.heap.size]? = some (.cells #[.slice none V.data.length 0, .slice none V.keys.length 0, .int .i64 V.seq] 41 (0, 0)) from by rw [hwc, hVV]; exact set3_blk P2.out)
        have HVV : Hid (ObV A wc (.agg #[.slice none V.data.length 0, .slice none V.keys.length 0, .int .i64 V.seq]) V) := Lib.hid (by rw [hVV]; exact obv_none _ _)
        have HT := Lib.hid (dset3 hwc (by simp) T2.out)
        have HO := Lib.hid (dset3 hwc (by simp) O2.out)
        have HI := Lib.hid (dset3 hwc (by simp) I2.out)
        have HEE := Lib.hid (dset3 hwc (by simp) E2.out)
        have HB := Lib.hid (show Below w.heap.size w wc from by rw [hwc]; exact below3 HW2.out (Nat.le_refl _) _ _ _)
        clear P2 T2 O2 I2 E2 HW2 HV hwc hVV y0 y1 y2 e0 e1 e2
        obtain ⟨y0, e0⟩ := blk_cell (i := 0) (HP.out)
        obtain ⟨y1, e1⟩ := blk_cell (i := 1) (HP.out)
        obtain ⟨y2, e2⟩ := blk_cell (i := 2) (HP.out)
        simp at y0 y1 y2
        go_wp2_with fail
        refine (objclone_own _ _ V _ HVV.out (okl_of HMV.out)).mono ?_
        rintro e w4 ⟨dv4, kv4, rfl, h4, hb4⟩
        obtain ⟨⟨a4, c4, rfl⟩, ⟨u4, q4, rfl⟩⟩ := own8_shape h4
        have hs4 : w.heap.size + 4 < wc.heap.size := (Array.getElem?_eq_some_iff.1 HEE.out).1
        have H4 := Lib.hid (h4.base_le (base' := w.heap.size) (by omega))
        have T4 := Lib.hid (dblk hb4 HT.out)
        have O4 := Lib.hid (dblk hb4 HO.out)
        have I4 := Lib.hid (dblk hb4 HI.out)
        have E4 := Lib.hid (dblk hb4 HEE.out)
        have HW4 := Lib.hid (dcall HB.out hb4)
        have hs5 : w.heap.size + 4 < w4.heap.size := by have := hb4.size; omega
        clear h4 hb4 HP HVV HT HO HI HEE HB y0 y1 y2 e0 e1 e2
        go_upto_region 11 with fail
        obtain ⟨w5, hw5⟩ : ∃ w5, w5 = w4.alloc (.cells #[.slice a4 V.data.length c4, .slice u4 V.keys.length q4, .int .i64 V.seq, .bool false] 81) := ⟨_, rfl⟩
        rw [← hw5]
        have hb5 : Below w4.heap.size w4 w5 := by rw [hw5]; ((repeat' (first | exact Below.refl _ _ | refine below_drewN ?_ _ | refine Below.drew ?_ | refine Below.alloc ?_ ?_ _ | refine Below.trans ?_ (Below.mono (by assumption) ?_))); all_goals (first | exact Nat.le_refl _ | exact Below.size (by assumption) | omega | (simp; done) | (simp; omega)))
        have TH5 : Hid (IsTh w.heap.size w4.heap.size w5 (.slice a4 V.data.length c4) (.slice u4 V.keys.length q4) V false) := Lib.hid ⟨by rw [hw5]; exact heap_alloc_new _ _, H4.out.keep (Same.of_ext hb5)⟩
        have T5 := Lib.hid (dblk hb5 T4.out)
        have O5 := Lib.hid (dblk hb5 O4.out)
        have I5 := Lib.hid (dblk hb5 I4.out)
        have E5 := Lib.hid (dblk hb5 E4.out)
        have HW5 := Lib.hid (dcall HW4.out hb5)
        have hs6 : w4.heap.size < w5.heap.size := by rw [hw5]; simp
        obtain ⟨t1, -⟩ := blk_cell (i := 1) T5.out
        simp at t1
        clear hw5 hb5 T4 O4 I4 E4 H4 HW4
        generalize w4.heap.size = p at *
        have hge : 0 < w.heap.size := World.block_lt_of_cell? w _ HER.out
        go_wp2_with fail
        refine (th_any w.heap.size p (fun b => B b ∧ b < w.heap.size) _ _ _ V false ops w5 TH5.out HMV.out (by first | exact HNV.out | exact fun _ => HNV.out trivial) (HS.out.ext HW5.out) (fun h => by omega) HOP.out (HER.out.ext HW5.out) (by omega) HW5.out.size (by omega)).mono ?_
        rw [HXV.out]
        rintro e w6 ⟨ev, dv6, kv6, o6, th6, rfl, hev, hT6, hr6, hf6⟩
        obtain ⟨⟨a6, c6, rfl⟩, ⟨u6, q6, rfl⟩⟩ := own8_shape hT6.own
        have TH6 := Lib.hid hT6
        have HR6 := Lib.hid hr6
        have O6 := Lib.hid ((hf6.block _ (by omega) (by omega)).trans O5.out)
        have I6 := Lib.hid ((hf6.block _ (by omega) (by omega)).trans I5.out)
        have E6 := Lib.hid ((hf6.block _ (by omega) (by omega)).trans E5.out)
        have HW6 : Hid (Below w.heap.size w w6) := Lib.hid (HW5.out.trans (hf6.below HW5.out.size fun j hj h => by omega))
        have hs7 : w5.heap.size ≤ w6.heap.size := hf6.size
        clear hT6 hr6 hf6 TH5 T5 O5 I5 E5 HW5 t1
        obtain ⟨⟨y0, e0⟩, ⟨y1, e1⟩, ⟨y2, e2⟩, ⟨y3, e3⟩⟩ := four_cells TH6.out.blk
        obtain ⟨x0, f0⟩ := blk_cell (i := 0) (O6.out)
        obtain ⟨x1, f1⟩ := blk_cell (i := 1) (O6.out)
        obtain ⟨x2, f2⟩ := blk_cell (i := 2) (O6.out)
        simp at x0 x1 x2
        obtain ⟨i0, g0⟩ := blk_cell (i := 0) I6.out
        obtain ⟨z0, k0⟩ := blk_cell (i := 0) E6.out
        simp at i0 z0
        rcases hev with ⟨hr0, rfl | rfl⟩ | ⟨hr0, rfl⟩
        · obtain ⟨rfl, rfl⟩ := HR6.out hr0
          have HX0 : Hid (X = ⟨X.o, X.there, 0⟩) := Lib.hid (by cases X; simp only at hr0; rw [hr0])
          obtain ⟨o6, ho6⟩ : ∃ o6, o6 = X.o := ⟨_, rfl⟩
          obtain ⟨b6, hb6⟩ : ∃ b6, b6 = X.there := ⟨_, rfl⟩
          rw [← ho6, ← hb6] at HX0
          simp only [← ho6, ← hb6] at *
          clear hr0 ho6 hb6 HR6
          go_wp2_with fail
          go_region
          all_goals go_wp2
          obtain ⟨wd, hwd⟩ : ∃ wd, wd = (((((w6.setCell ⟨w.heap.size + 1 + 1, 0, none⟩ (.slice a6 o6.data.length c6)).setCell ⟨w.heap.size + 1 + 1, 1, none⟩ (.slice u6 o6.keys.length q6)).setCell ⟨w.heap.size + 1 + 1, 2, none⟩ (.int .i64 o6.seq)).setCell ⟨w.heap.size + 1 + 1 + 1, 0, none⟩ (.bool b6)).setCell ⟨w.heap.size + 1 + 1 + 1 + 1, 0, none⟩ (.int .i64 0)) := ⟨_, rfl⟩
          rw [← hwd]
          have c := door_blks (x := .slice a6 o6.data.length c6) (y := .slice u6 o6.keys.length q6) (z := .int .i64 o6.seq) (u := .bool b6) (v := .int .i64 0) O6.out I6.out E6.out
          have c1 : wd.heap[w.heap.size + 1 + 1]? = some (.cells #[.slice a6 o6.data.length c6, .slice u6 o6.keys.length q6, .int .i64 o6.seq] 41 (0, 0)) := by rw [hwd]; exact c.1
          have c2 : wd.heap[w.heap.size + 1 + 1 + 1]? = some (.cells #[.bool b6] 4 (0, 0)) := by rw [hwd]; exact c.2.1
          have c3 : wd.heap[w.heap.size + 1 + 1 + 1 + 1]? = some (.cells #[.int .i64 0] 34 (0, 0)) := by rw [hwd]; exact c.2.2
          have c4 : Below w.heap.size w wd := by rw [hwd]; exact (((below3 HW6.out (show w.heap.size ≤ w.heap.size + 1 + 1 by omega) _ _ _).setCell (show w.heap.size ≤ w.heap.size + 1 + 1 + 1 by omega) _).setCell (show w.heap.size ≤ w.heap.size + 1 + 1 + 1 + 1 by omega) _)
          have c5 : Own8 w.heap.size wd (.slice a6 o6.data.length c6) (.slice u6 o6.keys.length q6) o6 := by rw [hwd]; exact own_door TH6.out.own O6.out I6.out E6.out
          clear hwd c
          refine tdo_door (p := w.heap.size) (o := o6) (b := b6) (E := 0) ?_ ?_ ?_ c1 c2 c3 (c5.keep (Same.drew (Same.refl _ _))) c4.drew (Nat.le_refl _) (.inl ⟨rfl, HXE.out.trans HX0.out⟩)
          · rfl
          · rfl
          · rfl
        · obtain ⟨rfl, rfl⟩ := HR6.out hr0
          have HX0 : Hid (X = ⟨X.o, X.there, 0⟩) := Lib.hid (by cases X; simp only at hr0; rw [hr0])
          obtain ⟨o6, ho6⟩ : ∃ o6, o6 = X.o := ⟨_, rfl⟩
          obtain ⟨b6, hb6⟩ : ∃ b6, b6 = X.there := ⟨_, rfl⟩
          rw [← ho6, ← hb6] at HX0
          simp only [← ho6, ← hb6] at *
          have hie := is_enough w6
          unfold enoughV at hie ⊢
          have HIE := Lib.hid hie
          clear hr0 ho6 hb6 HR6 hie
          go_wp2_with fail
          refine HIE.out.mono ?_
          rintro e w7 ⟨rfl, rfl⟩
          go_wp2_with fail
          go_region
          all_goals go_wp2
          obtain ⟨wd, hwd⟩ : ∃ wd, wd = (((((w7.setCell ⟨w.heap.size + 1 + 1, 0, none⟩ (.slice a6 o6.data.length c6)).setCell ⟨w.heap.size + 1 + 1, 1, none⟩ (.slice u6 o6.keys.length q6)).setCell ⟨w.heap.size + 1 + 1, 2, none⟩ (.int .i64 o6.seq)).setCell ⟨w.heap.size + 1 + 1 + 1, 0, none⟩ (.bool b6)).setCell ⟨w.heap.size + 1 + 1 + 1 + 1, 0, none⟩ (.int .i64 0)) := ⟨_, rfl⟩
          rw [← hwd]
          have c := door_blks (x := .slice a6 o6.data.length c6) (y := .slice u6 o6.keys.length q6) (z := .int .i64 o6.seq) (u := .bool b6) (v := .int .i64 0) O6.out I6.out E6.out
          have c1 : wd.heap[w.heap.size + 1 + 1]? = some (.cells #[.slice a6 o6.data.length c6, .slice u6 o6.keys.length q6, .int .i64 o6.seq] 41 (0, 0)) := by rw [hwd]; exact c.1
          have c2 : wd.heap[w.heap.size + 1 + 1 + 1]? = some (.cells #[.bool b6] 4 (0, 0)) := by rw [hwd]; exact c.2.1
          have c3 : wd.heap[w.heap.size + 1 + 1 + 1 + 1]? = some (.cells #[.int .i64 0] 34 (0, 0)) := by rw [hwd]; exact c.2.2
          have c4 : Below w.heap.size w wd := by rw [hwd]; exact (((below3 HW6.out (show w.heap.size ≤ w.heap.size + 1 + 1 by omega) _ _ _).setCell (show w.heap.size ≤ w.heap.size + 1 + 1 + 1 by omega) _).setCell (show w.heap.size ≤ w.heap.size + 1 + 1 + 1 + 1 by omega) _)
          have c5 : Own8 w.heap.size wd (.slice a6 o6.data.length c6) (.slice u6 o6.keys.length q6) o6 := by rw [hwd]; exact own_door TH6.out.own O6.out I6.out E6.out
          clear hwd c
          refine tdo_door (p := w.heap.size) (o := o6) (b := b6) (E := 0) ?_ ?_ ?_ c1 c2 c3 (c5.keep (Same.drew (Same.refl _ _))) c4.drew (Nat.le_refl _) (.inl ⟨rfl, HXE.out.trans HX0.out⟩)
          · rfl
          · rfl
          · rfl
        · have HX0 : Hid (X = TDoR.no X.e) := Lib.hid (by have := runT_no ops V false (by rw [HXV.out]; exact hr0); rw [HXV.out] at this; exact this)
          obtain ⟨E, hE⟩ : ∃ E, E = X.e := ⟨_, rfl⟩
          rw [← hE] at hr0 HX0 ⊢
          have HNE := Lib.hid hr0
          obtain ⟨b6, hb6⟩ : ∃ b6, b6 = th6 := ⟨_, rfl⟩
          subst hb6
          have his := is_errno E w6
          have has := as_errno E ⟨w.heap.size + 1 + 1 + 1 + 1, 0, none⟩ (.int .i64 0) w6 (HER.out.ext HW6.out) (blk_cell E6.out).1 (blk_cell E6.out).2
          unfold errnoV enoughV at his
          unfold errnoV at has ⊢
          have HIS := Lib.hid his
          have HAS := Lib.hid has
          clear hr0 hE HR6 his has
          go_wp2_with fail
          refine HIS.out.mono ?_
          rintro e w7 ⟨rfl, rfl⟩
          go_wp2_with fail
          refine HAS.out.mono ?_
          rintro e w8 ⟨rfl, w9, hb9, rfl⟩
          have TH9 := Lib.hid (TH6.out.ext hb9)
          have O9 := Lib.hid (dblk hb9 O6.out)
          have I9 := Lib.hid (dblk hb9 I6.out)
          have E9 := Lib.hid (dblk hb9 E6.out)
          have HW9 := Lib.hid (dcall HW6.out hb9)
          obtain ⟨wx, hwx⟩ : ∃ wx, wx = w9.setCell ⟨w.heap.size + 1 + 1 + 1 + 1, 0, none⟩ (.int .i64 E) := ⟨_, rfl⟩
          rw [← hwx]
          have THX : Hid (IsTh w.heap.size p wx (.slice a6 o6.data.length c6) (.slice u6 o6.keys.length q6) o6 b6) := Lib.hid ⟨dset1 hwx (show p ≠ w.heap.size + 1 + 1 + 1 + 1 by omega) TH9.out.blk, by rw [hwx]; exact TH9.out.own.past E9.out (by decide) (by decide) (boxI _) (by simp [World.setCell]) fun b hb _ => Below.heap_setCell _ _ _ _ hb⟩
          have OX := Lib.hid (dset1 hwx (show w.heap.size + 2 ≠ w.heap.size + 1 + 1 + 1 + 1 by omega) O9.out)
          have IX := Lib.hid (dset1 hwx (show w.heap.size + 3 ≠ w.heap.size + 1 + 1 + 1 + 1 by omega) I9.out)
          have EX : Hid (wx.heap[w.heap.size + 4]? = some (.cells #[.int .i64 E] 34 (0, 0))) := Lib.hid (by rw [hwx]; exact set1_blk E9.out)
          have HWX := Lib.hid (show Below w.heap.size w wx from by rw [hwx]; exact HW9.out.setCell (show w.heap.size ≤ w.heap.size + 1 + 1 + 1 + 1 by omega) _)
          clear hwx hb9 TH9 O9 I9 E9 HW9 TH6 O6 I6 E6 HW6 y0 e0 y1 e1 y2 e2 y3 e3 x0 x1 x2 f0 f1 f2 i0 g0 z0 k0
          obtain ⟨⟨y0, e0⟩, ⟨y1, e1⟩, ⟨y2, e2⟩, ⟨y3, e3⟩⟩ := four_cells THX.out.blk
          obtain ⟨x0, f0⟩ := blk_cell (i := 0) (OX.out)
          obtain ⟨x1, f1⟩ := blk_cell (i := 1) (OX.out)
          obtain ⟨x2, f2⟩ := blk_cell (i := 2) (OX.out)
          simp at x0 x1 x2
          obtain ⟨i0, g0⟩ := blk_cell (i := 0) IX.out
          obtain ⟨z0, k0⟩ := blk_cell (i := 0) EX.out
          simp at i0 z0
          go_wp2_with fail
          go_region
          all_goals go_wp2
          obtain ⟨wd, hwd⟩ : ∃ wd, wd = (((((wx.setCell ⟨w.heap.size + 1 + 1, 0, none⟩ (.slice a6 o6.data.length c6)).setCell ⟨w.heap.size + 1 + 1, 1, none⟩ (.slice u6 o6.keys.length q6)).setCell ⟨w.heap.size + 1 + 1, 2, none⟩ (.int .i64 o6.seq)).setCell ⟨w.heap.size + 1 + 1 + 1, 0, none⟩ (.bool b6)).setCell ⟨w.heap.size + 1 + 1 + 1 + 1, 0, none⟩ (.int .i64 E)) := ⟨_, rfl⟩
          rw [← hwd]
          have c := door_blks (x := .slice a6 o6.data.length c6) (y := .slice u6 o6.keys.length q6) (z := .int .i64 o6.seq) (u := .bool b6) (v := .int .i64 E) OX.out IX.out EX.out
          have c1 : wd.heap[w.heap.size + 1 + 1]? = some (.cells #[.slice a6 o6.data.length c6, .slice u6 o6.keys.length q6, .int .i64 o6.seq] 41 (0, 0)) := by rw [hwd]; exact c.1
          have c2 : wd.heap[w.heap.size + 1 + 1 + 1]? = some (.cells #[.bool b6] 4 (0, 0)) := by rw [hwd]; exact c.2.1
          have c3 : wd.heap[w.heap.size + 1 + 1 + 1 + 1]? = some (.cells #[.int .i64 E] 34 (0, 0)) := by rw [hwd]; exact c.2.2
          have c4 : Below w.heap.size w wd := by rw [hwd]; exact (((below3 HWX.out (show w.heap.size ≤ w.heap.size + 1 + 1 by omega) _ _ _).setCell (show w.heap.size ≤ w.heap.size + 1 + 1 + 1 by omega) _).setCell (show w.heap.size ≤ w.heap.size + 1 + 1 + 1 + 1 by omega) _)
          have c5 : Own8 w.heap.size wd (.slice a6 o6.data.length c6) (.slice u6 o6.keys.length q6) o6 := by rw [hwd]; exact own_door THX.out.own OX.out IX.out EX.out
          clear hwd c
          refine tdo_door (p := w.heap.size) (o := o6) (b := b6) (E := E) ?_ ?_ ?_ c1 c2 c3 (c5.keep (Same.drew (Same.refl _ _))) c4.drew (Nat.le_refl _) (.inr ⟨HNE.out, HXE.out.trans HX0.out⟩)
          · rfl
          · rfl
          · rfl
  · have HX := Lib.hid (txDo_chk (o := o) (th := th) hE)
    generalize txE ⟨ob, ops⟩ = E at *
    have HNE := Lib.hid hE
    have t1 : (E != 0) = true := by simpa using hE
    have t2 : (E == 0) = false := by simpa using hE
    obtain ⟨x0, f0⟩ := blk_cell (i := 0) (O1.out)
    obtain ⟨x1, f1⟩ := blk_cell (i := 1) (O1.out)
    obtain ⟨x2, f2⟩ := blk_cell (i := 2) (O1.out)
    simp at x0 x1 x2
    obtain ⟨y0, g0⟩ := blk_cell (i := 0) I1.out
    obtain ⟨z0, k0⟩ := blk_cell (i := 0) E1.out
    simp at y0 z0
    clear hE
    go_wp2
    go_region
    all_goals go_wp2
    obtain ⟨wd, hwd⟩ : ∃ wd, wd = (((((w1.setCell ⟨w.heap.size + 1 + 1, 0, none⟩ (.slice none 0 0)).setCell ⟨w.heap.size + 1 + 1, 1, none⟩ (.slice none 0 0)).setCell ⟨w.heap.size + 1 + 1, 2, none⟩ (.int .i64 0)).setCell ⟨w.heap.size + 1 + 1 + 1, 0, none⟩ (.bool false)).setCell ⟨w.heap.size + 1 + 1 + 1 + 1, 0, none⟩ (.int .i64 E)) := ⟨_, rfl⟩
    rw [← hwd]
    have c := door_blks (x := .slice none 0 0) (y := .slice none 0 0) (z := .int .i64 0) (u := .bool false) (v := .int .i64 E) O1.out I1.out E1.out
    have c1 : wd.heap[w.heap.size + 1 + 1]? = some (.cells #[.slice none 0 0, .slice none 0 0, .int .i64 0] 41 (0, 0)) := by rw [hwd]; exact c.1
    have c2 : wd.heap[w.heap.size + 1 + 1 + 1]? = some (.cells #[.bool false] 4 (0, 0)) := by rw [hwd]; exact c.2.1
    have c3 : wd.heap[w.heap.size + 1 + 1 + 1 + 1]? = some (.cells #[.int .i64 E] 34 (0, 0)) := by rw [hwd]; exact c.2.2
    have c4 : Below w.heap.size w wd := by rw [hwd]; exact (((below3 HW1.out (show w.heap.size ≤ w.heap.size + 1 + 1 by omega) _ _ _).setCell (show w.heap.size ≤ w.heap.size + 1 + 1 + 1 by omega) _).setCell (show w.heap.size ≤ w.heap.size + 1 + 1 + 1 + 1 by omega) _)
    clear hwd c
    refine tdo_door (p := w.heap.size) (o := ObD.none) (b := false) (E := E) ?_ ?_ ?_ c1 c2 c3 (Own8.none _ _) c4.drew (Nat.le_refl _) (.inr ⟨HNE.out, HX.out⟩)
    · rfl
    · rfl
    · rfl
end Go.Proofs.YtohfckkgmijlnaaGreatDoor
