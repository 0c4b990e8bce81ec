/- The walks of terrazzoref16.open, UnpackRequest at any bytes. -/
import Derived.Test.YtlgefkaafoidmaaGreatDoorGO
import Derived.Test.YtlgefkaafoidmaaGreatDoorRmay
import Derived.Test.YtlgefkaafoidmaaGreatDoorGP
namespace Go.Proofs.YtlgefkaafoidmaaGreatDoor
open Go.RowKit Go.WideShapes

/-- what open leaves -/
def OpnQ (A : Nat → Prop) (x : List UInt8 × Nat) (w : World) (e : Ending) (w' : World) : Prop := ∃ v, e = .returned (.tuple #[v, .int .i64 (x.2 : Nat)]) ∧ RB A w' v x.1 ∧ Below w.heap.size w w'
set_option maxRecDepth 100000 in
set_option maxHeartbeats 1600000 in
theorem ropen_any (A : Nat → Prop) (v : Value) (l : List UInt8) (k : Nat) (w : World) (hv : RB A w v l) (hl : l.length ≤ 100000) : Calls Tryz.prog 31 #[v, .int .i64 k] w (OpnQ A (opnB l k) w) := by
  obtain ⟨xa, xc, rfl⟩ := hv.shape
  have HV := Lib.hid hv
  have hop : opnB l k = if (nextB l).e ≠ 0 then ([], (nextB l).e) else if 0 < (nextB l).rest.length ∨ (nextB l).kind ≠ k then ([], 11) else ((nextB l).body, 0) := rfl
  have HOP := Lib.hid hop
  clear hv hop
  go_enter Tryz.func31, Tryz.ntmps31
  go_wp2_with fail
  refine (rnx_any A _ l _ HV.out hl).mono ?_
  rintro e w1 ⟨v1, n, rfl, h1, hn, hb1⟩
  have hop := HOP.out
  clear HOP
  generalize opnB l k = X at *
  generalize nextB l = R at *
  obtain ⟨K, B, T, E⟩ := R
  simp only at h1 hn hop ⊢
  obtain ⟨a1, c1, rfl⟩ := h1.shape
  have H1 := Lib.hid h1
  have HB := Lib.hid hb1
  clear h1 hb1
  by_cases hE : E = 0
  · subst hE
    rw [if_neg (fun h => h rfl)] at hop
    have hnl := hn rfl
    by_cases hT : T.length = 0
    · by_cases hK : K = k
      · rw [if_neg (by rintro (h | h) <;> first | omega | exact h hK)] at hop
        have HX := Lib.hid hop
        have t1 : ((n : Int) != (l.length : Int)) = false := by simp; omega
        have t2 : ((K : Int) != (k : Int)) = false := by simp [hK]
        clear hop hn hT hK hnl
        go_wp2
        go_ret2
        rw [HX.out]
        exact ⟨_, rfl, H1.out, HB.out⟩
      · rw [if_pos (.inr hK)] at hop
        have HX := Lib.hid hop
        have t1 : ((n : Int) != (l.length : Int)) = false := by simp; omega
        have t2 : ((K : Int) != (k : Int)) = true := by simp; omega
        clear hop hn hT hK hnl
        go_wp2
        go_ret2
        rw [HX.out]
        exact ⟨_, rfl, RB.nil _ _, HB.out⟩
    · rw [if_pos (.inl (by omega))] at hop
      have HX := Lib.hid hop
      have t1 : ((n : Int) != (l.length : Int)) = true := by simp; omega
      clear hop hn hT hnl
      go_wp2
      go_ret2
      rw [HX.out]
      exact ⟨_, rfl, RB.nil _ _, HB.out⟩
  · rw [if_pos hE] at hop
    have HX := Lib.hid hop
    have t1 : ((E : Int) != 0) = true := by simp; omega
    clear hop hn hE
    go_wp2
    go_ret2
    rw [HX.out]
    exact ⟨_, rfl, RB.nil _ _, HB.out⟩
/-- what UnpackRequest leaves -/
def UnqQ (x : RqD × Int) (w : World) (e : Ending) (w' : World) : Prop := ∃ ov, e = .returned (.tuple #[rqV x.1 ov, .int .i64 x.2]) ∧ SlE Enc.op (fun _ => True) w' ov x.1.txn.ops ∧ Below w.heap.size w w'
theorem UnqQ.mk' {l : List UInt8} {q : RqD} {E : Int} {ov : Value} {w w' : World} (h : unqB l = (q, E)) (h1 : SlE Enc.op (fun _ => True) w' ov q.txn.ops) (hb : Below w.heap.size w w') : UnqQ (unqB l) w (.returned (.tuple #[rqV q ov, .int .i64 E])) w' := by
  rw [h]
  exact ⟨ov, rfl, h1, hb⟩
set_option maxRecDepth 100000 in
set_option maxHeartbeats 16000000 in
theorem runq_any (A : Nat → Prop) (v : Value) (l : List UInt8) (w : World) (hv : RB A w v l) (hl : l.length ≤ 100000) : Calls Tryz.prog 8 #[v] w (UnqQ (unqB l) w) := by
  obtain ⟨xa, xc, rfl⟩ := hv.shape
  have HV : Hid (RB (fun b => b < w.heap.size) w (.slice xa l.length xc) l) := Lib.hid ((SlA.cut hv).weak fun b hb => hb.2)
  clear hv
  go_enter Tryz.func8, Tryz.ntmps8
  go_wp2_with fail
  have hb0 : ∀ o, Below w.heap.size w (w.alloc o) := fun o => (Below.refl _ w).alloc (Nat.le_refl _) o
  refine (ropen_any _ _ l 1 _ (HV.out.ext (hb0 _)) hl).mono ?_
  rintro e w1 ⟨v1, rfl, h1, hb1⟩
  have HN : Hid (unqN l = rdNums wsQ ⟨(opnB l 1).1, 0⟩) := Lib.hid rfl
  have HO : Hid ((opnB l 1).2 = (opnB l 1).2) := Lib.hid rfl
  have hol := (opnB_len l 1).1
  obtain ⟨⟨L0, E0⟩, hX⟩ : ∃ X, X = opnB l 1 := ⟨_, rfl⟩
  rw [← hX] at h1 HN hol ⊢
  have HOE : Hid ((opnB l 1).2 = E0) := Lib.hid (by rw [← hX])
  simp only at h1 hol HN ⊢
  obtain ⟨a1, c1, rfl⟩ := h1.shape
  have H1 : Hid (RB (fun b => b < w.heap.size) w1 (.slice a1 L0.length c1) L0) := Lib.hid h1
  have B1 : Hid (w1.heap[w.heap.size]? = some (.cells rq0 26 (0, 0))) := Lib.hid (blkk hb1 (heap_alloc_new w _))
  have W1 : Hid (Below w.heap.size w w1) := Lib.hid (below_call (hb0 _) hb1)
  have hs1 : w.heap.size < w1.heap.size := (Array.getElem?_eq_some_iff.1 B1.out).1
  clear h1 hb1 hb0 hX HO
  by_cases hE0 : E0 = 0
  · subst hE0
    go_upto_region 6 with fail
    obtain ⟨p, hp⟩ : ∃ p, p = w1.heap.size := ⟨_, rfl⟩
    obtain ⟨w2, hw2⟩ : ∃ w2, w2 = (w1.alloc (.cells #[.slice a1 L0.length c1, .int .i64 0] 75)).alloc (.cells #[.int .i64 0, .int .i64 0, .int .i64 0, .int .i64 0, .int .i64 0, .int .i64 0, .int .i64 0, .string ⟨#[]⟩, .slice none 0 0] 26) := ⟨_, rfl⟩
    rw [← hw2, ← hp]
    have hb2 : Below w1.heap.size w1 w2 := by rw [hw2]; ((repeat' (first | exact Below.refl _ _ | refine below_drewN ?_ _ | refine Below.drew ?_ | refine Below.alloc ?_ ?_ _ | refine Below.trans ?_ (Below.mono (by assumption) ?_))); all_goals (first | exact Nat.le_refl _ | exact Below.size (by assumption) | omega | (simp; done) | (simp; omega)))
    have RB2 : Hid (w2.heap[p]? = some (.cells #[.slice a1 L0.length c1, .int .i64 ((0 : Nat) : Int)] 75 (0, 0))) := Lib.hid (by rw [hw2, hp]; exact (Below.heap_alloc _ _ _ (by simp)).trans (heap_alloc_new _ _))
    have Q : Hid (w2.heap[p + 1]? = some (.cells #[.int .i64 0, .int .i64 0, .int .i64 0, .int .i64 0, .int .i64 0, .int .i64 0, .int .i64 0, .string ⟨#[]⟩, .slice none 0 0] 26 (0, 0))) := Lib.hid (by rw [hw2, hp]; exact heap_alloc2_new _ _ _)
    have R : Hid (IsRq (fun b => b < w.heap.size) w2 p ⟨L0, 0⟩) := Lib.hid ⟨⟨_, RB2.out, RB.ext H1.out hb2⟩, by omega⟩
    have B := Lib.hid (blkk hb2 B1.out)
    have W := Lib.hid (below_call W1.out hb2)
    have hs2 : p + 1 < w2.heap.size := (Array.getElem?_eq_some_iff.1 Q.out).1
    have hpp : w.heap.size < p := by omega
    have HS : Hid (Rd.small ⟨L0, 0⟩) := Lib.hid ⟨(by show L0.length ≤ 100000; omega), (by show (0 : Nat) < 1000; decide)⟩
    obtain ⟨R0, hR0⟩ : ∃ R0 : Rd, R0 = ⟨L0, 0⟩ := ⟨_, rfl⟩
    rw [← hR0] at R HS HN
    clear hw2 hb2 hp RB2 B1 W1 H1 hR0
    have hs : p + 1 < w2.heap.size := (Array.getElem?_eq_some_iff.1 Q.out).1
    obtain ⟨y0, g0⟩ := blk_cell (i := 0) Q.out
    obtain ⟨y1, g1⟩ := blk_cell (i := 1) Q.out
    obtain ⟨y2, g2⟩ := blk_cell (i := 2) Q.out
    obtain ⟨y3, g3⟩ := blk_cell (i := 3) Q.out
    obtain ⟨y4, g4⟩ := blk_cell (i := 4) Q.out
    obtain ⟨y5, g5⟩ := blk_cell (i := 5) Q.out
    obtain ⟨y6, g6⟩ := blk_cell (i := 6) Q.out
    obtain ⟨y7, g7⟩ := blk_cell (i := 7) Q.out
    obtain ⟨y8, g8⟩ := blk_cell (i := 8) Q.out
    simp at y0 y1 y2 y3 y4 y5 y6 y7 y8
    go_wp2_with fail
    refine (qnum_any _ p 1 R0 _ R.out (by decide) (by decide) HS.out.len HS.out.err).mono ?_
    have HS' := Lib.hid (HS.out.num 1)
    obtain ⟨⟨c, R1⟩, hX⟩ : ∃ X, X = R0.num 1 := ⟨_, rfl⟩
    rw [← hX] at HS' ⊢
    have HX0 := Lib.hid hX
    rintro e wa ⟨rfl, hr, hf⟩
    simp only at hr ⊢
    have Qa := Lib.hid ((hf.block _ hs (by show ¬ (p + 1 = p); omega)).trans Q.out)
    have Ba := Lib.hid ((hf.block _ (by omega) (by show ¬ (w.heap.size = p); omega)).trans B.out)
    have Wa := Lib.hid (W.out.trans (hf.below (B := w.heap.size) (by omega) fun j hj h => by have h : j = p := h; omega))
    have Ra := Lib.hid hr
    have hsa := hf.size
    clear hr hf hX y0 g0 y1 g1 y2 g2 y3 g3 y4 g4 y5 g5 y6 g6 y7 g7 y8 g8 Q B W R HS
    have hsq : p + 1 < wa.heap.size := by omega
    obtain ⟨y0, g0⟩ := blk_cell (i := 0) Qa.out
    simp at y0
    go_upto_region 7 with fail
    obtain ⟨w3, hw⟩ : ∃ wz, wz = wa.setCell ⟨p + 1, 0, none⟩ (.int .i64 (c : Nat)) := ⟨_, rfl⟩
    rw [← hw]
    have Q : Hid (w3.heap[p + 1]? = some (.cells #[.int .i64 (c : Nat), .int .i64 0, .int .i64 0, .int .i64 0, .int .i64 0, .int .i64 0, .int .i64 0, .string ⟨#[]⟩, .slice none 0 0] 26 (0, 0))) := Lib.hid (by rw [hw]; exact set_blk3 (j := 0) Qa.out)
    have B : Hid (w3.heap[w.heap.size]? = some (.cells rq0 26 (0, 0))) := Lib.hid (by rw [hw]; exact (Below.heap_setCell _ ⟨p + 1, 0, none⟩ _ _ (by show w.heap.size ≠ p + 1; omega)).trans Ba.out)
    have W : Hid (Below w.heap.size w w3) := Lib.hid (by rw [hw]; exact Wa.out.setCell (p := ⟨p + 1, 0, none⟩) (by show _ ≤ p + 1; omega) _)
    have R : Hid (IsRq (fun b => b < w.heap.size) w3 p R1) := Lib.hid (by rw [hw]; exact Ra.out.set (by omega) (fun b hb => by omega))
    have HS := HS'
    clear hw hs hsa hsq y0 g0 Qa Ba Wa Ra HS'
    have hs : p + 1 < w3.heap.size := (Array.getElem?_eq_some_iff.1 Q.out).1
    obtain ⟨y0, g0⟩ := blk_cell (i := 0) Q.out
    obtain ⟨y1, g1⟩ := blk_cell (i := 1) Q.out
    obtain ⟨y2, g2⟩ := blk_cell (i := 2) Q.out
    obtain ⟨y3, g3⟩ := blk_cell (i := 3) Q.out
    obtain ⟨y4, g4⟩ := blk_cell (i := 4) Q.out
    obtain ⟨y5, g5⟩ := blk_cell (i := 5) Q.out
    obtain ⟨y6, g6⟩ := blk_cell (i := 6) Q.out
    obtain ⟨y7, g7⟩ := blk_cell (i := 7) Q.out
    obtain ⟨y8, g8⟩ := blk_cell (i := 8) Q.out
    simp at y0 y1 y2 y3 y4 y5 y6 y7 y8
    go_wp2_with fail
    refine (qnum_any _ p 4 R1 _ R.out (by decide) (by decide) HS.out.len HS.out.err).mono ?_
    have HS' := Lib.hid (HS.out.num 4)
    obtain ⟨⟨lf, R2⟩, hX⟩ : ∃ X, X = R1.num 4 := ⟨_, rfl⟩
    rw [← hX] at HS' ⊢
    have HX1 := Lib.hid hX
    rintro e wa ⟨rfl, hr, hf⟩
    simp only at hr ⊢
    have Qa := Lib.hid ((hf.block _ hs (by show ¬ (p + 1 = p); omega)).trans Q.out)
    have Ba := Lib.hid ((hf.block _ (by omega) (by show ¬ (w.heap.size = p); omega)).trans B.out)
    have Wa := Lib.hid (W.out.trans (hf.below (B := w.heap.size) (by omega) fun j hj h => by have h : j = p := h; omega))
    have Ra := Lib.hid hr
    have hsa := hf.size
    clear hr hf hX y0 g0 y1 g1 y2 g2 y3 g3 y4 g4 y5 g5 y6 g6 y7 g7 y8 g8 Q B W R HS
    have hsq : p + 1 < wa.heap.size := by omega
    obtain ⟨y1, g1⟩ := blk_cell (i := 1) Qa.out
    simp at y1
    go_upto_region 8 with fail
    obtain ⟨w4, hw⟩ : ∃ wz, wz = wa.setCell ⟨p + 1, 1, none⟩ (.int .i64 (lf : Nat)) := ⟨_, rfl⟩
    rw [← hw]
    have Q : Hid (w4.heap[p + 1]? = some (.cells #[.int .i64 (c : Nat), .int .i64 (lf : Nat), .int .i64 0, .int .i64 0, .int .i64 0, .int .i64 0, .int .i64 0, .string ⟨#[]⟩, .slice none 0 0] 26 (0, 0))) := Lib.hid (by rw [hw]; exact set_blk3 (j := 1) Qa.out)
    have B : Hid (w4.heap[w.heap.size]? = some (.cells rq0 26 (0, 0))) := Lib.hid (by rw [hw]; exact (Below.heap_setCell _ ⟨p + 1, 1, none⟩ _ _ (by show w.heap.size ≠ p + 1; omega)).trans Ba.out)
    have W : Hid (Below w.heap.size w w4) := Lib.hid (by rw [hw]; exact Wa.out.setCell (p := ⟨p + 1, 1, none⟩) (by show _ ≤ p + 1; omega) _)
    have R : Hid (IsRq (fun b => b < w.heap.size) w4 p R2) := Lib.hid (by rw [hw]; exact Ra.out.set (by omega) (fun b hb => by omega))
    have HS := HS'
    clear hw hs hsa hsq y1 g1 Qa Ba Wa Ra HS'
    have hs : p + 1 < w4.heap.size := (Array.getElem?_eq_some_iff.1 Q.out).1
    obtain ⟨y0, g0⟩ := blk_cell (i := 0) Q.out
    obtain ⟨y1, g1⟩ := blk_cell (i := 1) Q.out
    obtain ⟨y2, g2⟩ := blk_cell (i := 2) Q.out
    obtain ⟨y3, g3⟩ := blk_cell (i := 3) Q.out
    obtain ⟨y4, g4⟩ := blk_cell (i := 4) Q.out
    obtain ⟨y5, g5⟩ := blk_cell (i := 5) Q.out
    obtain ⟨y6, g6⟩ := blk_cell (i := 6) Q.out
    obtain ⟨y7, g7⟩ := blk_cell (i := 7) Q.out
    obtain ⟨y8, g8⟩ := blk_cell (i := 8) Q.out
    simp at y0 y1 y2 y3 y4 y5 y6 y7 y8
    go_wp2_with fail
    refine (qnum_any _ p 6 R2 _ R.out (by decide) (by decide) HS.out.len HS.out.err).mono ?_
    have HS' := Lib.hid (HS.out.num 6)
    obtain ⟨⟨s, R3⟩, hX⟩ : ∃ X, X = R2.num 6 := ⟨_, rfl⟩
    rw [← hX] at HS' ⊢
    have HX2 := Lib.hid hX
    rintro e wa ⟨rfl, hr, hf⟩
    simp only at hr ⊢
    have Qa := Lib.hid ((hf.block _ hs (by show ¬ (p + 1 = p); omega)).trans Q.out)
    have Ba := Lib.hid ((hf.block _ (by omega) (by show ¬ (w.heap.size = p); omega)).trans B.out)
    have Wa := Lib.hid (W.out.trans (hf.below (B := w.heap.size) (by omega) fun j hj h => by have h : j = p := h; omega))
    have Ra := Lib.hid hr
    have hsa := hf.size
    clear hr hf hX y0 g0 y1 g1 y2 g2 y3 g3 y4 g4 y5 g5 y6 g6 y7 g7 y8 g8 Q B W R HS
    have hsq : p + 1 < wa.heap.size := by omega
    obtain ⟨y2, g2⟩ := blk_cell (i := 2) Qa.out
    simp at y2
    go_upto_region 9 with fail
    obtain ⟨w5, hw⟩ : ∃ wz, wz = wa.setCell ⟨p + 1, 2, none⟩ (.int .i64 (s : Nat)) := ⟨_, rfl⟩
    rw [← hw]
    have Q : Hid (w5.heap[p + 1]? = some (.cells #[.int .i64 (c : Nat), .int .i64 (lf : Nat), .int .i64 (s : Nat), .int .i64 0, .int .i64 0, .int .i64 0, .int .i64 0, .string ⟨#[]⟩, .slice none 0 0] 26 (0, 0))) := Lib.hid (by rw [hw]; exact set_blk3 (j := 2) Qa.out)
    have B : Hid (w5.heap[w.heap.size]? = some (.cells rq0 26 (0, 0))) := Lib.hid (by rw [hw]; exact (Below.heap_setCell _ ⟨p + 1, 2, none⟩ _ _ (by show w.heap.size ≠ p + 1; omega)).trans Ba.out)
    have W : Hid (Below w.heap.size w w5) := Lib.hid (by rw [hw]; exact Wa.out.setCell (p := ⟨p + 1, 2, none⟩) (by show _ ≤ p + 1; omega) _)
    have R : Hid (IsRq (fun b => b < w.heap.size) w5 p R3) := Lib.hid (by rw [hw]; exact Ra.out.set (by omega) (fun b hb => by omega))
    have HS := HS'
    clear hw hs hsa hsq y2 g2 Qa Ba Wa Ra HS'
    have hs : p + 1 < w5.heap.size := (Array.getElem?_eq_some_iff.1 Q.out).1
    obtain ⟨y0, g0⟩ := blk_cell (i := 0) Q.out
    obtain ⟨y1, g1⟩ := blk_cell (i := 1) Q.out
    obtain ⟨y2, g2⟩ := blk_cell (i := 2) Q.out
    obtain ⟨y3, g3⟩ := blk_cell (i := 3) Q.out
    obtain ⟨y4, g4⟩ := blk_cell (i := 4) Q.out
    obtain ⟨y5, g5⟩ := blk_cell (i := 5) Q.out
    obtain ⟨y6, g6⟩ := blk_cell (i := 6) Q.out
    obtain ⟨y7, g7⟩ := blk_cell (i := 7) Q.out
    obtain ⟨y8, g8⟩ := blk_cell (i := 8) Q.out
    simp at y0 y1 y2 y3 y4 y5 y6 y7 y8
    go_wp2_with fail
    refine (qnum_any _ p 1 R3 _ R.out (by decide) (by decide) HS.out.len HS.out.err).mono ?_
    have HS' := Lib.hid (HS.out.num 1)
    obtain ⟨⟨kd, R4⟩, hX⟩ : ∃ X, X = R3.num 1 := ⟨_, rfl⟩
    rw [← hX] at HS' ⊢
    have HX3 := Lib.hid hX
    rintro e wa ⟨rfl, hr, hf⟩
    simp only at hr ⊢
    have Qa := Lib.hid ((hf.block _ hs (by show ¬ (p + 1 = p); omega)).trans Q.out)
    have Ba := Lib.hid ((hf.block _ (by omega) (by show ¬ (w.heap.size = p); omega)).trans B.out)
    have Wa := Lib.hid (W.out.trans (hf.below (B := w.heap.size) (by omega) fun j hj h => by have h : j = p := h; omega))
    have Ra := Lib.hid hr
    have hsa := hf.size
    clear hr hf hX y0 g0 y1 g1 y2 g2 y3 g3 y4 g4 y5 g5 y6 g6 y7 g7 y8 g8 Q B W R HS
    have hsq : p + 1 < wa.heap.size := by omega
    obtain ⟨y3, g3⟩ := blk_cell (i := 3) Qa.out
    simp at y3
    go_upto_region 10 with fail
    obtain ⟨w6, hw⟩ : ∃ wz, wz = wa.setCell ⟨p + 1, 3, none⟩ (.int .i64 (kd : Nat)) := ⟨_, rfl⟩
    rw [← hw]
    have Q : Hid (w6.heap[p + 1]? = some (.cells #[.int .i64 (c : Nat), .int .i64 (lf : Nat), .int .i64 (s : Nat), .int .i64 (kd : Nat), .int .i64 0, .int .i64 0, .int .i64 0, .string ⟨#[]⟩, .slice none 0 0] 26 (0, 0))) := Lib.hid (by rw [hw]; exact set_blk3 (j := 3) Qa.out)
    have B : Hid (w6.heap[w.heap.size]? = some (.cells rq0 26 (0, 0))) := Lib.hid (by rw [hw]; exact (Below.heap_setCell _ ⟨p + 1, 3, none⟩ _ _ (by show w.heap.size ≠ p + 1; omega)).trans Ba.out)
    have W : Hid (Below w.heap.size w w6) := Lib.hid (by rw [hw]; exact Wa.out.setCell (p := ⟨p + 1, 3, none⟩) (by show _ ≤ p + 1; omega) _)
    have R : Hid (IsRq (fun b => b < w.heap.size) w6 p R4) := Lib.hid (by rw [hw]; exact Ra.out.set (by omega) (fun b hb => by omega))
    have HS := HS'
    clear hw hs hsa hsq y3 g3 Qa Ba Wa Ra HS'
    have hs : p + 1 < w6.heap.size := (Array.getElem?_eq_some_iff.1 Q.out).1
    obtain ⟨y0, g0⟩ := blk_cell (i := 0) Q.out
    obtain ⟨y1, g1⟩ := blk_cell (i := 1) Q.out
    obtain ⟨y2, g2⟩ := blk_cell (i := 2) Q.out
    obtain ⟨y3, g3⟩ := blk_cell (i := 3) Q.out
    obtain ⟨y4, g4⟩ := blk_cell (i := 4) Q.out
    obtain ⟨y5, g5⟩ := blk_cell (i := 5) Q.out
    obtain ⟨y6, g6⟩ := blk_cell (i := 6) Q.out
    obtain ⟨y7, g7⟩ := blk_cell (i := 7) Q.out
    obtain ⟨y8, g8⟩ := blk_cell (i := 8) Q.out
    simp at y0 y1 y2 y3 y4 y5 y6 y7 y8
    go_wp2_with fail
    refine (qnum_any _ p 1 R4 _ R.out (by decide) (by decide) HS.out.len HS.out.err).mono ?_
    have HS' := Lib.hid (HS.out.num 1)
    obtain ⟨⟨im, R5⟩, hX⟩ : ∃ X, X = R4.num 1 := ⟨_, rfl⟩
    rw [← hX] at HS' ⊢
    have HX4 := Lib.hid hX
    rintro e wa ⟨rfl, hr, hf⟩
    simp only at hr ⊢
    have Qa := Lib.hid ((hf.block _ hs (by show ¬ (p + 1 = p); omega)).trans Q.out)
    have Ba := Lib.hid ((hf.block _ (by omega) (by show ¬ (w.heap.size = p); omega)).trans B.out)
    have Wa := Lib.hid (W.out.trans (hf.below (B := w.heap.size) (by omega) fun j hj h => by have h : j = p := h; omega))
    have Ra := Lib.hid hr
    have hsa := hf.size
    clear hr hf hX y0 g0 y1 g1 y2 g2 y3 g3 y4 g4 y5 g5 y6 g6 y7 g7 y8 g8 Q B W R HS
    have hsq : p + 1 < wa.heap.size := by omega
    obtain ⟨y4, g4⟩ := blk_cell (i := 4) Qa.out
    simp at y4
    go_upto_region 11 with fail
    obtain ⟨w7, hw⟩ : ∃ wz, wz = wa.setCell ⟨p + 1, 4, none⟩ (.int .i64 (im : Nat)) := ⟨_, rfl⟩
    rw [← hw]
    have Q : Hid (w7.heap[p + 1]? = some (.cells #[.int .i64 (c : Nat), .int .i64 (lf : Nat), .int .i64 (s : Nat), .int .i64 (kd : Nat), .int .i64 (im : Nat), .int .i64 0, .int .i64 0, .string ⟨#[]⟩, .slice none 0 0] 26 (0, 0))) := Lib.hid (by rw [hw]; exact set_blk3 (j := 4) Qa.out)
    have B : Hid (w7.heap[w.heap.size]? = some (.cells rq0 26 (0, 0))) := Lib.hid (by rw [hw]; exact (Below.heap_setCell _ ⟨p + 1, 4, none⟩ _ _ (by show w.heap.size ≠ p + 1; omega)).trans Ba.out)
    have W : Hid (Below w.heap.size w w7) := Lib.hid (by rw [hw]; exact Wa.out.setCell (p := ⟨p + 1, 4, none⟩) (by show _ ≤ p + 1; omega) _)
    have R : Hid (IsRq (fun b => b < w.heap.size) w7 p R5) := Lib.hid (by rw [hw]; exact Ra.out.set (by omega) (fun b hb => by omega))
    have HS := HS'
    clear hw hs hsa hsq y4 g4 Qa Ba Wa Ra HS'
    have hs : p + 1 < w7.heap.size := (Array.getElem?_eq_some_iff.1 Q.out).1
    obtain ⟨y0, g0⟩ := blk_cell (i := 0) Q.out
    obtain ⟨y1, g1⟩ := blk_cell (i := 1) Q.out
    obtain ⟨y2, g2⟩ := blk_cell (i := 2) Q.out
    obtain ⟨y3, g3⟩ := blk_cell (i := 3) Q.out
    obtain ⟨y4, g4⟩ := blk_cell (i := 4) Q.out
    obtain ⟨y5, g5⟩ := blk_cell (i := 5) Q.out
    obtain ⟨y6, g6⟩ := blk_cell (i := 6) Q.out
    obtain ⟨y7, g7⟩ := blk_cell (i := 7) Q.out
    obtain ⟨y8, g8⟩ := blk_cell (i := 8) Q.out
    simp at y0 y1 y2 y3 y4 y5 y6 y7 y8
    go_wp2_with fail
    refine (qnum_any _ p 1 R5 _ R.out (by decide) (by decide) HS.out.len HS.out.err).mono ?_
    have HS' := Lib.hid (HS.out.num 1)
    obtain ⟨⟨wh, R6⟩, hX⟩ : ∃ X, X = R5.num 1 := ⟨_, rfl⟩
    rw [← hX] at HS' ⊢
    have HX5 := Lib.hid hX
    rintro e wa ⟨rfl, hr, hf⟩
    simp only at hr ⊢
    have Qa := Lib.hid ((hf.block _ hs (by show ¬ (p + 1 = p); omega)).trans Q.out)
    have Ba := Lib.hid ((hf.block _ (by omega) (by show ¬ (w.heap.size = p); omega)).trans B.out)
    have Wa := Lib.hid (W.out.trans (hf.below (B := w.heap.size) (by omega) fun j hj h => by have h : j = p := h; omega))
    have Ra := Lib.hid hr
    have hsa := hf.size
    clear hr hf hX y0 g0 y1 g1 y2 g2 y3 g3 y4 g4 y5 g5 y6 g6 y7 g7 y8 g8 Q B W R HS
    have hsq : p + 1 < wa.heap.size := by omega
    obtain ⟨y5, g5⟩ := blk_cell (i := 5) Qa.out
    simp at y5
    go_upto_region 12 with fail
    obtain ⟨w8, hw⟩ : ∃ wz, wz = wa.setCell ⟨p + 1, 5, none⟩ (.int .i64 (wh : Nat)) := ⟨_, rfl⟩
    rw [← hw]
    have Q : Hid (w8.heap[p + 1]? = some (.cells #[.int .i64 (c : Nat), .int .i64 (lf : Nat), .int .i64 (s : Nat), .int .i64 (kd : Nat), .int .i64 (im : Nat), .int .i64 (wh : Nat), .int .i64 0, .string ⟨#[]⟩, .slice none 0 0] 26 (0, 0))) := Lib.hid (by rw [hw]; exact set_blk3 (j := 5) Qa.out)
    have B : Hid (w8.heap[w.heap.size]? = some (.cells rq0 26 (0, 0))) := Lib.hid (by rw [hw]; exact (Below.heap_setCell _ ⟨p + 1, 5, none⟩ _ _ (by show w.heap.size ≠ p + 1; omega)).trans Ba.out)
    have W : Hid (Below w.heap.size w w8) := Lib.hid (by rw [hw]; exact Wa.out.setCell (p := ⟨p + 1, 5, none⟩) (by show _ ≤ p + 1; omega) _)
    have R : Hid (IsRq (fun b => b < w.heap.size) w8 p R6) := Lib.hid (by rw [hw]; exact Ra.out.set (by omega) (fun b hb => by omega))
    have HS := HS'
    clear hw hs hsa hsq y5 g5 Qa Ba Wa Ra HS'
    have hs : p + 1 < w8.heap.size := (Array.getElem?_eq_some_iff.1 Q.out).1
    obtain ⟨y0, g0⟩ := blk_cell (i := 0) Q.out
    obtain ⟨y1, g1⟩ := blk_cell (i := 1) Q.out
    obtain ⟨y2, g2⟩ := blk_cell (i := 2) Q.out
    obtain ⟨y3, g3⟩ := blk_cell (i := 3) Q.out
    obtain ⟨y4, g4⟩ := blk_cell (i := 4) Q.out
    obtain ⟨y5, g5⟩ := blk_cell (i := 5) Q.out
    obtain ⟨y6, g6⟩ := blk_cell (i := 6) Q.out
    obtain ⟨y7, g7⟩ := blk_cell (i := 7) Q.out
    obtain ⟨y8, g8⟩ := blk_cell (i := 8) Q.out
    simp at y0 y1 y2 y3 y4 y5 y6 y7 y8
    go_wp2_with fail
    refine (qnum_any _ p 6 R6 _ R.out (by decide) (by decide) HS.out.len HS.out.err).mono ?_
    have HS' := Lib.hid (HS.out.num 6)
    obtain ⟨⟨n, R7⟩, hX⟩ : ∃ X, X = R6.num 6 := ⟨_, rfl⟩
    rw [← hX] at HS' ⊢
    have HX6 := Lib.hid hX
    rintro e wa ⟨rfl, hr, hf⟩
    simp only at hr ⊢
    have Qa := Lib.hid ((hf.block _ hs (by show ¬ (p + 1 = p); omega)).trans Q.out)
    have Ba := Lib.hid ((hf.block _ (by omega) (by show ¬ (w.heap.size = p); omega)).trans B.out)
    have Wa := Lib.hid (W.out.trans (hf.below (B := w.heap.size) (by omega) fun j hj h => by have h : j = p := h; omega))
    have Ra := Lib.hid hr
    have hsa := hf.size
    clear hr hf hX y0 g0 y1 g1 y2 g2 y3 g3 y4 g4 y5 g5 y6 g6 y7 g7 y8 g8 Q B W R HS
    have hsq : p + 1 < wa.heap.size := by omega
    obtain ⟨y6, g6⟩ := blk_cell (i := 6) Qa.out
    simp at y6
    go_upto_region 13 with fail
    obtain ⟨w9, hw⟩ : ∃ wz, wz = wa.setCell ⟨p + 1, 6, none⟩ (.int .i64 (n : Nat)) := ⟨_, rfl⟩
    rw [← hw]
    have Q : Hid (w9.heap[p + 1]? = some (.cells #[.int .i64 (c : Nat), .int .i64 (lf : Nat), .int .i64 (s : Nat), .int .i64 (kd : Nat), .int .i64 (im : Nat), .int .i64 (wh : Nat), .int .i64 (n : Nat), .string ⟨#[]⟩, .slice none 0 0] 26 (0, 0))) := Lib.hid (by rw [hw]; exact set_blk3 (j := 6) Qa.out)
    have B : Hid (w9.heap[w.heap.size]? = some (.cells rq0 26 (0, 0))) := Lib.hid (by rw [hw]; exact (Below.heap_setCell _ ⟨p + 1, 6, none⟩ _ _ (by show w.heap.size ≠ p + 1; omega)).trans Ba.out)
    have W : Hid (Below w.heap.size w w9) := Lib.hid (by rw [hw]; exact Wa.out.setCell (p := ⟨p + 1, 6, none⟩) (by show _ ≤ p + 1; omega) _)
    have R : Hid (IsRq (fun b => b < w.heap.size) w9 p R7) := Lib.hid (by rw [hw]; exact Ra.out.set (by omega) (fun b hb => by omega))
    have HS := HS'
    clear hw hs hsa hsq y6 g6 Qa Ba Wa Ra HS'
    have HU : Hid (unqN l = ([c, lf, s, kd, im, wh, n], R7)) := Lib.hid (by
      rw [HN.out]
      have h0 := HX0.out; have h1 := HX1.out; have h2 := HX2.out; have h3 := HX3.out; have h4 := HX4.out; have h5 := HX5.out; have h6 := HX6.out
      simp only [rdNums, wsQ, List.foldl_cons, List.foldl_nil, rdStep, ← h0, ← h1, ← h2, ← h3, ← h4, ← h5, ← h6]
      rfl)
    clear HX0 HX1 HX2 HX3 HX4 HX5 HX6 HN
    have hs : p + 1 < w9.heap.size := (Array.getElem?_eq_some_iff.1 Q.out).1
    obtain ⟨⟨x, R8⟩, hX⟩ : ∃ X, X = R7.blob 8192 := ⟨_, rfl⟩
    go_wp2_with fail
    refine (qblob_any _ p 8192 R7 _ R.out (by decide) HS.out.len HS.out.err (HS.out.num 2).err).mono ?_
    rw [← hX]
    rintro e wa ⟨va, rfl, hva, hra, hfa⟩
    have HS8 : Hid R8.small := Lib.hid (by have := HS.out.blob 8192; rw [← hX] at this; exact this)
    have hxl : x.length ≤ 8192 := by have := (Rd.blob_len R7 8192).1; rw [← hX] at this; exact this
    have HXX : Hid (unqX l = (x, R8)) := Lib.hid (unqX_of HU.out hX.symm)
    simp only at hva hra ⊢
    obtain ⟨aa, ac, rfl⟩ := hva.shape
    have HVA := Lib.hid hva
    have RA := Lib.hid hra
    have QA := Lib.hid ((hfa.block _ hs (by show ¬ (p + 1 = p); omega)).trans Q.out)
    have BA := Lib.hid ((hfa.block _ (by omega) (by show ¬ (w.heap.size = p); omega)).trans B.out)
    have WA := Lib.hid (W.out.trans (hfa.below (B := w.heap.size) (by omega) fun j hj h => by have h : j = p := h; omega))
    have hsa := hfa.size
    clear hva hra hfa hX Q B W R HS
    go_wp2_with fail
    refine (qend_any _ p R8 _ RA.out HS8.out.len HS8.out.err).mono ?_
    rintro e wb ⟨rfl, hrb, hfb⟩
    have Q := Lib.hid ((hfb.block _ (by omega) (by show ¬ (p + 1 = p); omega)).trans QA.out)
    have B := Lib.hid ((hfb.block _ (by omega) (by show ¬ (w.heap.size = p); omega)).trans BA.out)
    have W := Lib.hid (WA.out.trans (hfb.below (B := w.heap.size) (by omega) fun j hj h => by have h : j = p := h; omega))
    have HV2 : Hid (RB (fun b => b < w.heap.size) wb (.slice aa x.length ac) x) := Lib.hid (HVA.out.mono ⟨hfb.size, fun b hb hl => hfb.block b hl (by show ¬ (b = p); omega)⟩)
    have hsb := hfb.size
    have hsq : p + 1 < wb.heap.size := by omega
    clear hrb hfb QA BA WA RA HVA hs hsa hsb
    by_cases hfe : R8.fin.e = 0
    · have u1 : ((R8.fin.e : Int) != 0) = false := by simp [hfe]
      obtain ⟨y0, g0⟩ := blk_cell (i := 0) Q.out
      obtain ⟨y1, g1⟩ := blk_cell (i := 1) Q.out
      obtain ⟨y2, g2⟩ := blk_cell (i := 2) Q.out
      obtain ⟨y3, g3⟩ := blk_cell (i := 3) Q.out
      obtain ⟨y4, g4⟩ := blk_cell (i := 4) Q.out
      obtain ⟨y5, g5⟩ := blk_cell (i := 5) Q.out
      obtain ⟨y6, g6⟩ := blk_cell (i := 6) Q.out
      obtain ⟨y7, g7⟩ := blk_cell (i := 7) Q.out
      obtain ⟨y8, g8⟩ := blk_cell (i := 8) Q.out
      simp at y0 y1 y2 y3 y4 y5 y6 y7 y8
      by_cases hk1 : kd = 1
      · have HT1 := Lib.hid (unqT_tx HU.out HXX.out hfe hk1)
        have hkd : ((kd : Int) == 1) = true := by simp [hk1]
        clear hfe hk1
        go_wp2_with fail
        refine (runpack_any _ _ x _ HV2.out (by omega)).mono ?_
        obtain ⟨⟨tx, E⟩, hTE⟩ : ∃ X, X = txUn x := ⟨_, rfl⟩
        rw [← hTE]
        rintro e wc ⟨vc, rfl, hoc, hbc⟩
        simp only at hoc ⊢
        obtain ⟨ca, cc, rfl⟩ := hoc.shape
        have HTT0 : Hid (unqT l = (tx, E)) := Lib.hid (HT1.out.trans hTE.symm)
        have QC := Lib.hid (blkk hbc Q.out)
        have BC := Lib.hid (blkk hbc B.out)
        have WC := Lib.hid (below_call W.out hbc)
        have HOC := Lib.hid hoc
        have hsc : p + 1 < wc.heap.size := by have := hbc.size; omega
        clear hoc hbc hTE HT1 Q B W y0 g0 y1 g1 y2 g2 y3 g3 y4 g4 y5 g5 y6 g6 y7 g7 y8 g8
        go_upto_region 19 with fail
        obtain ⟨pt, hpt⟩ : ∃ pt, pt = wc.heap.size := ⟨_, rfl⟩
        obtain ⟨wd, hwd⟩ : ∃ wd, wd = wc.alloc (.cells #[.string tx.obj, .slice ca tx.ops.length cc] 24) := ⟨_, rfl⟩
        rw [← hwd, ← hpt]
        have hbd : Below wc.heap.size wc wd := by rw [hwd]; ((repeat' (first | exact Below.refl _ _ | refine below_drewN ?_ _ | refine Below.drew ?_ | refine Below.alloc ?_ ?_ _ | refine Below.trans ?_ (Below.mono (by assumption) ?_))); all_goals (first | exact Nat.le_refl _ | exact Below.size (by assumption) | omega | (simp; done) | (simp; omega)))
        have TD := Lib.hid (show wd.heap[pt]? = some (.cells #[.string tx.obj, .slice ca tx.ops.length cc] 24 (0, 0)) from by rw [hwd, hpt]; exact heap_alloc_new _ _)
        have QD := Lib.hid (blkk hbd QC.out)
        have BD := Lib.hid (blkk hbd BC.out)
        have WD := Lib.hid (below_call WC.out hbd)
        have HOD := Lib.hid (HOC.out.ext hbd)
        have hsd : p + 1 < wd.heap.size := by have := hbd.size; omega
        have hptd : pt < wd.heap.size := (Array.getElem?_eq_some_iff.1 TD.out).1
        have hpp1 : p + 1 < pt := by omega
        clear hwd hbd hpt QC BC WC HOC hsc
        by_cases hE : E = 0
        · subst hE
          obtain ⟨z0, -⟩ := blk_cell (i := 0) TD.out
          obtain ⟨z1, -⟩ := blk_cell (i := 1) TD.out
          simp at z0 z1
          obtain ⟨y0, g0⟩ := blk_cell (i := 0) QD.out
          obtain ⟨y1, g1⟩ := blk_cell (i := 1) QD.out
          obtain ⟨y2, g2⟩ := blk_cell (i := 2) QD.out
          obtain ⟨y3, g3⟩ := blk_cell (i := 3) QD.out
          obtain ⟨y4, g4⟩ := blk_cell (i := 4) QD.out
          obtain ⟨y5, g5⟩ := blk_cell (i := 5) QD.out
          obtain ⟨y6, g6⟩ := blk_cell (i := 6) QD.out
          obtain ⟨y7, g7⟩ := blk_cell (i := 7) QD.out
          obtain ⟨y8, g8⟩ := blk_cell (i := 8) QD.out
          simp at y0 y1 y2 y3 y4 y5 y6 y7 y8
          go_upto_region 23 with fail
          obtain ⟨w15, hw15⟩ : ∃ wz, wz = (wd.setCell ⟨p + 1, 7, none⟩ (.string tx.obj)).setCell ⟨p + 1, 8, none⟩ (.slice ca tx.ops.length cc) := ⟨_, rfl⟩
          rw [← hw15]
          have Q5 : Hid (w15.heap[p + 1]? = some (.cells (rqC ⟨c, lf, s, kd, im, wh, n, tx⟩ (.slice ca tx.ops.length cc)) 26 (0, 0))) := Lib.hid (by rw [hw15]; exact set_blk3 (j := 8) (set_blk3 (j := 7) QD.out))
          have B5 : Hid (w15.heap[w.heap.size]? = some (.cells rq0 26 (0, 0))) := Lib.hid (by rw [hw15]; exact (Below.heap_setCell _ ⟨p + 1, 8, none⟩ _ _ (by show w.heap.size ≠ p + 1; omega)).trans ((Below.heap_setCell _ ⟨p + 1, 7, none⟩ _ _ (by show w.heap.size ≠ p + 1; omega)).trans BD.out))
          have W5 : Hid (Below w.heap.size w w15) := Lib.hid (by rw [hw15]; exact (WD.out.setCell (p := ⟨p + 1, 7, none⟩) (by show _ ≤ p + 1; omega) _).setCell (p := ⟨p + 1, 8, none⟩) (by show _ ≤ p + 1; omega) _)
          have HO5 : Hid (SlE Enc.op (fun b => b ≠ w.heap.size) w15 (.slice ca tx.ops.length cc) tx.ops) := Lib.hid (by
            rw [hw15]
            exact SlE.weak (SlE.mono HOD.out (Same.setCell (a := ⟨p + 1, 8, none⟩) (Same.setCell (a := ⟨p + 1, 7, none⟩) (Same.refl (fun b => b < w.heap.size ∨ wb.heap.size ≤ b) wd) (by show ¬ (p + 1 < w.heap.size ∨ wb.heap.size ≤ p + 1); omega) (.string tx.obj)) (by show ¬ (p + 1 < w.heap.size ∨ wb.heap.size ≤ p + 1); omega) (.slice ca tx.ops.length cc))) fun b _ hb => by have hb : b < w.heap.size ∨ wb.heap.size ≤ b := hb; show b ≠ w.heap.size; omega)
          have HTT := HTT0
          clear hw15 QD BD WD HOD TD z0 z1 y0 g0 y1 g1 y2 g2 y3 g3 y4 g4 y5 g5 y6 g6 y7 g7 y8 g8
          have hs5 : p + 1 < w15.heap.size := (Array.getElem?_eq_some_iff.1 Q5.out).1
          obtain ⟨y0, g0⟩ := blk_cell (i := 0) Q5.out
          obtain ⟨y1, g1⟩ := blk_cell (i := 1) Q5.out
          obtain ⟨y2, g2⟩ := blk_cell (i := 2) Q5.out
          obtain ⟨y3, g3⟩ := blk_cell (i := 3) Q5.out
          obtain ⟨y4, g4⟩ := blk_cell (i := 4) Q5.out
          obtain ⟨y5, g5⟩ := blk_cell (i := 5) Q5.out
          obtain ⟨y6, g6⟩ := blk_cell (i := 6) Q5.out
          obtain ⟨y7, g7⟩ := blk_cell (i := 7) Q5.out
          obtain ⟨y8, g8⟩ := blk_cell (i := 8) Q5.out
          simp [rqC] at y0 y1 y2 y3 y4 y5 y6 y7 y8
          go_wp2_with fail
          refine (rmay_any (fun b => b ≠ w.heap.size) ⟨c, lf, s, kd, im, wh, n, tx⟩ _ _ HO5.out).mono ?_
          rintro e w16 ⟨rfl, hb16⟩
          have Q6 := Lib.hid (blkk hb16 Q5.out)
          have B6 := Lib.hid (blkk hb16 B5.out)
          have W6 := Lib.hid (below_call W5.out hb16)
          have HO6 := Lib.hid (HO5.out.ext hb16)
          clear hb16 Q5 B5 W5 HO5 y0 g0 y1 g1 y2 g2 y3 g3 y4 g4 y5 g5 y6 g6 y7 g7 y8 g8
          have hs6 : p + 1 < w16.heap.size := (Array.getElem?_eq_some_iff.1 Q6.out).1
          obtain ⟨y0, g0⟩ := blk_cell (i := 0) Q6.out
          obtain ⟨y1, g1⟩ := blk_cell (i := 1) Q6.out
          obtain ⟨y2, g2⟩ := blk_cell (i := 2) Q6.out
          obtain ⟨y3, g3⟩ := blk_cell (i := 3) Q6.out
          obtain ⟨y4, g4⟩ := blk_cell (i := 4) Q6.out
          obtain ⟨y5, g5⟩ := blk_cell (i := 5) Q6.out
          obtain ⟨y6, g6⟩ := blk_cell (i := 6) Q6.out
          obtain ⟨y7, g7⟩ := blk_cell (i := 7) Q6.out
          obtain ⟨y8, g8⟩ := blk_cell (i := 8) Q6.out
          simp [rqC] at y0 y1 y2 y3 y4 y5 y6 y7 y8
          obtain ⟨x0, f0⟩ := blk_cell (i := 0) B6.out
          obtain ⟨x1, f1⟩ := blk_cell (i := 1) B6.out
          obtain ⟨x2, f2⟩ := blk_cell (i := 2) B6.out
          obtain ⟨x3, f3⟩ := blk_cell (i := 3) B6.out
          obtain ⟨x4, f4⟩ := blk_cell (i := 4) B6.out
          obtain ⟨x5, f5⟩ := blk_cell (i := 5) B6.out
          obtain ⟨x6, f6⟩ := blk_cell (i := 6) B6.out
          obtain ⟨x7, f7⟩ := blk_cell (i := 7) B6.out
          obtain ⟨x8, f8⟩ := blk_cell (i := 8) B6.out
          simp [rq0] at x0 x1 x2 x3 x4 x5 x6 x7 x8
          cases hm : mayQ ⟨c, lf, s, kd, im, wh, n, tx⟩ with
          | true =>
            have HEQ := Lib.hid (unqB_yes HOE.out HU.out HTT.out hm)
            clear hm
            go_wp2
            (try simp only [Exit.inBlock, Exit.then])
            refine bodyPost_ret (results_cell_tmp_row rfl _ _ w.heap.size 26 _ (0, 0) _ rfl (set9_blk B6.out) Tryz.underlying26 rfl (by kernel_rfl)) rfl ?_
            exact UnqQ.mk' HEQ.out (SlE.weak (SlE.mono HO6.out (same9 (A := fun b => b ≠ w.heap.size) (fun h => h rfl))) fun _ _ _ => trivial) (below9 W6.out (Nat.le_refl _))
          | false =>
            have HEQ := Lib.hid (unqB_no HOE.out HU.out HTT.out hm)
            clear hm
            go_wp2
            (try simp only [Exit.inBlock, Exit.then])
            refine bodyPost_ret (results_cell_tmp_row rfl _ _ w.heap.size 26 _ (0, 0) _ rfl (set9_blk B6.out) Tryz.underlying26 rfl (by kernel_rfl)) rfl ?_
            exact UnqQ.mk' HEQ.out (SlE.nil _ _ _) (below9 W6.out (Nat.le_refl _))
        · have HEQ := Lib.hid (unqB_bad HOE.out (congrArg Prod.snd HTT0.out) hE)
          have u3 : (E != 0) = true := by simpa using hE
          clear hE
          obtain ⟨x0, f0⟩ := blk_cell (i := 0) BD.out
          obtain ⟨x1, f1⟩ := blk_cell (i := 1) BD.out
          obtain ⟨x2, f2⟩ := blk_cell (i := 2) BD.out
          obtain ⟨x3, f3⟩ := blk_cell (i := 3) BD.out
          obtain ⟨x4, f4⟩ := blk_cell (i := 4) BD.out
          obtain ⟨x5, f5⟩ := blk_cell (i := 5) BD.out
          obtain ⟨x6, f6⟩ := blk_cell (i := 6) BD.out
          obtain ⟨x7, f7⟩ := blk_cell (i := 7) BD.out
          obtain ⟨x8, f8⟩ := blk_cell (i := 8) BD.out
          simp [rq0] at x0 x1 x2 x3 x4 x5 x6 x7 x8
          go_wp2
          (try simp only [Exit.inBlock, Exit.then])
          refine bodyPost_ret (results_cell_tmp_row rfl _ _ w.heap.size 26 _ (0, 0) _ rfl (set9_blk BD.out) Tryz.underlying26 rfl (by kernel_rfl)) rfl ?_
          exact UnqQ.mk' HEQ.out (SlE.nil _ _ _) (below9 WD.out (Nat.le_refl _))
      · have HTT := Lib.hid (unqT_obj HU.out HXX.out hfe hk1)
        have hkd : ((kd : Int) == 1) = false := by simp; omega
        have hcv := cnv_bytes HV2.out wb (Below.refl _ _)
        clear hfe hk1
        go_upto_region 23 with fail
        obtain ⟨w15, hw15⟩ : ∃ wz, wz = wb.setCell ⟨p + 1, 7, none⟩ (.string ⟨x.toArray⟩) := ⟨_, rfl⟩
        rw [← hw15]
        have Q5 : Hid (w15.heap[p + 1]? = some (.cells (rqC ⟨c, lf, s, kd, im, wh, n, ⟨⟨x.toArray⟩, []⟩⟩ (.slice none 0 0)) 26 (0, 0))) := Lib.hid (by rw [hw15]; exact set_blk3 (j := 7) Q.out)
        have B5 : Hid (w15.heap[w.heap.size]? = some (.cells rq0 26 (0, 0))) := Lib.hid (by rw [hw15]; exact (Below.heap_setCell _ ⟨p + 1, 7, none⟩ _ _ (by show w.heap.size ≠ p + 1; omega)).trans B.out)
        have W5 : Hid (Below w.heap.size w w15) := Lib.hid (by rw [hw15]; exact W.out.setCell (p := ⟨p + 1, 7, none⟩) (by show _ ≤ p + 1; omega) _)
        have HO5 : Hid (SlE Enc.op (fun b => b ≠ w.heap.size) w15 (.slice none 0 0) []) := Lib.hid (SlE.nil _ _ _)
        clear hw15 Q B W hcv y0 g0 y1 g1 y2 g2 y3 g3 y4 g4 y5 g5 y6 g6 y7 g7 y8 g8
        have hs5 : p + 1 < w15.heap.size := (Array.getElem?_eq_some_iff.1 Q5.out).1
        obtain ⟨y0, g0⟩ := blk_cell (i := 0) Q5.out
        obtain ⟨y1, g1⟩ := blk_cell (i := 1) Q5.out
        obtain ⟨y2, g2⟩ := blk_cell (i := 2) Q5.out
        obtain ⟨y3, g3⟩ := blk_cell (i := 3) Q5.out
        obtain ⟨y4, g4⟩ := blk_cell (i := 4) Q5.out
        obtain ⟨y5, g5⟩ := blk_cell (i := 5) Q5.out
        obtain ⟨y6, g6⟩ := blk_cell (i := 6) Q5.out
        obtain ⟨y7, g7⟩ := blk_cell (i := 7) Q5.out
        obtain ⟨y8, g8⟩ := blk_cell (i := 8) Q5.out
        simp [rqC] at y0 y1 y2 y3 y4 y5 y6 y7 y8
        go_wp2_with fail
        refine (rmay_any (fun b => b ≠ w.heap.size) ⟨c, lf, s, kd, im, wh, n, ⟨⟨x.toArray⟩, []⟩⟩ _ _ HO5.out).mono ?_
        rintro e w16 ⟨rfl, hb16⟩
        have Q6 := Lib.hid (blkk hb16 Q5.out)
        have B6 := Lib.hid (blkk hb16 B5.out)
        have W6 := Lib.hid (below_call W5.out hb16)
        have HO6 := Lib.hid (HO5.out.ext hb16)
        clear hb16 Q5 B5 W5 HO5 y0 g0 y1 g1 y2 g2 y3 g3 y4 g4 y5 g5 y6 g6 y7 g7 y8 g8
        have hs6 : p + 1 < w16.heap.size := (Array.getElem?_eq_some_iff.1 Q6.out).1
        obtain ⟨y0, g0⟩ := blk_cell (i := 0) Q6.out
        obtain ⟨y1, g1⟩ := blk_cell (i := 1) Q6.out
        obtain ⟨y2, g2⟩ := blk_cell (i := 2) Q6.out
        obtain ⟨y3, g3⟩ := blk_cell (i := 3) Q6.out
        obtain ⟨y4, g4⟩ := blk_cell (i := 4) Q6.out
        obtain ⟨y5, g5⟩ := blk_cell (i := 5) Q6.out
        obtain ⟨y6, g6⟩ := blk_cell (i := 6) Q6.out
        obtain ⟨y7, g7⟩ := blk_cell (i := 7) Q6.out
        obtain ⟨y8, g8⟩ := blk_cell (i := 8) Q6.out
        simp [rqC] at y0 y1 y2 y3 y4 y5 y6 y7 y8
        obtain ⟨x0, f0⟩ := blk_cell (i := 0) B6.out
        obtain ⟨x1, f1⟩ := blk_cell (i := 1) B6.out
        obtain ⟨x2, f2⟩ := blk_cell (i := 2) B6.out
        obtain ⟨x3, f3⟩ := blk_cell (i := 3) B6.out
        obtain ⟨x4, f4⟩ := blk_cell (i := 4) B6.out
        obtain ⟨x5, f5⟩ := blk_cell (i := 5) B6.out
        obtain ⟨x6, f6⟩ := blk_cell (i := 6) B6.out
        obtain ⟨x7, f7⟩ := blk_cell (i := 7) B6.out
        obtain ⟨x8, f8⟩ := blk_cell (i := 8) B6.out
        simp [rq0] at x0 x1 x2 x3 x4 x5 x6 x7 x8
        cases hm : mayQ ⟨c, lf, s, kd, im, wh, n, ⟨⟨x.toArray⟩, []⟩⟩ with
        | true =>
          have HEQ := Lib.hid (unqB_yes HOE.out HU.out HTT.out hm)
          clear hm
          go_wp2
          (try simp only [Exit.inBlock, Exit.then])
          refine bodyPost_ret (results_cell_tmp_row rfl _ _ w.heap.size 26 _ (0, 0) _ rfl (set9_blk B6.out) Tryz.underlying26 rfl (by kernel_rfl)) rfl ?_
          exact UnqQ.mk' HEQ.out (SlE.weak (SlE.mono HO6.out (same9 (A := fun b => b ≠ w.heap.size) (fun h => h rfl))) fun _ _ _ => trivial) (below9 W6.out (Nat.le_refl _))
        | false =>
          have HEQ := Lib.hid (unqB_no HOE.out HU.out HTT.out hm)
          clear hm
          go_wp2
          (try simp only [Exit.inBlock, Exit.then])
          refine bodyPost_ret (results_cell_tmp_row rfl _ _ w.heap.size 26 _ (0, 0) _ rfl (set9_blk B6.out) Tryz.underlying26 rfl (by kernel_rfl)) rfl ?_
          exact UnqQ.mk' HEQ.out (SlE.nil _ _ _) (below9 W6.out (Nat.le_refl _))
    · have HEQ := Lib.hid (unqB_bad HOE.out (unqT_fin HXX.out hfe) (by omega))
      have u1 : ((R8.fin.e : Int) != 0) = true := by simp [hfe]
      clear hfe
      obtain ⟨x0, f0⟩ := blk_cell (i := 0) B.out
      obtain ⟨x1, f1⟩ := blk_cell (i := 1) B.out
      obtain ⟨x2, f2⟩ := blk_cell (i := 2) B.out
      obtain ⟨x3, f3⟩ := blk_cell (i := 3) B.out
      obtain ⟨x4, f4⟩ := blk_cell (i := 4) B.out
      obtain ⟨x5, f5⟩ := blk_cell (i := 5) B.out
      obtain ⟨x6, f6⟩ := blk_cell (i := 6) B.out
      obtain ⟨x7, f7⟩ := blk_cell (i := 7) B.out
      obtain ⟨x8, f8⟩ := blk_cell (i := 8) B.out
      simp [rq0] at x0 x1 x2 x3 x4 x5 x6 x7 x8
      go_wp2
      (try simp only [Exit.inBlock, Exit.then])
      refine bodyPost_ret (results_cell_tmp_row rfl _ _ w.heap.size 26 _ (0, 0) _ rfl (set9_blk B.out) Tryz.underlying26 rfl (by kernel_rfl)) rfl ?_
      exact UnqQ.mk' HEQ.out (SlE.nil _ _ _) (below9 W.out (Nat.le_refl _))
  · have h1 : unqE l = (E0 : Int) := by
      have := HOE.out
      unfold unqE
      rw [if_pos (by omega), this]
    have HEQ : Hid (unqB l = (RqD.none, (E0 : Int))) := Lib.hid (by unfold unqB; rw [if_neg (by rw [h1]; omega), h1])
    have u1 : ((E0 : Int) != 0) = true := by simp [hE0]
    clear h1 hE0
    obtain ⟨x0, f0⟩ := blk_cell (i := 0) B1.out
    obtain ⟨x1, f1⟩ := blk_cell (i := 1) B1.out
    obtain ⟨x2, f2⟩ := blk_cell (i := 2) B1.out
    obtain ⟨x3, f3⟩ := blk_cell (i := 3) B1.out
    obtain ⟨x4, f4⟩ := blk_cell (i := 4) B1.out
    obtain ⟨x5, f5⟩ := blk_cell (i := 5) B1.out
    obtain ⟨x6, f6⟩ := blk_cell (i := 6) B1.out
    obtain ⟨x7, f7⟩ := blk_cell (i := 7) B1.out
    obtain ⟨x8, f8⟩ := blk_cell (i := 8) B1.out
    simp [rq0] at x0 x1 x2 x3 x4 x5 x6 x7 x8
    go_wp2
    (try simp only [Exit.inBlock, Exit.then])
    refine bodyPost_ret (results_cell_tmp_row rfl _ _ w.heap.size 26 _ (0, 0) _ rfl (set9_blk B1.out) Tryz.underlying26 rfl (by kernel_rfl)) rfl ?_
    exact UnqQ.mk' HEQ.out (SlE.nil _ _ _) (below9 W1.out (Nat.le_refl _))
end Go.Proofs.YtlgefkaafoidmaaGreatDoor
