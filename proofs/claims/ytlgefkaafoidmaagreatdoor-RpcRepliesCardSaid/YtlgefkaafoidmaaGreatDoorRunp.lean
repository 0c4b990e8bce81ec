/- The walk of terrazzoref16.UnpackReply at any bytes. -/
import Derived.Test.YtlgefkaafoidmaaGreatDoorRunq
import Derived.Test.YtlgefkaafoidmaaGreatDoorRmayP
import Derived.Test.YtlgefkaafoidmaaGreatDoorUnp
namespace Go.Proofs.YtlgefkaafoidmaaGreatDoor
open Go.RowKit Go.WideShapes
attribute [local go_sem ↓] Go.wp_at_zero Go.wp_at_succ

/-- what UnpackReply leaves -/
def UnpQ (x : RpD × Int) (w : World) (e : Ending) (w' : World) : Prop := ∃ dv kv, e = .returned (.tuple #[rpV x.1 dv kv, .int .i64 x.2]) ∧ RB (fun _ => True) w' dv x.1.obj.data ∧ SlE Enc.key (fun _ => True) w' kv x.1.obj.keys ∧ Below w.heap.size w w'
theorem UnpQ.no {x : Int} {w w' : World} {l : List UInt8} (h : unpB l = (RpD.none, x)) (hb : Below w.heap.size w w') : UnpQ (unpB l) w (.returned (.tuple #[rpV RpD.none (.slice none 0 0) (.slice none 0 0), .int .i64 x])) w' := by
  rw [h]
  exact ⟨_, _, rfl, RB.nil _ _, SlE.nil _ _ _, hb⟩
/-- the state: the reader, the result's box, the reply's box, the data -/
structure UnQ (w : World) (p : Nat) (cs : Array Value) (D : List UInt8) (dv : Value) (r : Rd) (W : World) : Prop where
  mk ::
  rd : IsRq (fun b => b < w.heap.size) W p r
  rr : W.heap[w.heap.size]? = some (.cells rpZ 40 (0, 0))
  bx : W.heap[p + 1]? = some (.cells cs 40 (0, 0))
  d : RB (fun b => b < w.heap.size) W dv D
  b : Below w.heap.size w W
section
variable {w W W' : World} {p : Nat} {cs : Array Value} {D : List UInt8} {dv : Value} {r r' : Rd}
theorem UnQ.fr (h : UnQ w p cs D dv r W) (h1 : w.heap.size < p) (hf : Fr (fun k => k = p) W W') (hr : IsRq (fun b => b < w.heap.size) W' p r') : UnQ w p cs D dv r' W' :=
  ⟨hr, (hf.block _ (Array.getElem?_eq_some_iff.1 h.rr).1 (by omega)).trans h.rr, (hf.block _ (Array.getElem?_eq_some_iff.1 h.bx).1 (by omega)).trans h.bx, h.d.mono ⟨hf.size, fun b hb hl => hf.block b hl (by omega)⟩, h.b.trans (hf.below h.b.size fun j hj e => by omega)⟩
theorem UnQ.low (h : UnQ w p cs D dv r W) (h1 : w.heap.size < p) (hb : Below (p + 2) W W') : UnQ w p cs D dv r W' :=
  ⟨h.rd.same (B := fun b => b < p + 2) ⟨hb.size, fun b hb' _ => hb.block b hb'⟩ (by omega) (fun b hb => by omega), (hb.block _ (by omega)).trans h.rr, (hb.block _ (by omega)).trans h.bx, h.d.mono ⟨hb.size, fun b hb' _ => hb.block b (by omega)⟩, h.b.trans (hb.mono (by omega))⟩
theorem UnQ.ext (h : UnQ w p cs D dv r W) (hb : Below W.heap.size W W') : UnQ w p cs D dv r W' :=
  ⟨h.rd.ext hb, blkk hb h.rr, blkk hb h.bx, h.d.ext hb, below_call h.b hb⟩
theorem UnQ.set (h : UnQ w p cs D dv r W) (h1 : w.heap.size < p) (j : Nat) (v : Value) : UnQ w p (cs.setIfInBounds j v) D dv r (W.setCell ⟨p + 1, j, none⟩ v) :=
  ⟨h.rd.set (by omega) (fun b hb => by omega), set_other (by omega) h.rr, set_blk3 h.bx, h.d.mono ⟨by simp [World.setCell], fun b hb _ => Below.heap_setCell _ _ _ _ (show b ≠ p + 1 by omega)⟩, h.b.setCell (show w.heap.size ≤ p + 1 by omega) _⟩
theorem UnQ.dat (h : UnQ w p cs D dv r W) {D' : List UInt8} {dv' : Value} (hd : RB (fun b => b < w.heap.size) W dv' D') : UnQ w p cs D' dv' r W := ⟨h.rd, h.rr, h.bx, hd, h.b⟩
theorem UnQ.lt (h : UnQ w p cs D dv r W) : p + 1 < W.heap.size := (Array.getElem?_eq_some_iff.1 h.bx).1
end
set_option maxRecDepth 100000 in
set_option maxHeartbeats 16000000 in
theorem runp_any (A : Nat → Prop) (v : Value) (l : List UInt8) (w : World) (hv : RB A w v l) (hl : l.length ≤ 100000) : Calls Tryz.prog 14 #[v] w (UnpQ (unpB l) w) := by
  obtain ⟨xa, xc, rfl⟩ := hv.shape
  have HV : Hid (RB (fun b => b < w.heap.size) w (.slice xa l.length xc) l) := Lib.hid ((SlA.cut hv).weak fun b hb => hb.2)
  clear hv
  go_enter Tryz.func14, Tryz.ntmps14
  go_wp2_with fail
  have hb0 : ∀ o, Below w.heap.size w (w.alloc o) := fun o => (Below.refl _ w).alloc (Nat.le_refl _) o
  refine (ropen_any _ _ l 2 _ (HV.out.ext (hb0 _)) hl).mono ?_
  rintro e w1 ⟨v1, rfl, h1, hb1⟩
  have HN : Kep (unpN' l = rdNums wsP ⟨(opnB l 2).1, 0⟩) := Kep.mk rfl
  have hol := (opnB_len l 2).1
  obtain ⟨⟨L0, E0⟩, hX⟩ : ∃ X, X = opnB l 2 := ⟨_, rfl⟩
  rw [← hX] at h1 HN hol ⊢
  have HOE : Kep ((opnB l 2).2 = E0) := Kep.mk (by rw [← hX])
  simp only at h1 hol HN ⊢
  obtain ⟨a1, c1, rfl⟩ := h1.shape
  have H1 : Hid (RB (fun b => b < w.heap.size) w1 (.slice a1 L0.length c1) L0) := Lib.hid h1
  have B1 : Hid (w1.heap[w.heap.size]? = some (.cells rpZ 40 (0, 0))) := Lib.hid (blkk hb1 (heap_alloc_new w _))
  have W1 : Hid (Below w.heap.size w w1) := Lib.hid (below_call (hb0 _) hb1)
  have hs1 : w.heap.size < w1.heap.size := (Array.getElem?_eq_some_iff.1 B1.out).1
  clear h1 hb1 hb0 hX
  by_cases hE0 : E0 = 0
  · subst hE0
    go_upto_region 6 with fail
    obtain ⟨p, hp⟩ : ∃ p, p = w1.heap.size := ⟨_, rfl⟩
    obtain ⟨w2, hw2⟩ : ∃ w2, w2 = (w1.alloc (.cells #[.slice a1 L0.length c1, .int .i64 0] 75)).alloc (.cells #[.int .i64 0, .int .i64 0, .int .i64 0, .int .i64 0, .int .i64 0, .int .i64 0, .bool false, .slice none 0 0, .slice none 0 0, .int .i64 0] 40) := ⟨_, rfl⟩
    rw [← hw2, ← hp]
    have hb2 : Below w1.heap.size w1 w2 := by rw [hw2]; ((repeat' (first | exact Below.refl _ _ | refine below_drewN ?_ _ | refine Below.drew ?_ | refine Below.alloc ?_ ?_ _ | refine Below.trans ?_ (Below.mono (by assumption) ?_))); all_goals (first | exact Nat.le_refl _ | exact Below.size (by assumption) | omega | (simp; done) | (simp; omega)))
    have RB2 : w2.heap[p]? = some (.cells #[.slice a1 L0.length c1, .int .i64 ((0 : Nat) : Int)] 75 (0, 0)) := by rw [hw2, hp]; exact (Below.heap_alloc _ _ _ (by simp)).trans (heap_alloc_new _ _)
    have Q2 : w2.heap[p + 1]? = some (.cells #[.int .i64 0, .int .i64 0, .int .i64 0, .int .i64 0, .int .i64 0, .int .i64 0, .bool false, .slice none 0 0, .slice none 0 0, .int .i64 0] 40 (0, 0)) := by rw [hw2, hp]; exact heap_alloc2_new _ _ _
    have hwp : w.heap.size < p := by omega
    have HU : Hid (UnQ w p #[.int .i64 0, .int .i64 0, .int .i64 0, .int .i64 0, .int .i64 0, .int .i64 0, .bool false, .slice none 0 0, .slice none 0 0, .int .i64 0] [] (.slice none 0 0) ⟨L0, 0⟩ w2) := Lib.hid ⟨⟨⟨_, RB2, RB.ext H1.out hb2⟩, by omega⟩, blkk hb2 B1.out, Q2, RB.nil _ _, below_call W1.out hb2⟩
    have HS : Hid (Rd.small ⟨L0, 0⟩) := Lib.hid ⟨(by show L0.length ≤ 100000; omega), (by show (0 : Nat) < 1000; decide)⟩
    obtain ⟨R0, hR0⟩ : ∃ R0 : Rd, R0 = ⟨L0, 0⟩ := ⟨_, rfl⟩
    rw [← hR0] at HU HS HN
    clear hw2 hb2 hp RB2 Q2 B1 W1 H1 hR0
    go_wp2_with fail
    refine (qnum_any _ p 1 R0 _ HU.out.rd (by decide) (by decide) HS.out.len HS.out.err).mono ?_
    have HS' := Lib.hid (HS.out.num 1)
    have hXL := Rd.num_lt R0 1
    obtain ⟨⟨c, R1⟩, hX⟩ : ∃ X, X = R0.num 1 := ⟨_, rfl⟩
    rw [← hX] at HS' hXL ⊢
    have HX0 := Kep.mk hX
    rintro e wa0 ⟨rfl, hr, hf⟩
    simp only at hr hXL ⊢
    have HU' := Lib.hid (HU.out.fr hwp hf hr)
    clear hr hf hX HU HS hXL
    have HS := HS'
    clear HS'
    have hsq := HU'.out.lt
    obtain ⟨y, g⟩ := blk_cell (i := 0) HU'.out.bx
    simp at y
    go_upto_region 7 with fail
    obtain ⟨wb0, hw⟩ : ∃ wz, wz = wa0.setCell ⟨p + 1, 0, none⟩ (.int .i64 (c : Nat)) := ⟨_, rfl⟩
    rw [← hw]
    have HU : Hid (UnQ w p #[.int .i64 (c : Nat), .int .i64 0, .int .i64 0, .int .i64 0, .int .i64 0, .int .i64 0, .bool false, .slice none 0 0, .slice none 0 0, .int .i64 0] [] (.slice none 0 0) R1 wb0) := Lib.hid (by rw [hw]; exact HU'.out.set hwp 0 _)
    clear hw hsq y g HU'
    go_wp2_with fail
    refine (qnum_any _ p 4 R1 _ HU.out.rd (by decide) (by decide) HS.out.len HS.out.err).mono ?_
    have HS' := Lib.hid (HS.out.num 4)
    have hXL := Rd.num_lt R1 4
    obtain ⟨⟨lf, R2⟩, hX⟩ : ∃ X, X = R1.num 4 := ⟨_, rfl⟩
    rw [← hX] at HS' hXL ⊢
    have HX1 := Kep.mk hX
    rintro e wa1 ⟨rfl, hr, hf⟩
    simp only at hr hXL ⊢
    have HU' := Lib.hid (HU.out.fr hwp hf hr)
    clear hr hf hX HU HS hXL
    have HS := HS'
    clear HS'
    have hsq := HU'.out.lt
    obtain ⟨y, g⟩ := blk_cell (i := 1) HU'.out.bx
    simp at y
    go_upto_region 8 with fail
    obtain ⟨wb1, hw⟩ : ∃ wz, wz = wa1.setCell ⟨p + 1, 1, none⟩ (.int .i64 (lf : Nat)) := ⟨_, rfl⟩
    rw [← hw]
    have HU : Hid (UnQ w p #[.int .i64 (c : Nat), .int .i64 (lf : Nat), .int .i64 0, .int .i64 0, .int .i64 0, .int .i64 0, .bool false, .slice none 0 0, .slice none 0 0, .int .i64 0] [] (.slice none 0 0) R2 wb1) := Lib.hid (by rw [hw]; exact HU'.out.set hwp 1 _)
    clear hw hsq y g HU'
    go_wp2_with fail
    refine (qnum_any _ p 6 R2 _ HU.out.rd (by decide) (by decide) HS.out.len HS.out.err).mono ?_
    have HS' := Lib.hid (HS.out.num 6)
    have hXL := Rd.num_lt R2 6
    obtain ⟨⟨s, R3⟩, hX⟩ : ∃ X, X = R2.num 6 := ⟨_, rfl⟩
    rw [← hX] at HS' hXL ⊢
    have HX2 := Kep.mk hX
    rintro e wa2 ⟨rfl, hr, hf⟩
    simp only at hr hXL ⊢
    have HU' := Lib.hid (HU.out.fr hwp hf hr)
    clear hr hf hX HU HS hXL
    have HS := HS'
    clear HS'
    have hsq := HU'.out.lt
    obtain ⟨y, g⟩ := blk_cell (i := 2) HU'.out.bx
    simp at y
    go_upto_region 9 with fail
    obtain ⟨wb2, hw⟩ : ∃ wz, wz = wa2.setCell ⟨p + 1, 2, none⟩ (.int .i64 (s : Nat)) := ⟨_, rfl⟩
    rw [← hw]
    have HU : Hid (UnQ w p #[.int .i64 (c : Nat), .int .i64 (lf : Nat), .int .i64 (s : Nat), .int .i64 0, .int .i64 0, .int .i64 0, .bool false, .slice none 0 0, .slice none 0 0, .int .i64 0] [] (.slice none 0 0) R3 wb2) := Lib.hid (by rw [hw]; exact HU'.out.set hwp 2 _)
    clear hw hsq y g HU'
    go_wp2_with fail
    refine (qnum_any _ p 2 R3 _ HU.out.rd (by decide) (by decide) HS.out.len HS.out.err).mono ?_
    have HS' := Lib.hid (HS.out.num 2)
    have hXL := Rd.num_lt R3 2
    obtain ⟨⟨ec, R4⟩, hX⟩ : ∃ X, X = R3.num 2 := ⟨_, rfl⟩
    rw [← hX] at HS' hXL ⊢
    have HX3 := Kep.mk hX
    rintro e wa3 ⟨rfl, hr, hf⟩
    simp only at hr hXL ⊢
    have HU' := Lib.hid (HU.out.fr hwp hf hr)
    clear hr hf hX HU HS hXL
    have HS := HS'
    clear HS'
    have hsq := HU'.out.lt
    obtain ⟨y, g⟩ := blk_cell (i := 3) HU'.out.bx
    simp at y
    go_upto_region 10 with fail
    obtain ⟨wb3, hw⟩ : ∃ wz, wz = wa3.setCell ⟨p + 1, 3, none⟩ (.int .i64 (ec : Nat)) := ⟨_, rfl⟩
    rw [← hw]
    have HU : Hid (UnQ w p #[.int .i64 (c : Nat), .int .i64 (lf : Nat), .int .i64 (s : Nat), .int .i64 (ec : Nat), .int .i64 0, .int .i64 0, .bool false, .slice none 0 0, .slice none 0 0, .int .i64 0] [] (.slice none 0 0) R4 wb3) := Lib.hid (by rw [hw]; exact HU'.out.set hwp 3 _)
    clear hw hsq y g HU'
    go_wp2_with fail
    refine (qnum_any _ p 6 R4 _ HU.out.rd (by decide) (by decide) HS.out.len HS.out.err).mono ?_
    have HS' := Lib.hid (HS.out.num 6)
    have hXL := Rd.num_lt R4 6
    obtain ⟨⟨n, R5⟩, hX⟩ : ∃ X, X = R4.num 6 := ⟨_, rfl⟩
    rw [← hX] at HS' hXL ⊢
    have HX4 := Kep.mk hX
    rintro e wa4 ⟨rfl, hr, hf⟩
    simp only at hr hXL ⊢
    have HU' := Lib.hid (HU.out.fr hwp hf hr)
    clear hr hf hX HU HS hXL
    have HS := HS'
    clear HS'
    have hsq := HU'.out.lt
    obtain ⟨y, g⟩ := blk_cell (i := 4) HU'.out.bx
    simp at y
    go_upto_region 11 with fail
    obtain ⟨wb4, hw⟩ : ∃ wz, wz = wa4.setCell ⟨p + 1, 4, none⟩ (.int .i64 (n : Nat)) := ⟨_, rfl⟩
    rw [← hw]
    have HU : Hid (UnQ w p #[.int .i64 (c : Nat), .int .i64 (lf : Nat), .int .i64 (s : Nat), .int .i64 (ec : Nat), .int .i64 (n : Nat), .int .i64 0, .bool false, .slice none 0 0, .slice none 0 0, .int .i64 0] [] (.slice none 0 0) R5 wb4) := Lib.hid (by rw [hw]; exact HU'.out.set hwp 4 _)
    clear hw hsq y g HU'
    go_wp2_with fail
    refine (qnum_any _ p 6 R5 _ HU.out.rd (by decide) (by decide) HS.out.len HS.out.err).mono ?_
    have HS' := Lib.hid (HS.out.num 6)
    have hXL := Rd.num_lt R5 6
    obtain ⟨⟨x, R6⟩, hX⟩ : ∃ X, X = R5.num 6 := ⟨_, rfl⟩
    rw [← hX] at HS' hXL ⊢
    have HX5 := Kep.mk hX
    rintro e wa5 ⟨rfl, hr, hf⟩
    simp only at hr hXL ⊢
    have HU' := Lib.hid (HU.out.fr hwp hf hr)
    clear hr hf hX HU HS hXL
    have HS := HS'
    clear HS'
    have hsq := HU'.out.lt
    obtain ⟨y, g⟩ := blk_cell (i := 5) HU'.out.bx
    simp at y
    go_upto_region 12 with fail
    obtain ⟨wb5, hw⟩ : ∃ wz, wz = wa5.setCell ⟨p + 1, 5, none⟩ (.int .i64 (x : Nat)) := ⟨_, rfl⟩
    rw [← hw]
    have HU : Hid (UnQ w p #[.int .i64 (c : Nat), .int .i64 (lf : Nat), .int .i64 (s : Nat), .int .i64 (ec : Nat), .int .i64 (n : Nat), .int .i64 (x : Nat), .bool false, .slice none 0 0, .slice none 0 0, .int .i64 0] [] (.slice none 0 0) R6 wb5) := Lib.hid (by rw [hw]; exact HU'.out.set hwp 5 _)
    clear hw hsq y g HU'
    go_wp2_with fail
    refine (qnum_any _ p 1 R6 _ HU.out.rd (by decide) (by decide) HS.out.len HS.out.err).mono ?_
    have HS' := Lib.hid (HS.out.num 1)
    have hXL := Rd.num_lt R6 1
    obtain ⟨⟨th, R7⟩, hX⟩ : ∃ X, X = R6.num 1 := ⟨_, rfl⟩
    rw [← hX] at HS' hXL ⊢
    have HX6 := Kep.mk hX
    rintro e wa6 ⟨rfl, hr, hf⟩
    simp only at hr hXL ⊢
    have HU' := Lib.hid (HU.out.fr hwp hf hr)
    clear hr hf hX HU HS hXL
    have HS := HS'
    clear HS'
    obtain ⟨pt, hpt⟩ : ∃ pt, ((th : Int) == 1) = pt := ⟨_, rfl⟩
    have HPT : Kep (pt = decide (th = 1)) := Kep.mk (by rw [← hpt, Bool.eq_iff_iff]; simp; omega)
    have hsq := HU'.out.lt
    obtain ⟨y, g⟩ := blk_cell (i := 6) HU'.out.bx
    simp at y
    go_upto_region 14 with fail
    obtain ⟨wb6, hw⟩ : ∃ wz, wz = wa6.setCell ⟨p + 1, 6, none⟩ (.bool pt) := ⟨_, rfl⟩
    rw [← hw]
    have HU : Hid (UnQ w p #[.int .i64 (c : Nat), .int .i64 (lf : Nat), .int .i64 (s : Nat), .int .i64 (ec : Nat), .int .i64 (n : Nat), .int .i64 (x : Nat), .bool pt, .slice none 0 0, .slice none 0 0, .int .i64 0] [] (.slice none 0 0) R7 wb6) := Lib.hid (by rw [hw]; exact HU'.out.set hwp 6 _)
    clear hw hsq y g HU'
    clear hpt
    go_wp2_with fail
    refine (qnum_any _ p 6 R7 _ HU.out.rd (by decide) (by decide) HS.out.len HS.out.err).mono ?_
    have HS' := Lib.hid (HS.out.num 6)
    have hXL := Rd.num_lt R7 6
    obtain ⟨⟨sq, R8⟩, hX⟩ : ∃ X, X = R7.num 6 := ⟨_, rfl⟩
    rw [← hX] at HS' hXL ⊢
    have HX7 := Kep.mk hX
    rintro e wa7 ⟨rfl, hr, hf⟩
    simp only at hr hXL ⊢
    have HU' := Lib.hid (HU.out.fr hwp hf hr)
    clear hr hf hX HU HS hXL
    have HS := HS'
    clear HS'
    have hsq := HU'.out.lt
    obtain ⟨y, g⟩ := blk_cell (i := 9) HU'.out.bx
    simp at y
    go_upto_region 15 with fail
    obtain ⟨wb7, hw⟩ : ∃ wz, wz = wa7.setCell ⟨p + 1, 9, none⟩ (.int .i64 (sq : Nat)) := ⟨_, rfl⟩
    rw [← hw]
    have HU : Hid (UnQ w p #[.int .i64 (c : Nat), .int .i64 (lf : Nat), .int .i64 (s : Nat), .int .i64 (ec : Nat), .int .i64 (n : Nat), .int .i64 (x : Nat), .bool pt, .slice none 0 0, .slice none 0 0, .int .i64 (sq : Nat)] [] (.slice none 0 0) R8 wb7) := Lib.hid (by rw [hw]; exact HU'.out.set hwp 9 _)
    clear hw hsq y g HU'
    have HN1 : Kep (unpN' l = ([c, lf, s, ec, n, x, th, sq], R8)) := Kep.mk (by
      rw [HN.out]
      have h0 := HX0.out; have h1 := HX1.out; have h2 := HX2.out; have h3 := HX3.out; have h4 := HX4.out; have h5 := HX5.out; have h6 := HX6.out; have h7 := HX7.out
      simp only [rdNums, wsP, List.foldl_cons, List.foldl_nil, rdStep, ← h0, ← h1, ← h2, ← h3, ← h4, ← h5, ← h6, ← h7]
      rfl)
    clear HX0 HX1 HX2 HX3 HX4 HX5 HX6 HX7 HN
    go_wp2_with fail
    refine (qblob_any _ p 64 R8 _ HU.out.rd (by decide) HS.out.len HS.out.err (HS.out.num 2).err).mono ?_
    have HS' := Lib.hid (HS.out.blob 64)
    obtain ⟨⟨D, R9⟩, hX⟩ : ∃ X, X = R8.blob 64 := ⟨_, rfl⟩
    rw [← hX] at HS' ⊢
    have HDD : Kep (unpD l = (D, R9)) := Kep.mk (by show (unpN' l).2.blob 64 = _; rw [HN1.out]; exact hX.symm)
    rintro e wa8 ⟨dv, rfl, hdv, hr, hf⟩
    simp only at hr hdv ⊢
    obtain ⟨da, dc, rfl⟩ := hdv.shape
    have HU' := Lib.hid ((HU.out.fr hwp hf hr).dat hdv)
    clear hr hf hX HU HS hdv
    have HS := HS'
    clear HS'
    have hsq := HU'.out.lt
    obtain ⟨y, g⟩ := blk_cell (i := 7) HU'.out.bx
    simp at y
    go_upto_region 16 with fail
    obtain ⟨wb8, hw⟩ : ∃ wz, wz = wa8.setCell ⟨p + 1, 7, none⟩ (.slice da D.length dc) := ⟨_, rfl⟩
    rw [← hw]
    have HU : Hid (UnQ w p #[.int .i64 (c : Nat), .int .i64 (lf : Nat), .int .i64 (s : Nat), .int .i64 (ec : Nat), .int .i64 (n : Nat), .int .i64 (x : Nat), .bool pt, .slice da D.length dc, .slice none 0 0, .int .i64 (sq : Nat)] D (.slice da D.length dc) R9 wb8) := Lib.hid (by rw [hw]; exact HU'.out.set hwp 7 _)
    clear hw hsq y g HU'
    go_wp2_with fail
    refine (qnum_any _ p 1 R9 _ HU.out.rd (by decide) (by decide) HS.out.len HS.out.err).mono ?_
    have HS' := Lib.hid (HS.out.num 1)
    have hXL := Rd.num_lt R9 1
    obtain ⟨⟨nk, R10⟩, hX⟩ : ∃ X, X = R9.num 1 := ⟨_, rfl⟩
    rw [← hX] at HS' hXL ⊢
    have HX9 := Kep.mk hX
    rintro e wa9 ⟨rfl, hr, hf⟩
    simp only at hr hXL ⊢
    have HU' := Lib.hid (HU.out.fr hwp hf hr)
    clear hr hf hX HU HS 
    have HS := HS'
    clear HS'
    have HU := HU'
    have HKK : Kep (unpK l = (nk, R10)) := Kep.mk (by show (unpD l).2.num 1 = _; rw [HDD.out]; exact HX9.out.symm)
    have HFF : Kep (unpF l = if 120 < nk then R10.fail 11 else R10) := Kep.mk (by unfold unpF; rw [HKK.out])
    have HYY : Kep (unpKs l = rdKeys nk (unpF l)) := Kep.mk (by unfold unpKs; rw [HKK.out])
    clear HX9 HU'
    generalize unpF l = F at *
    go_upto_if 59 with fail
    go_cut [] (fun wx => UnQ w p #[.int .i64 (c : Nat), .int .i64 (lf : Nat), .int .i64 (s : Nat), .int .i64 (ec : Nat), .int .i64 (n : Nat), .int .i64 (x : Nat), .bool pt, .slice da D.length dc, .slice none 0 0, .int .i64 (sq : Nat)] D (.slice da D.length dc) F wx ∧ F.small)
    case first =>
      by_cases h12 : 120 < nk
      · have h12' := lt120 h12
        have HCC : Kep (F = R10.fail 11) := Kep.mk (by rw [HFF.out, if_pos h12])
        clear h12 HFF HYY hXL
        go_wp2_with fail
        refine (qfail_any _ p R10 11 _ HU.out.rd (by omega) HS.out.err).mono ?_
        rintro e w6 ⟨rfl, hr6, hf6⟩
        go_wp2_with fail
        go_meet
        exact ⟨by rw [HCC.out]; exact HU.out.fr hwp hf6 hr6, by rw [HCC.out]; exact HS.out.fail (by decide)⟩
      · have h12' := nlt120 h12
        have HCC : Kep (F = R10) := Kep.mk (by rw [HFF.out, if_neg h12])
        clear h12 HFF HYY hXL
        go_wp2_with fail
        go_meet
        exact ⟨by rw [HCC.out]; exact HU.out, by rw [HCC.out]; exact HS.out⟩
    case rest =>
      obtain ⟨hU, hS⟩ := hcut
      have HU0 := Lib.hid hU
      have HS0 := Lib.hid hS
      obtain ⟨i0, hi, hz0, hz1, hz2⟩ := info_parts infoKey
      clear hU hS HU HS HFF
      go_wp2
      go_loopw [10] (fun q10 wr => ∃ k : Nat, k ≤ nk ∧ q10 = .int .i64 k ∧ ∃ (r : Rd) (acc : List KyD) (ka : Option Addr) (kc : Nat), UnQ w p #[.int .i64 (c : Nat), .int .i64 (lf : Nat), .int .i64 (s : Nat), .int .i64 (ec : Nat), .int .i64 (n : Nat), .int .i64 (x : Nat), .bool pt, .slice da D.length dc, .slice ka acc.length kc, .int .i64 (sq : Nat)] D (.slice da D.length dc) r wr ∧ r.small ∧ EnRow Enc.key 89 (fun b => b < w.heap.size) (p + 2) wr (.slice ka acc.length kc) acc ∧ acc.length ≤ k ∧ unpKs l = (acc ++ (rdKeys (nk - k) r).1, (rdKeys (nk - k) r).2)) (fun q10 _ => nk - (intOf q10).toNat)
      case atStart => exact ⟨0, Nat.zero_le _, rfl, F, [], none, 0, HU0.out, HS0.out, EnRow.nil _ _ _ _ _, Nat.zero_le _, by rw [HYY.out]; rfl⟩
      case round =>
        obtain ⟨k, hk, rfl, r, acc, ka, kc, hU, hS, hE, hal, hY⟩ := hrel
        have HU := Lib.hid hU
        have HS := Lib.hid hS
        have HE := Lib.hid hE
        have HY := Kep.mk hY
        have hpr := hU.lt
        obtain ⟨rv, hrb, hrv⟩ := hU.rd.ex
        obtain ⟨e1, g1⟩ := blk_cell (i := 1) hrb
        simp at e1
        clear hU hS hE hY HU0 HS0 HYY hrb hrv
        by_cases hlt : k < nk
        · by_cases h0 : r.e = 0
          · have H0 := Kep.mk h0
            have t1 : ((r.e : Int) == 0) = true := by simp [h0]
            clear h0
            go_upto_region 23 with fail
            obtain ⟨wy, hwy⟩ : ∃ wy, wy = wr.alloc (.cells #[.string ⟨#[]⟩, .slice none 0 0] 89) := ⟨_, rfl⟩
            rw [← hwy]
            have hby : Below wr.heap.size wr wy := by rw [hwy]; ((repeat' (first | exact Below.refl _ _ | refine below_drewN ?_ _ | refine Below.drew ?_ | refine Below.alloc ?_ ?_ _ | refine Below.trans ?_ (Below.mono (by assumption) ?_))); all_goals (first | exact Nat.le_refl _ | exact Below.size (by assumption) | omega | (simp; done) | (simp; omega)))
            have KB : Hid (wy.heap[wr.heap.size]? = some (.cells #[.string ⟨#[]⟩, .slice none 0 0] 89 (0, 0))) := Lib.hid (by rw [hwy]; exact heap_alloc_new _ _)
            have HOWN : Hid (∀ g, (Value.slice ka acc.length kc).ownBlock = some g → g ≠ wr.heap.size) := Lib.hid fun g h => by have := (HE.out.lt g h).2; omega
            replace HU := Lib.hid (HU.out.ext hby)
            replace HE := Lib.hid (HE.out.ext hby)
            obtain ⟨po, hpo⟩ : ∃ po, po = wr.heap.size := ⟨_, rfl⟩
            rw [← hpo] at KB hpr HOWN ⊢
            have hpl : po < wy.heap.size := (Array.getElem?_eq_some_iff.1 KB.out).1
            have HKY : Kep (rdKey r = (⟨⟨(r.blob 12).1.toArray⟩, ((r.blob 12).2.blob 2048).1⟩, ((r.blob 12).2.blob 2048).2)) := Kep.mk rfl
            clear hwy hby hpo e1 g1 t1
            go_wp2_with fail
            refine (qblob_any _ p 12 r _ HU.out.rd (by decide) HS.out.len HS.out.err (HS.out.num 2).err).mono ?_
            rintro e wa ⟨vn, rfl, hvn, hr, hf⟩
            have HS1 := Lib.hid (HS.out.blob 12)
            generalize r.blob 12 = X at *
            obtain ⟨nm, r2⟩ := X
            simp only at hr hvn HS1 HKY ⊢
            obtain ⟨na, nc, rfl⟩ := hvn.shape
            have hcv := cnv_bytes hvn wa (Below.refl _ _)
            have HU1 := Lib.hid (HU.out.fr hwp hf hr)
            have HE1 := Lib.hid (HE.out.same2 ⟨hf.size, fun b hb hl => hf.block b hl (by omega)⟩ ⟨hf.size, fun b hb hl => hf.block b hl (by omega)⟩)
            have K1 := Lib.hid ((hf.block po hpl (by omega)).trans KB.out)
            have hpl1 : po < wa.heap.size := by have := hf.size; omega
            obtain ⟨y, g⟩ := blk_cell (i := 0) K1.out
            simp at y
            clear hr hf hvn HU HE KB hpl HS
            go_upto_region 24 with fail
            obtain ⟨wb, hw⟩ : ∃ wz, wz = wa.setCell ⟨po, 0, none⟩ (.string ⟨nm.toArray⟩) := ⟨_, rfl⟩
            rw [← hw]
            have hbs : Below (p + 2) wa wb := by rw [hw]; exact Below.setCell (p := ⟨po, 0, none⟩) (Below.refl _ _) (by show p + 2 ≤ po; omega) _
            have K2 : Hid (wb.heap[po]? = some (.cells #[.string ⟨nm.toArray⟩, .slice none 0 0] 89 (0, 0))) := Lib.hid (by rw [hw]; exact set_blk3 (j := 0) K1.out)
            have HU2 := Lib.hid (HU1.out.low hwp hbs)
            have HE2 : Hid (EnRow Enc.key 89 (fun b => b < w.heap.size) (p + 2) wb (.slice ka acc.length kc) acc) := Lib.hid (by rw [hw]; exact HE1.out.set (fun e => HOWN.out _ e rfl) (by omega))
            have hpl2 : po < wb.heap.size := (Array.getElem?_eq_some_iff.1 K2.out).1
            clear hw hbs HU1 HE1 K1 y g hpl1 hcv
            go_wp2_with fail
            refine (qblob_any _ p 2048 r2 _ HU2.out.rd (by decide) HS1.out.len HS1.out.err (HS1.out.num 2).err).mono ?_
            rintro e wc ⟨vv, rfl, hvv, hr, hf⟩
            have HS2 := Lib.hid (HS1.out.blob 2048)
            generalize r2.blob 2048 = X at *
            obtain ⟨vl, r3⟩ := X
            simp only at hr hvv HS2 HKY ⊢
            obtain ⟨va, vc, rfl⟩ := hvv.shape
            have HU3 := Lib.hid (HU2.out.fr hwp hf hr)
            have HE3 := Lib.hid (HE2.out.same2 ⟨hf.size, fun b hb hl => hf.block b hl (by omega)⟩ ⟨hf.size, fun b hb hl => hf.block b hl (by omega)⟩)
            have K3 := Lib.hid ((hf.block po hpl2 (by omega)).trans K2.out)
            have HVV := Lib.hid hvv
            have hpl3 : po < wc.heap.size := by have := hf.size; omega
            obtain ⟨y, g⟩ := blk_cell (i := 1) K3.out
            simp at y
            clear hr hf hvv HU2 HE2 K2 hpl2 HS1
            go_upto_region 25 with fail
            obtain ⟨wd, hw⟩ : ∃ wz, wz = wc.setCell ⟨po, 1, none⟩ (.slice va vl.length vc) := ⟨_, rfl⟩
            rw [← hw]
            have hbs : Below (p + 2) wc wd := by rw [hw]; exact Below.setCell (p := ⟨po, 1, none⟩) (Below.refl _ _) (by show p + 2 ≤ po; omega) _
            have K4 : Hid (wd.heap[po]? = some (.cells #[.string ⟨nm.toArray⟩, .slice va vl.length vc] 89 (0, 0))) := Lib.hid (by rw [hw]; exact set_blk3 (j := 1) K3.out)
            have HU4 := Lib.hid (HU3.out.low hwp hbs)
            have HE4 : Hid (EnRow Enc.key 89 (fun b => b < w.heap.size) (p + 2) wd (.slice ka acc.length kc) acc) := Lib.hid (by rw [hw]; exact HE3.out.set (fun e => HOWN.out _ e rfl) (by omega))
            have HVD : Hid (RB (fun b => b < w.heap.size) wd (.slice va vl.length vc) vl) := Lib.hid (HVV.out.mono ⟨by rw [hw]; simp [World.setCell], fun b hb _ => by rw [hw]; exact Below.heap_setCell _ _ _ _ (show b ≠ po by omega)⟩)
            have hpl4 : po < wd.heap.size := (Array.getElem?_eq_some_iff.1 K4.out).1
            clear hw hbs HU3 HE3 K3 y g hpl3 HVV
            obtain ⟨k0, -⟩ := blk_cell (i := 0) K4.out
            obtain ⟨k1, -⟩ := blk_cell (i := 1) K4.out
            obtain ⟨y8, g8⟩ := blk_cell (i := 8) HU4.out.bx
            simp at k0 k1 y8
            have HK1 : Hid (Enc.key.rd (fun b => b < w.heap.size) wd [.string ⟨nm.toArray⟩, .slice va vl.length vc] ⟨⟨nm.toArray⟩, vl⟩) := Lib.hid ⟨_, rfl, HVD.out⟩
            go_wp2_with (first | (at_builtin; refine stop_in ?_) | go_in)
            unfold Stop
            refine wpList_push wd (by rfl) (.tmp 83) (.tmp 85) 36 (by rfl) Enc.key (fun b => b < w.heap.size) (p + 2) 89 i0 _ 40 Tryz.underlying36 hi hz0 hz1 hz2 (by rfl) (by decide) (by decide) _ acc (by rfl) HE4.out [.string ⟨nm.toArray⟩, .slice va vl.length vc] 89 ⟨⟨nm.toArray⟩, vl⟩ (by rfl) HK1.out (by omega) (by omega) (fun b hb => by omega) ?_
            intro v' w' hE' hB'
            obtain ⟨va', ca', rfl⟩ := hE'.shape
            have HU5 := Lib.hid (HU4.out.low hwp hB')
            have HE5 := Lib.hid (show EnRow Enc.key 89 (fun b => b < w.heap.size) (p + 2) w' (.slice va' (acc.length + 1) ca') (acc ++ [⟨⟨nm.toArray⟩, vl⟩]) from by have h := hE'; rw [List.length_append] at h; exact h)
            have hpw : p + 1 < w'.heap.size := HU5.out.lt
            clear hE' hB' HU4 HE4 K4 HK1 HVD k0 k1 y8 g8 hpl4
            obtain ⟨y8, g8⟩ := blk_cell (i := 8) HU5.out.bx
            simp at y8
            go_wp2
            go_roundw
            case rel =>
              refine ⟨k + 1, by omega, by go_num, r3, acc ++ [⟨⟨nm.toArray⟩, vl⟩], va', ca', ?_, HS2.out, ?_, by simp; omega, rdKeys_step hlt H0.out HKY.out HY.out⟩
              · have := HU5.out.set hwp 8 (.slice va' (acc.length + 1) ca')
                simpa using this
              · have := HE5.out.set (p := p + 1) (j := 8) (x := .slice va' (acc.length + 1) ca') (fun e => by have := (HE5.out.lt _ e).1; omega) (by omega)
                simpa using this
            case measure => simp [intOf]; omega
          · have HYE := Kep.mk (rdKeys_end (.inl h0) HY.out)
            have t1 : ((r.e : Int) == 0) = false := by simp [h0]
            clear h0
            go_wp2_with fail
            refine (qend_any _ p r _ HU.out.rd HS.out.len HS.out.err).mono ?_
            rintro e w7 ⟨rfl, hr7, hf7⟩
            have HU7 := Lib.hid (HU.out.fr hwp hf7 hr7)
            have HE7 := Lib.hid (HE.out.same2 ⟨hf7.size, fun b hb hl => hf7.block b hl (by omega)⟩ ⟨hf7.size, fun b hb hl => hf7.block b hl (by omega)⟩)
            have hacc : acc.length ≤ 100000 := by omega
            clear hr7 hf7 HU HE e1 g1
            by_cases hfe : r.fin.e = 0
            · have u0 : ((r.fin.e : Int) != 0) = false := by simp [hfe]
              have u1 : ((r.fin.e : Int) == 0) = true := by simp [hfe]
              have HPE := Kep.mk (unpPE_may HOE.out HYE.out hfe)
              have HPP := Kep.mk (unpP_is HN1.out HDD.out HYE.out HPT.out)
              have HTHN := Kep.mk (unpN_six HN1.out)
              clear hfe
              obtain ⟨y0, g0⟩ := blk_cell (i := 0) HU7.out.bx
              obtain ⟨y1, g1⟩ := blk_cell (i := 1) HU7.out.bx
              obtain ⟨y2, g2⟩ := blk_cell (i := 2) HU7.out.bx
              obtain ⟨y3, g3⟩ := blk_cell (i := 3) HU7.out.bx
              obtain ⟨y4, g4⟩ := blk_cell (i := 4) HU7.out.bx
              obtain ⟨y5, g5⟩ := blk_cell (i := 5) HU7.out.bx
              obtain ⟨y6, g6⟩ := blk_cell (i := 6) HU7.out.bx
              obtain ⟨y7, g7⟩ := blk_cell (i := 7) HU7.out.bx
              obtain ⟨y8, g8⟩ := blk_cell (i := 8) HU7.out.bx
              obtain ⟨y9, g9⟩ := blk_cell (i := 9) HU7.out.bx
              simp at y0 y1 y2 y3 y4 y5 y6 y7 y8 y9
              go_wp2_with fail
              refine (rmayp_any _ _ ⟨c, lf, s, ec, n, x, pt, ⟨D, acc, sq⟩⟩ _ _ _ HU7.out.d (HE7.out.sle (A' := fun b => b ≠ w.heap.size) (fun b _ hb => by omega) (fun b hb => by omega)) hacc).mono ?_
              rintro e w8 ⟨rfl, hb8⟩
              have HB8 := Lib.hid (HU7.out.ext hb8)
              have HOUT : Hid (RB (fun b => b ≠ w.heap.size) w8 (.slice da D.length dc) D ∧ SlE Enc.key (fun b => b ≠ w.heap.size) w8 (.slice ka acc.length kc) acc) := Lib.hid ⟨HB8.out.d.weak fun b _ hb => by omega, (HE7.out.ext hb8).sle (fun b _ hb => by omega) (fun b hb => by omega)⟩
              clear hb8 HU7 HE7
              clear y0 g0 y1 g1 y2 g2 y3 g3 y4 g4 y5 g5 y6 g6 y7 g7 y8 g8 y9 g9
              obtain ⟨y0, g0⟩ := blk_cell (i := 0) HB8.out.bx
              obtain ⟨y1, g1⟩ := blk_cell (i := 1) HB8.out.bx
              obtain ⟨y2, g2⟩ := blk_cell (i := 2) HB8.out.bx
              obtain ⟨y3, g3⟩ := blk_cell (i := 3) HB8.out.bx
              obtain ⟨y4, g4⟩ := blk_cell (i := 4) HB8.out.bx
              obtain ⟨y5, g5⟩ := blk_cell (i := 5) HB8.out.bx
              obtain ⟨y6, g6⟩ := blk_cell (i := 6) HB8.out.bx
              obtain ⟨y7, g7⟩ := blk_cell (i := 7) HB8.out.bx
              obtain ⟨y8, g8⟩ := blk_cell (i := 8) HB8.out.bx
              obtain ⟨y9, g9⟩ := blk_cell (i := 9) HB8.out.bx
              simp at y0 y1 y2 y3 y4 y5 y6 y7 y8 y9
              obtain ⟨x0, f0⟩ := blk_cell (i := 0) HB8.out.rr
              obtain ⟨x1, f1⟩ := blk_cell (i := 1) HB8.out.rr
              obtain ⟨x2, f2⟩ := blk_cell (i := 2) HB8.out.rr
              obtain ⟨x3, f3⟩ := blk_cell (i := 3) HB8.out.rr
              obtain ⟨x4, f4⟩ := blk_cell (i := 4) HB8.out.rr
              obtain ⟨x5, f5⟩ := blk_cell (i := 5) HB8.out.rr
              obtain ⟨x6, f6⟩ := blk_cell (i := 6) HB8.out.rr
              obtain ⟨x7, f7⟩ := blk_cell (i := 7) HB8.out.rr
              obtain ⟨x8, f8⟩ := blk_cell (i := 8) HB8.out.rr
              obtain ⟨x9, f9⟩ := blk_cell (i := 9) HB8.out.rr
              simp [rpZ, rpC, RpD.none, ObD.none] at x0 x1 x2 x3 x4 x5 x6 x7 x8 x9
              cases hm : mayRP ⟨(c : Int), (lf : Int), (s : Int), (ec : Int), (n : Int), (x : Int), pt, ⟨D, acc, (sq : Int)⟩⟩ with
              | true =>
                by_cases hth : th ≤ 1
                · have HEQ := Kep.mk (unpB_yes HPE.out HPP.out HTHN.out hm hth)
                  have v1 := nlt1 hth
                  clear hm hth
                  go_wp2
                  (try simp only [Exit.inBlock, Exit.then])
                  refine bodyPost_ret (results_cell_tmp_row rfl _ _ w.heap.size 40 _ (0, 0) _ rfl (set10_blk HB8.out.rr) Tryz.underlying40 rfl (by kernel_rfl)) rfl ?_
                  rw [HEQ.out]
                  exact ⟨_, _, rfl, (HOUT.out.1.mono (same10 (A := fun b => b ≠ w.heap.size) (fun h => h rfl))).weak fun _ _ _ => trivial, SlE.weak (SlE.mono HOUT.out.2 (same10 (A := fun b => b ≠ w.heap.size) (fun h => h rfl))) fun _ _ _ => trivial, below10 HB8.out.b (Nat.le_refl _)⟩
                · have HEQ := Kep.mk (unpB_big HPE.out HTHN.out hth)
                  have v1 := lt1 hth
                  clear hm hth
                  go_wp2
                  (try simp only [Exit.inBlock, Exit.then])
                  refine bodyPost_ret (results_cell_tmp_row rfl _ _ w.heap.size 40 _ (0, 0) _ rfl (set10_blk HB8.out.rr) Tryz.underlying40 rfl (by kernel_rfl)) rfl ?_
                  exact UnpQ.no HEQ.out (below10 HB8.out.b (Nat.le_refl _))
              | false =>
                have HEQ := Kep.mk (unpB_not HPE.out HPP.out hm)
                clear hm
                go_wp2
                (try simp only [Exit.inBlock, Exit.then])
                refine bodyPost_ret (results_cell_tmp_row rfl _ _ w.heap.size 40 _ (0, 0) _ rfl (set10_blk HB8.out.rr) Tryz.underlying40 rfl (by kernel_rfl)) rfl ?_
                exact UnpQ.no HEQ.out (below10 HB8.out.b (Nat.le_refl _))
            · have u0 : ((r.fin.e : Int) != 0) = true := by simp [hfe]
              have u1 : ((r.fin.e : Int) == 0) = false := by simp [hfe]
              have HEQ := Kep.mk (unpB_fin HOE.out HYE.out hfe)
              have HB8 := HU7
              clear hfe
              obtain ⟨x0, f0⟩ := blk_cell (i := 0) HB8.out.rr
              obtain ⟨x1, f1⟩ := blk_cell (i := 1) HB8.out.rr
              obtain ⟨x2, f2⟩ := blk_cell (i := 2) HB8.out.rr
              obtain ⟨x3, f3⟩ := blk_cell (i := 3) HB8.out.rr
              obtain ⟨x4, f4⟩ := blk_cell (i := 4) HB8.out.rr
              obtain ⟨x5, f5⟩ := blk_cell (i := 5) HB8.out.rr
              obtain ⟨x6, f6⟩ := blk_cell (i := 6) HB8.out.rr
              obtain ⟨x7, f7⟩ := blk_cell (i := 7) HB8.out.rr
              obtain ⟨x8, f8⟩ := blk_cell (i := 8) HB8.out.rr
              obtain ⟨x9, f9⟩ := blk_cell (i := 9) HB8.out.rr
              simp [rpZ, rpC, RpD.none, ObD.none] at x0 x1 x2 x3 x4 x5 x6 x7 x8 x9
              go_wp2
              (try simp only [Exit.inBlock, Exit.then])
              refine bodyPost_ret (results_cell_tmp_row rfl _ _ w.heap.size 40 _ (0, 0) _ rfl (set10_blk HB8.out.rr) Tryz.underlying40 rfl (by kernel_rfl)) rfl ?_
              exact UnpQ.no HEQ.out (below10 HB8.out.b (Nat.le_refl _))
        · obtain rfl : k = nk := by omega
          have HYE := Kep.mk (rdKeys_end (.inr rfl) HY.out)
          clear hlt
          go_wp2_with fail
          refine (qend_any _ p r _ HU.out.rd HS.out.len HS.out.err).mono ?_
          rintro e w7 ⟨rfl, hr7, hf7⟩
          have HU7 := Lib.hid (HU.out.fr hwp hf7 hr7)
          have HE7 := Lib.hid (HE.out.same2 ⟨hf7.size, fun b hb hl => hf7.block b hl (by omega)⟩ ⟨hf7.size, fun b hb hl => hf7.block b hl (by omega)⟩)
          have hacc : acc.length ≤ 100000 := by omega
          clear hr7 hf7 HU HE e1 g1
          by_cases hfe : r.fin.e = 0
          · have u0 : ((r.fin.e : Int) != 0) = false := by simp [hfe]
            have u1 : ((r.fin.e : Int) == 0) = true := by simp [hfe]
            have HPE := Kep.mk (unpPE_may HOE.out HYE.out hfe)
            have HPP := Kep.mk (unpP_is HN1.out HDD.out HYE.out HPT.out)
            have HTHN := Kep.mk (unpN_six HN1.out)
            clear hfe
            obtain ⟨y0, g0⟩ := blk_cell (i := 0) HU7.out.bx
            obtain ⟨y1, g1⟩ := blk_cell (i := 1) HU7.out.bx
            obtain ⟨y2, g2⟩ := blk_cell (i := 2) HU7.out.bx
            obtain ⟨y3, g3⟩ := blk_cell (i := 3) HU7.out.bx
            obtain ⟨y4, g4⟩ := blk_cell (i := 4) HU7.out.bx
            obtain ⟨y5, g5⟩ := blk_cell (i := 5) HU7.out.bx
            obtain ⟨y6, g6⟩ := blk_cell (i := 6) HU7.out.bx
            obtain ⟨y7, g7⟩ := blk_cell (i := 7) HU7.out.bx
            obtain ⟨y8, g8⟩ := blk_cell (i := 8) HU7.out.bx
            obtain ⟨y9, g9⟩ := blk_cell (i := 9) HU7.out.bx
            simp at y0 y1 y2 y3 y4 y5 y6 y7 y8 y9
            go_wp2_with fail
            refine (rmayp_any _ _ ⟨c, lf, s, ec, n, x, pt, ⟨D, acc, sq⟩⟩ _ _ _ HU7.out.d (HE7.out.sle (A' := fun b => b ≠ w.heap.size) (fun b _ hb => by omega) (fun b hb => by omega)) hacc).mono ?_
            rintro e w8 ⟨rfl, hb8⟩
            have HB8 := Lib.hid (HU7.out.ext hb8)
            have HOUT : Hid (RB (fun b => b ≠ w.heap.size) w8 (.slice da D.length dc) D ∧ SlE Enc.key (fun b => b ≠ w.heap.size) w8 (.slice ka acc.length kc) acc) := Lib.hid ⟨HB8.out.d.weak fun b _ hb => by omega, (HE7.out.ext hb8).sle (fun b _ hb => by omega) (fun b hb => by omega)⟩
            clear hb8 HU7 HE7
            clear y0 g0 y1 g1 y2 g2 y3 g3 y4 g4 y5 g5 y6 g6 y7 g7 y8 g8 y9 g9
            obtain ⟨y0, g0⟩ := blk_cell (i := 0) HB8.out.bx
            obtain ⟨y1, g1⟩ := blk_cell (i := 1) HB8.out.bx
            obtain ⟨y2, g2⟩ := blk_cell (i := 2) HB8.out.bx
            obtain ⟨y3, g3⟩ := blk_cell (i := 3) HB8.out.bx
            obtain ⟨y4, g4⟩ := blk_cell (i := 4) HB8.out.bx
            obtain ⟨y5, g5⟩ := blk_cell (i := 5) HB8.out.bx
            obtain ⟨y6, g6⟩ := blk_cell (i := 6) HB8.out.bx
            obtain ⟨y7, g7⟩ := blk_cell (i := 7) HB8.out.bx
            obtain ⟨y8, g8⟩ := blk_cell (i := 8) HB8.out.bx
            obtain ⟨y9, g9⟩ := blk_cell (i := 9) HB8.out.bx
            simp at y0 y1 y2 y3 y4 y5 y6 y7 y8 y9
            obtain ⟨x0, f0⟩ := blk_cell (i := 0) HB8.out.rr
            obtain ⟨x1, f1⟩ := blk_cell (i := 1) HB8.out.rr
            obtain ⟨x2, f2⟩ := blk_cell (i := 2) HB8.out.rr
            obtain ⟨x3, f3⟩ := blk_cell (i := 3) HB8.out.rr
            obtain ⟨x4, f4⟩ := blk_cell (i := 4) HB8.out.rr
            obtain ⟨x5, f5⟩ := blk_cell (i := 5) HB8.out.rr
            obtain ⟨x6, f6⟩ := blk_cell (i := 6) HB8.out.rr
            obtain ⟨x7, f7⟩ := blk_cell (i := 7) HB8.out.rr
            obtain ⟨x8, f8⟩ := blk_cell (i := 8) HB8.out.rr
            obtain ⟨x9, f9⟩ := blk_cell (i := 9) HB8.out.rr
            simp [rpZ, rpC, RpD.none, ObD.none] at x0 x1 x2 x3 x4 x5 x6 x7 x8 x9
            cases hm : mayRP ⟨(c : Int), (lf : Int), (s : Int), (ec : Int), (n : Int), (x : Int), pt, ⟨D, acc, (sq : Int)⟩⟩ with
            | true =>
              by_cases hth : th ≤ 1
              · have HEQ := Kep.mk (unpB_yes HPE.out HPP.out HTHN.out hm hth)
                have v1 := nlt1 hth
                clear hm hth
                go_wp2
                (try simp only [Exit.inBlock, Exit.then])
                refine bodyPost_ret (results_cell_tmp_row rfl _ _ w.heap.size 40 _ (0, 0) _ rfl (set10_blk HB8.out.rr) Tryz.underlying40 rfl (by kernel_rfl)) rfl ?_
                rw [HEQ.out]
                exact ⟨_, _, rfl, (HOUT.out.1.mono (same10 (A := fun b => b ≠ w.heap.size) (fun h => h rfl))).weak fun _ _ _ => trivial, SlE.weak (SlE.mono HOUT.out.2 (same10 (A := fun b => b ≠ w.heap.size) (fun h => h rfl))) fun _ _ _ => trivial, below10 HB8.out.b (Nat.le_refl _)⟩
              · have HEQ := Kep.mk (unpB_big HPE.out HTHN.out hth)
                have v1 := lt1 hth
                clear hm hth
                go_wp2
                (try simp only [Exit.inBlock, Exit.then])
                refine bodyPost_ret (results_cell_tmp_row rfl _ _ w.heap.size 40 _ (0, 0) _ rfl (set10_blk HB8.out.rr) Tryz.underlying40 rfl (by kernel_rfl)) rfl ?_
                exact UnpQ.no HEQ.out (below10 HB8.out.b (Nat.le_refl _))
            | false =>
              have HEQ := Kep.mk (unpB_not HPE.out HPP.out hm)
              clear hm
              go_wp2
              (try simp only [Exit.inBlock, Exit.then])
              refine bodyPost_ret (results_cell_tmp_row rfl _ _ w.heap.size 40 _ (0, 0) _ rfl (set10_blk HB8.out.rr) Tryz.underlying40 rfl (by kernel_rfl)) rfl ?_
              exact UnpQ.no HEQ.out (below10 HB8.out.b (Nat.le_refl _))
          · have u0 : ((r.fin.e : Int) != 0) = true := by simp [hfe]
            have u1 : ((r.fin.e : Int) == 0) = false := by simp [hfe]
            have HEQ := Kep.mk (unpB_fin HOE.out HYE.out hfe)
            have HB8 := HU7
            clear hfe
            obtain ⟨x0, f0⟩ := blk_cell (i := 0) HB8.out.rr
            obtain ⟨x1, f1⟩ := blk_cell (i := 1) HB8.out.rr
            obtain ⟨x2, f2⟩ := blk_cell (i := 2) HB8.out.rr
            obtain ⟨x3, f3⟩ := blk_cell (i := 3) HB8.out.rr
            obtain ⟨x4, f4⟩ := blk_cell (i := 4) HB8.out.rr
            obtain ⟨x5, f5⟩ := blk_cell (i := 5) HB8.out.rr
            obtain ⟨x6, f6⟩ := blk_cell (i := 6) HB8.out.rr
            obtain ⟨x7, f7⟩ := blk_cell (i := 7) HB8.out.rr
            obtain ⟨x8, f8⟩ := blk_cell (i := 8) HB8.out.rr
            obtain ⟨x9, f9⟩ := blk_cell (i := 9) HB8.out.rr
            simp [rpZ, rpC, RpD.none, ObD.none] at x0 x1 x2 x3 x4 x5 x6 x7 x8 x9
            go_wp2
            (try simp only [Exit.inBlock, Exit.then])
            refine bodyPost_ret (results_cell_tmp_row rfl _ _ w.heap.size 40 _ (0, 0) _ rfl (set10_blk HB8.out.rr) Tryz.underlying40 rfl (by kernel_rfl)) rfl ?_
            exact UnpQ.no HEQ.out (below10 HB8.out.b (Nat.le_refl _))
  · have h1 : unpPE l = (E0 : Int) := by
      have := HOE.out
      unfold unpPE
      rw [if_pos (by omega), this]
    have HEQ : Kep (unpB l = (RpD.none, (E0 : Int))) := Kep.mk (by unfold unpB; rw [if_neg (by rw [h1]; omega), h1])
    have u1 : ((E0 : Int) != 0) = true := by simp [hE0]
    clear h1 hE0
    obtain ⟨x0, f0⟩ := blk_cell (i := 0) B1.out
    obtain ⟨x1, f1⟩ := blk_cell (i := 1) B1.out
    obtain ⟨x2, f2⟩ := blk_cell (i := 2) B1.out
    obtain ⟨x3, f3⟩ := blk_cell (i := 3) B1.out
    obtain ⟨x4, f4⟩ := blk_cell (i := 4) B1.out
    obtain ⟨x5, f5⟩ := blk_cell (i := 5) B1.out
    obtain ⟨x6, f6⟩ := blk_cell (i := 6) B1.out
    obtain ⟨x7, f7⟩ := blk_cell (i := 7) B1.out
    obtain ⟨x8, f8⟩ := blk_cell (i := 8) B1.out
    obtain ⟨x9, f9⟩ := blk_cell (i := 9) B1.out
    simp [rpZ, rpC, RpD.none, ObD.none] at x0 x1 x2 x3 x4 x5 x6 x7 x8 x9
    go_wp2
    (try simp only [Exit.inBlock, Exit.then])
    refine bodyPost_ret (results_cell_tmp_row rfl _ _ w.heap.size 40 _ (0, 0) _ rfl (set10_blk B1.out) Tryz.underlying40 rfl (by kernel_rfl)) rfl ?_
    exact UnpQ.no HEQ.out (below10 W1.out (Nat.le_refl _))
end Go.Proofs.YtlgefkaafoidmaaGreatDoor
