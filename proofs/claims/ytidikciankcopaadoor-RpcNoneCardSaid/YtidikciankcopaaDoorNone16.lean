/- The walk of terrazzolaw16.RpcNone. -/
import Derived.Test.YtidikciankcopaaDoorSameR
import Derived.Test.YtidikciankcopaaDoorAwk16
namespace Go.Proofs.YtidikciankcopaaDoor
open Go.RowKit Go.WideShapes

set_option maxRecDepth 100000 in
set_option maxHeartbeats 8000000 in
theorem none_law (A B : Nat → Prop) (vq vp : Value) (q : RqD) (p : RpD) (now : Int) (w : World) (hT : TabW w) (hg0 : 0 < w.heap.size) (hq : RqV A w vq q) (hp : RpV B w vp p) :
    Calls Tryd.prog 7 #[vq, vp, .int .i64 now] w fun e w' => e = .returned (.bool true) ∧ Below w.heap.size w w' := by
  obtain ⟨ov, rfl, ho⟩ := hq
  obtain ⟨dv, kv, rfl, hd, hk⟩ := hp
  obtain ⟨oa, oc, rfl⟩ := ho.shape
  obtain ⟨da, dc, rfl⟩ := hd.shape
  obtain ⟨ka, kc, rfl⟩ := hk.shape
  have HT := Lib.hid hT
  have HG := Lib.hid hg0
  have HO := Lib.hid ho
  have HD := Lib.hid hd
  have HK := Lib.hid hk
  clear hT hg0 ho hd hk
  obtain ⟨qc, ql, qs, qk, qi, qw, qn, ⟨qo, qops⟩⟩ := q
  obtain ⟨pc, pl, ps, pe, pn, px, pt, ⟨pd, pk, po⟩⟩ := p
  simp only [rqV, rpV] at *
  go_enter Tryd.func7, Tryd.ntmps7
  go_wp2_with fail
  obtain ⟨w0, hw0⟩ : ∃ w0, w0 = (w.alloc (.cells #[.int .i64 qc, .int .i64 ql, .int .i64 qs, .int .i64 qk, .int .i64 qi, .int .i64 qw, .int .i64 qn, .string qo, .slice oa qops.length oc] 30)).alloc (.cells #[.int .i64 pc, .int .i64 pl, .int .i64 ps, .int .i64 pe, .int .i64 pn, .int .i64 px, .bool pt, .slice da pd.length dc, .slice ka pk.length kc, .int .i64 po] 39) := ⟨_, rfl⟩
  rw [← hw0]
  have b0 : w0.heap[w.heap.size]? = some (.cells (rqC ⟨qc, ql, qs, qk, qi, qw, qn, ⟨qo, qops⟩⟩ (.slice oa qops.length oc)) 30 (0, 0)) := by rw [hw0]; exact (Below.heap_alloc _ _ _ (by simp)).trans (heap_alloc_new _ _)
  have b1 : w0.heap[w.heap.size + 1]? = some (.cells (rpC ⟨pc, pl, ps, pe, pn, px, pt, ⟨pd, pk, po⟩⟩ (.slice da pd.length dc) (.slice ka pk.length kc)) 39 (0, 0)) := by rw [hw0]; exact heap_alloc2_new _ _ _
  have hw : Below w.heap.size w w0 := by rw [hw0]; ((repeat' (first | exact Below.refl _ _ | refine below_drewN ?_ _ | refine Below.drew ?_ | refine Below.alloc ?_ ?_ _ | refine Below.trans ?_ (Below.mono (by assumption) ?_))); all_goals (first | exact Nat.le_refl _ | exact Below.size (by assumption) | omega | (simp; done) | (simp; omega)))
  clear hw0
  refine (awake_any _ (tab_below HT.out hw HG.out) (Nat.lt_of_lt_of_le HG.out hw.size)).mono ?_
  rintro e w1 ⟨rfl, hb1⟩
  have HW : Hid (Below w.heap.size w w1) := below_call hw hb1
  have B0 := Lib.hid (blkk hb1 b0)
  have B1 := Lib.hid (blkk hb1 b1)
  clear hb1 b0 b1 hw HT HG
  obtain ⟨-, -, -, -, -, -, -, x7, x8, l0⟩ := rq_cells B0.out
  simp only at x7 x8
  go_wp2_with fail
  refine (few_any A ⟨qo, qops⟩ _ _ (HO.out.ext HW.out)).mono ?_
  rintro e w2 ⟨f1, rfl, -, hb2⟩
  have HW2 : Hid (Below w.heap.size w w2) := below_call HW.out hb2
  have B02 := Lib.hid (blkk hb2 B0.out)
  have B12 := Lib.hid (blkk hb2 B1.out)
  clear hb2 B0 B1 HW x7 x8 l0
  obtain ⟨-, -, -, -, -, -, -, y7, y8, y9, l1⟩ := rp_cells B12.out
  simp only at y7 y8 y9
  go_wp2_with fail
  refine (thin_any B ⟨pd, pk, po⟩ _ _ _ (HD.out.ext HW2.out) (HK.out.ext HW2.out)).mono ?_
  rintro e w3 ⟨f2, rfl, -, hb3⟩
  have HW3 : Hid (Below w.heap.size w w3) := below_call HW2.out hb3
  have B03 := Lib.hid (blkk hb3 B02.out)
  have B13 := Lib.hid (blkk hb3 B12.out)
  clear hb3 B02 B12 HW2 y7 y8 y9 l1
  rcases f1 with _ | _
  · go_wp2
    go_ret
    exact ⟨rfl, HW3.out⟩
  rcases f2 with _ | _
  · go_wp2
    go_ret
    exact ⟨rfl, HW3.out⟩
  obtain ⟨x0, x1, x2, x3, x4, x5, x6, x7, x8, l0⟩ := rq_cells B03.out
  simp only at x0 x1 x2 x3 x4 x5 x6 x7 x8
  go_wp2_with fail
  refine (ask_nil _ ⟨qc, ql, qs, qk, qi, qw, qn, ⟨qo, qops⟩⟩ _ rfl now).mono ?_
  rintro e w4 ⟨rfl, hb4⟩
  have HW4 : Hid (Below w.heap.size w w4) := below_call HW3.out hb4
  have B04 := Lib.hid (blkk hb4 B03.out)
  have B14 := Lib.hid (blkk hb4 B13.out)
  clear hb4 B03 B13 HW3 x0 x1 x2 x3 x4 x5 x6 x7 x8 l0
  simp only [rqV, RqD.none, TxD.none]
  go_wp2_with fail
  refine (due_nil _ now).mono ?_
  rintro e w5 ⟨rfl, hb5⟩
  have C5 := Lib.hid (blkk hb5 (heap_alloc_new w4 _))
  have HW5 : Hid (Below w.heap.size w w5) := below_call (below_new HW4.out _) hb5
  have B05 := Lib.hid (blkk hb5 (blka B04.out _))
  have B15 := Lib.hid (blkk hb5 (blka B14.out _))
  clear hb5 B04 B14 HW4
  simp only [rqV, RqD.none, TxD.none]
  obtain ⟨x0, x1, x2, x3, x4, x5, x6, x7, x8, l0⟩ := rq_cells B05.out
  simp only at x0 x1 x2 x3 x4 x5 x6 x7 x8
  go_wp2_with fail
  refine (look_out _ none ⟨qc, ql, qs, qk, qi, qw, qn, ⟨qo, qops⟩⟩ _ rfl (.inl rfl)).mono ?_
  rintro e w6 ⟨rfl, hb6⟩
  have D6 := Lib.hid (blkk hb6 (heap_alloc_new w5 _))
  have C6 := Lib.hid (blkk hb6 (blka C5.out _))
  have HW6 : Hid (Below w.heap.size w w6) := below_call (below_new HW5.out _) hb6
  have B06 := Lib.hid (blkk hb6 (blka B05.out _))
  have B16 := Lib.hid (blkk hb6 (blka B15.out _))
  clear hb6 B05 B15 C5 HW5 x0 x1 x2 x3 x4 x5 x6 x7 x8 l0
  simp only [rp0, rpV, RpD.none, ObD.none]
  obtain ⟨x0, x1, x2, x3, x4, x5, x6, x7, x8, x9, l0⟩ := rp_cells B16.out
  simp only at x0 x1 x2 x3 x4 x5 x6 x7 x8 x9
  go_wp2_with fail
  refine (hear_nil _ ⟨pc, pl, ps, pe, pn, px, pt, ⟨pd, pk, po⟩⟩ _ _).mono ?_
  rintro e w7 ⟨rfl, hb7⟩
  have E7 := Lib.hid (blkk hb7 (heap_alloc_new w6 _))
  have D7 := Lib.hid (blkk hb7 (blka D6.out _))
  have C7 := Lib.hid (blkk hb7 (blka C6.out _))
  have HW7 : Hid (Below w.heap.size w w7) := below_call (below_new HW6.out _) hb7
  have B17 := Lib.hid (blkk hb7 (blka B16.out _))
  clear hb7 B06 B16 C6 D6 HW6 x0 x1 x2 x3 x4 x5 x6 x7 x8 x9 l0
  obtain ⟨x0, x1, x2, x3, x4, x5, x6, x7, x8, x9, l0⟩ := rp_cells B17.out
  simp only at x0 x1 x2 x3 x4 x5 x6 x7 x8 x9
  go_wp2_with fail
  refine (busy_nil _).mono ?_
  rintro e w7' ⟨rfl, rfl⟩
  go_wp2_with fail
  refine (keep_out _ none ⟨pc, pl, ps, pe, pn, px, pt, ⟨pd, pk, po⟩⟩ _ _ rfl rfl (.inl rfl)).mono ?_
  rintro e w8 ⟨rfl, hb8⟩
  have E8 := Lib.hid (blkk hb8 E7.out)
  have D8 := Lib.hid (blkk hb8 D7.out)
  have C8 := Lib.hid (blkk hb8 C7.out)
  have HW8 : Hid (Below w.heap.size w w8) := below_call HW7.out hb8
  clear hb8 C7 D7 E7 HW7 B17 x0 x1 x2 x3 x4 x5 x6 x7 x8 x9 l0
  obtain ⟨x0, x1, x2, x3, x4, x5, x6, x7, x8, l0⟩ := rq_cells (q := RqD.none) (ov := .slice none 0 0) C8.out
  simp only [RqD.none, TxD.none] at x0 x1 x2 x3 x4 x5 x6 x7 x8
  go_wp2_with fail
  refine (samerq_yes (fun _ => False) (fun _ => False) RqD.none _ _ _ ⟨.slice none 0 0, rfl, SlE.nil _ _ _⟩ ⟨.slice none 0 0, rfl, SlE.nil _ _ _⟩ (by simp [RqD.none, TxD.none])).mono ?_
  rintro e w9 ⟨rfl, hb9⟩
  have E9 := Lib.hid (blkk hb9 E8.out)
  have D9 := Lib.hid (blkk hb9 D8.out)
  have HW9 : Hid (Below w.heap.size w w9) := below_call HW8.out hb9
  clear hb9 C8 D8 E8 HW8 x0 x1 x2 x3 x4 x5 x6 x7 x8 l0
  obtain ⟨x0, x1, x2, x3, x4, x5, x6, x7, x8, l0⟩ := rq_cells (q := RqD.none) (ov := .slice none 0 0) D9.out
  simp only [RqD.none, TxD.none] at x0 x1 x2 x3 x4 x5 x6 x7 x8
  go_wp2_with fail
  refine (samerq_yes (fun _ => False) (fun _ => False) RqD.none _ _ _ ⟨.slice none 0 0, rfl, SlE.nil _ _ _⟩ ⟨.slice none 0 0, rfl, SlE.nil _ _ _⟩ (by simp [RqD.none, TxD.none])).mono ?_
  rintro e w10 ⟨rfl, hb10⟩
  have E10 := Lib.hid (blkk hb10 E9.out)
  have HW10 : Hid (Below w.heap.size w w10) := below_call HW9.out hb10
  clear hb10 D9 E9 HW9 x0 x1 x2 x3 x4 x5 x6 x7 x8 l0
  obtain ⟨x0, x1, x2, x3, x4, x5, x6, x7, x8, x9, l0⟩ := rp_cells (p := RpD.none) (dv := .slice none 0 0) (kv := .slice none 0 0) E10.out
  simp only [RpD.none, ObD.none] at x0 x1 x2 x3 x4 x5 x6 x7 x8 x9
  go_wp2_with fail
  refine (samerp_yes (fun _ => False) (fun _ => False) RpD.none _ _ _ ⟨.slice none 0 0, .slice none 0 0, rfl, RB.nil _ _, SlE.nil _ _ _⟩ ⟨.slice none 0 0, .slice none 0 0, rfl, RB.nil _ _, SlE.nil _ _ _⟩ (by simp [RpD.none, ObD.none])).mono ?_
  rintro e w11 ⟨rfl, hb11⟩
  have HW11 : Hid (Below w.heap.size w w11) := below_call HW10.out hb11
  clear hb11 E10 HW10 x0 x1 x2 x3 x4 x5 x6 x7 x8 x9 l0
  go_wp2
  go_ret
  exact ⟨rfl, HW11.out⟩
end Go.Proofs.YtidikciankcopaaDoor
