/- The walk of (terrazzoref11.Store).Do. -/
import Derived.Test.YtohfckkgmijlnaaGreatDoorPT
import Derived.Test.YtohfckkgmijlnaaGreatDoorPO
import Derived.Test.YtohfckkgmijlnaaGreatDoorRd9
namespace Go.Proofs.YtohfckkgmijlnaaGreatDoor
open Go.RowKit Go.Maps Go.WideShapes
attribute [local go_sem ↓] Go.wp_at_zero Go.wp_at_succ

section
variable {s : StD} {t : TxD} {xo : ObD} {xe : Int} {xt : Bool}
theorem stw_bad' (h : txDo (s.obj t.obj) (s.is t.obj) t = ⟨xo, xt, xe⟩) (he : xe ≠ 0) : stDo s t = (s, xe) := by
  have h1 : (txDo (s.obj t.obj) (s.is t.obj) t).e = xe := by rw [h]
  rw [stDo_bad (by rw [h1]; exact he), h1]
theorem stw_full' (h : txDo (s.obj t.obj) (s.is t.obj) t = ⟨xo, true, 0⟩) (h2 : s.is t.obj = false) (h3 : s.room ≤ s.l.length) : stDo s t = (s, 110) := stDo_full (by rw [h]) (by rw [h]) h2 h3
/-- the row that the reference lays is the store's -/
theorem stw_row (hok : StOk s) (h : txDo (s.obj t.obj) (s.is t.obj) t = ⟨xo, xt, 0⟩) (h2 : ¬ (s.is t.obj = false ∧ xt = true ∧ s.room ≤ s.l.length)) :
    stDo s t = (⟨s.room, if (!xt || seenS t.obj s.l) = true then rowS xt t.obj xo s.l else rowS xt t.obj xo s.l ++ [(t.obj, xo)]⟩, 0) := by
  cases xt with
  | false =>
    rw [stDo_gone (by rw [h]) (by rw [h])]
    simp [rowS_del hok.up]
  | true =>
    rw [stDo_put (by rw [h]) (by rw [h]) (fun hx => h2 ⟨hx.1, rfl, hx.2⟩), h]
    have := rowS_put (k := t.obj) (v := xo) hok.up
    simp only [Bool.not_true, Bool.false_or]
    rw [this]
end
theorem row_step {β : Type} {yes : Bool} {k : ByteArray} {v : β} {l : List (ByteArray × β)} {q : ByteArray × β} (h : UpS (l ++ [q])) :
    rowS yes k v (l ++ [q]) = (if lessS q.1 k = false ∧ (!yes || seenS k l) = false then rowS yes k v l ++ [(k, v)] else rowS yes k v l) ++ (if q.1 = k then [] else [q]) ∧
      (!yes || seenS k (l ++ [q])) = ((!yes || seenS k l) || !lessS q.1 k) := by
  cases hq : lessS q.1 k with
  | true =>
    obtain ⟨h1, h2, h3⟩ := rowS_snoc_lo (yes := yes) (v := v) h hq
    have hne : q.1 ≠ k := lessS_ne hq
    rw [h3, h1, h2]
    simp [hne]
  | false =>
    obtain ⟨h2, h3⟩ := rowS_snoc_hi (yes := yes) (v := v) (l := l) hq
    rw [h3, h2]
    cases yes <;> cases seenS k l <;> simp
theorem rowS_len {yes : Bool} {k : ByteArray} {v : ObD} {l : List (ByteArray × ObD)} {n : Nat} (h : l.length ≤ 300) : (rowS yes k v (l.take n)).length ≤ 100000 := by
  have h1 : (loS k (l.take n)).length ≤ (l.take n).length := List.length_filter_le _ _
  have h2 : (hiS k (l.take n)).length ≤ (l.take n).length := List.length_filter_le _ _
  have h3 : (l.take n).length ≤ l.length := by simp; omega
  have h4 : (if (yes && seenS k (l.take n)) = true then [(k, v)] else []).length ≤ 1 := by split <;> simp
  unfold rowS
  simp only [List.length_append]
  omega
/-- what Do leaves -/
def RDoO (s' : StD) (e : Int) (w : World) (x : Ending) (w' : World) : Prop := ∃ v', x = .returned (.tuple #[.agg #[.int .i64 (s'.room : Nat), v'], .int .i64 e]) ∧ SlE Enc.named (fun _ => True) w' v' s'.l ∧ Below w.heap.size w w'
section
variable {w w' : World} {p B : Nat} {t : TypeId} {a b c d e x y : Value}
theorem set2b (h : w.heap[p]? = some (.cells #[a, b] t (0, 0))) : ((w.setCell ⟨p, 0, none⟩ x).setCell ⟨p, 1, none⟩ c).heap[p]? = some (.cells #[x, c] t (0, 0)) := by simp [World.setCell, Array.getElem?_modify, h]
theorem set2b1 (h : w.heap[p]? = some (.cells #[a, b] t (0, 0))) : (w.setCell ⟨p, 1, none⟩ x).heap[p]? = some (.cells #[a, x] t (0, 0)) := by simp [World.setCell, Array.getElem?_modify, h]
theorem below2n (h : Below B w w') (hp : B ≤ p) (x y : Value) : Below B w ((w'.setCell ⟨p, 0, none⟩ x).setCell ⟨p, 1, none⟩ y) :=
  (h.setCell (show B ≤ (⟨p, 0, none⟩ : Addr).block from hp) x).setCell (show B ≤ (⟨p, 1, none⟩ : Addr).block from hp) y
theorem belowNr (h : Below B w w') (n : Nat) : Below B w (w'.drewN n) := ⟨h.os, h.tape, h.output, h.size, h.block⟩
end
/-- two cells of a box are written -/
theorem soft2 {w : World} {p : Nat} {u : Option Addr} {m q : Nat} {s : Int} {t : TypeId} (h : w.heap[p]? = some (.cells #[.int .i64 s, .slice u m q] t (0, 0))) (x y : Value) :
    Soft w ((w.setCell ⟨p, 0, none⟩ x).setCell ⟨p, 1, none⟩ y) := by
  refine ⟨by simp [World.setCell], fun b _ => ?_⟩
  by_cases hb : b = p
  · subst hb
    exact .inr fun cs' t' fr' e => by rw [h] at e; cases e; exact boxP2 _ _ _ _
  · exact .inl ((Below.heap_setCell _ _ _ _ hb).trans (Below.heap_setCell _ _ _ _ hb))
theorem infoNamed : (Tryz.prog.info? 69).map (fun i => (i.zero, i.size, i.bytes)) = some (some (.agg #[.string ByteArray.empty, .slice none 0 0, .slice none 0 0, .int .i64 0]), 4, 72) := by kernel_rfl
theorem rsget_st (s : StD) (r : Int) (v : Value) (nm : ByteArray) (w : World) (hv : SlE Enc.named (fun _ => True) w v s.l) (hl : s.l.length ≤ 100000) :
    Calls Tryz.prog 16 #[.agg #[.int .i64 r, v], .string nm] w fun e w' => ∃ da dc ka kc, e = .returned (.tuple #[.agg #[.slice da (s.obj nm).data.length dc, .slice ka (s.obj nm).keys.length kc, .int .i64 (s.obj nm).seq], .bool (s.is nm)]) ∧
      ObV (fun _ => True) w' (.agg #[.slice da (s.obj nm).data.length dc, .slice ka (s.obj nm).keys.length kc, .int .i64 (s.obj nm).seq]) (s.obj nm) ∧ Below w.heap.size w w' := by
  refine (rsget_any _ r v s.l nm w hv hl).mono ?_
  rintro e w' ⟨dv, kv, rfl, ⟨d2, k2, e2, hd, hk⟩, hb⟩
  simp only [Value.agg.injEq, Array.mk.injEq, List.cons.injEq, and_true] at e2
  obtain ⟨rfl, rfl⟩ := e2
  obtain ⟨da, dc, rfl⟩ := hd.shape
  obtain ⟨ka, kc, rfl⟩ := hk.shape
  exact ⟨da, dc, ka, kc, rfl, ⟨_, _, rfl, hd, hk⟩, hb⟩
theorem rtdo_st (A B : Nat → Prop) (v va : Value) (o : ObD) (th : Bool) (t : TxD) (w : World) (hv : ObV A w v o) (ho : o.keys.length ≤ 100000) (h : SlE Enc.op B w va t.ops) (hop : ∀ op ∈ t.ops, op.data.length ≤ 50000) :
    Calls Tryz.prog 25 #[v, .bool th, .agg #[.string t.obj, va]] w fun e w' => ∃ da dc ka kc, e = .returned (.tuple #[.agg #[.slice da (txDo o th t).o.data.length dc, .slice ka (txDo o th t).o.keys.length kc, .int .i64 (txDo o th t).o.seq], .bool (txDo o th t).there, .int .i64 (txDo o th t).e]) ∧
      RB (fun _ => True) w' (.slice da (txDo o th t).o.data.length dc) (txDo o th t).o.data ∧ SlE Enc.key (fun _ => True) w' (.slice ka (txDo o th t).o.keys.length kc) (txDo o th t).o.keys ∧ Below w.heap.size w w' := by
  refine (rtdo_any A B v va o th t w hv ho h hop).mono ?_
  rintro e w' ⟨dv, kv, rfl, ⟨d2, k2, e2, hd, hk⟩, hb⟩
  simp only [Value.agg.injEq, Array.mk.injEq, List.cons.injEq, and_true] at e2
  obtain ⟨rfl, rfl⟩ := e2
  obtain ⟨da, dc, rfl⟩ := hd.shape
  obtain ⟨ka, kc, rfl⟩ := hk.shape
  exact ⟨da, dc, ka, kc, rfl, hd, hk, hb⟩
set_option maxRecDepth 100000 in
set_option maxHeartbeats 4000000 in
theorem rsdo_any (B : Nat → Prop) (s : StD) (t : TxD) (v va : Value) (w : World) (hv : SlE Enc.named (fun _ => True) w v s.l) (hok : StOk s) (h : SlE Enc.op B w va t.ops) (hop : ∀ op ∈ t.ops, op.data.length ≤ 50000) :
    Calls Tryz.prog 14 #[.agg #[.int .i64 (s.room : Nat), v], .agg #[.string t.obj, va]] w (RDoO (stDo s t).1 (stDo s t).2 w) := by
  obtain ⟨ta, tc, rfl⟩ := h.shape
  obtain ⟨la, lc, rfl⟩ := hv.shape
  have HT := Lib.hid h
  have HOP := Lib.hid hop
  have HV := Lib.hid hv
  have HOK := Lib.hid hok
  have hl3 : s.l.length ≤ 300 := Nat.le_trans hok.len hok.room
  have HKL : Hid ((s.obj t.obj).keys.length ≤ 100000) := Lib.hid (by have := (okl_of (hok.obj t.obj)).keys; omega)
  clear h hop hv hok
  go_enter Tryz.func14, Tryz.ntmps14
  go_upto_region 1 with fail
  obtain ⟨w0, hw0⟩ : ∃ w0, w0 = ((w.alloc (.cells #[.int .i64 (s.room : Nat), .slice la s.l.length lc] 28)).alloc (.cells #[.string t.obj, .slice ta t.ops.length tc] 33)).alloc (.cells #[.int .i64 0, .slice none 0 0] 28) := ⟨_, rfl⟩
  rw [← hw0]
  have b0 : w0.heap[w.heap.size]? = some (.cells #[.int .i64 (s.room : Nat), .slice la s.l.length lc] 28 (0, 0)) := by rw [hw0]; exact dnew (dnew (heap_alloc_new _ _) _) _
  have b1 : w0.heap[w.heap.size + 1]? = some (.cells #[.string t.obj, .slice ta t.ops.length tc] 33 (0, 0)) := by rw [hw0]; exact dnew (heap_alloc2_new _ _ _) _
  have b2 : w0.heap[w.heap.size + 2]? = some (.cells #[.int .i64 0, .slice none 0 0] 28 (0, 0)) := by
    rw [hw0]
    have h := fun (W : World) o' => heap_alloc_new W o'
    have := h ((w.alloc (.cells #[.int .i64 (s.room : Nat), .slice la s.l.length lc] 28)).alloc (.cells #[.string t.obj, .slice ta t.ops.length tc] 33)) (.cells #[.int .i64 0, .slice none 0 0] 28)
    simpa using this
  have hw : Below w.heap.size w w0 := by rw [hw0]; ((repeat' (first | exact Below.refl _ _ | refine below_drewN ?_ _ | refine Below.drew ?_ | refine Below.alloc ?_ ?_ _ | refine Below.trans ?_ (Below.mono (by assumption) ?_))); all_goals (first | exact Nat.le_refl _ | exact Below.size (by assumption) | omega | (simp; done) | (simp; omega)))
  clear hw0
  obtain ⟨x0, -⟩ := blk_cell (i := 0) b0
  obtain ⟨x1, -⟩ := blk_cell (i := 1) b0
  obtain ⟨z0, -⟩ := blk_cell (i := 0) b1
  simp at x0 x1 z0
  have HB0 := Lib.hid b0
  have HB1 := Lib.hid b1
  have HB2 := Lib.hid b2
  have HW0 := Lib.hid hw
  clear b0 b1 b2 hw
  go_wp2_with fail
  refine (rsget_st s _ _ t.obj w0 (HV.out.ext HW0.out) (by omega)).mono ?_
  rintro e w1 ⟨da, dc, ka, kc, rfl, hv1, hb1⟩
  have HV1 := Lib.hid hv1
  have HC0 := Lib.hid (dblk hb1 HB0.out)
  have HC1 := Lib.hid (dblk hb1 HB1.out)
  have HC2 := Lib.hid (dblk hb1 HB2.out)
  have HW1 := Lib.hid (dcall HW0.out hb1)
  clear hv1 hb1 HB0 HB1 HB2 HW0 x0 x1 z0
  go_upto_region 2 with fail
  obtain ⟨w2, hw2⟩ : ∃ w2, w2 = w1.alloc (.cells #[.slice da (s.obj t.obj).data.length dc, .slice ka (s.obj t.obj).keys.length kc, .int .i64 (s.obj t.obj).seq] 41) := ⟨_, rfl⟩
  rw [← hw2]
  have hb2 : Below w1.heap.size w1 w2 := by rw [hw2]; ((repeat' (first | exact Below.refl _ _ | refine below_drewN ?_ _ | refine Below.drew ?_ | refine Below.alloc ?_ ?_ _ | refine Below.trans ?_ (Below.mono (by assumption) ?_))); all_goals (first | exact Nat.le_refl _ | exact Below.size (by assumption) | omega | (simp; done) | (simp; omega)))
  have R2 : w2.heap[w1.heap.size]? = some (.cells #[.slice da (s.obj t.obj).data.length dc, .slice ka (s.obj t.obj).keys.length kc, .int .i64 (s.obj t.obj).seq] 41 (0, 0)) := by rw [hw2]; exact heap_alloc_new _ _
  have HV2 := Lib.hid (HV1.out.ext hb2)
  have HD0 := Lib.hid (dblk hb2 HC0.out)
  have HD1 := Lib.hid (dblk hb2 HC1.out)
  have HD2 := Lib.hid (dblk hb2 HC2.out)
  have HW2 := Lib.hid (dcall HW1.out hb2)
  obtain ⟨y0, -⟩ := blk_cell (i := 0) R2
  obtain ⟨y1, -⟩ := blk_cell (i := 1) R2
  obtain ⟨y2, -⟩ := blk_cell (i := 2) R2
  obtain ⟨z0, -⟩ := blk_cell (i := 0) HD1.out
  obtain ⟨z1, -⟩ := blk_cell (i := 1) HD1.out
  simp at y0 y1 y2 z0 z1
  clear hw2 hb2 R2 HC0 HC1 HC2 HW1 HV1
  go_wp2_with fail
  refine (rtdo_st _ B _ _ (s.obj t.obj) (s.is t.obj) t w2 HV2.out HKL.out (HT.out.ext HW2.out) HOP.out).mono ?_
  obtain ⟨X, hX⟩ : ∃ X, X = txDo (s.obj t.obj) (s.is t.obj) t := ⟨_, rfl⟩
  obtain ⟨xo, xt, xe⟩ := X
  have HX : Hid (txDo (s.obj t.obj) (s.is t.obj) t = ⟨xo, xt, xe⟩) := Lib.hid hX.symm
  rw [← hX]
  clear hX
  rintro e w3 ⟨na, nc, ma, mc, rfl, hd3, hk3, hb3⟩
  have HDD := Lib.hid hd3
  have HKK := Lib.hid hk3
  have HE0 := Lib.hid (dblk hb3 HD0.out)
  have HE1 := Lib.hid (dblk hb3 HD1.out)
  have HE2 := Lib.hid (dblk hb3 HD2.out)
  have HW3 := Lib.hid (dcall HW2.out hb3)
  clear hd3 hk3 hb3 HD0 HD1 HD2 HW2 HV2 y0 y1 y2 z0 z1
  go_upto_region 3 with fail
  obtain ⟨w4, hw4⟩ : ∃ w4, w4 = w3.alloc (.cells #[.slice na xo.data.length nc, .slice ma xo.keys.length mc, .int .i64 xo.seq] 41) := ⟨_, rfl⟩
  rw [← hw4]
  have hb4 : Below w3.heap.size w3 w4 := by rw [hw4]; ((repeat' (first | exact Below.refl _ _ | refine below_drewN ?_ _ | refine Below.drew ?_ | refine Below.alloc ?_ ?_ _ | refine Below.trans ?_ (Below.mono (by assumption) ?_))); all_goals (first | exact Nat.le_refl _ | exact Below.size (by assumption) | omega | (simp; done) | (simp; omega)))
  have R4 : w4.heap[w3.heap.size]? = some (.cells #[.slice na xo.data.length nc, .slice ma xo.keys.length mc, .int .i64 xo.seq] 41 (0, 0)) := by rw [hw4]; exact heap_alloc_new _ _
  have HB0 := Lib.hid (dblk hb4 HE0.out)
  have HB1 := Lib.hid (dblk hb4 HE1.out)
  have HB2 := Lib.hid (dblk hb4 HE2.out)
  have HB3 := Lib.hid R4
  have HW4 := Lib.hid (dcall HW3.out hb4)
  have HVW := Lib.hid (HV.out.ext HW4.out)
  have HD4 := Lib.hid (RB.weak (A' := fun b => b < w4.heap.size) (HDD.out.mono (Same.of_ext hb4)) fun b hb _ => hb)
  have HK4 := Lib.hid (SlE.weak (A' := fun b => b < w4.heap.size) (HKK.out.ext hb4) fun b hb _ => hb)
  clear hw4 hb4 R4 HE0 HE1 HE2 HW3 HDD HKK HV HT HOP HKL
  obtain ⟨i0, hi, hz0, hz1, hz2⟩ := info_parts infoNamed
  obtain ⟨x0, f0⟩ := blk_cell (i := 0) HB0.out
  obtain ⟨x1, f1⟩ := blk_cell (i := 1) HB0.out
  obtain ⟨r0, g0⟩ := blk_cell (i := 0) HB2.out
  obtain ⟨r1, g1⟩ := blk_cell (i := 1) HB2.out
  simp at x0 x1 r0 r1
  by_cases he : xe = 0
  · subst he
    by_cases hfull : s.is t.obj = false ∧ xt = true ∧ s.room ≤ s.l.length
    · obtain ⟨h1, h2, h3⟩ := hfull
      have H1 := Lib.hid h1
      subst h2
      have H3 := Lib.hid h3
      have h4 : ((s.room : Nat) : Int) ≤ ((s.l.length : Nat) : Int) := by omega
      clear h3
      go_wp2
      refine bodyPost_ret (results_cell_u1 rfl _ _ (w.heap.size + 2) 28 _ (0, 0) _ rfl (set2b HB2.out) Tryz.underlying28 rfl (by kernel_rfl)) rfl ?_
      rw [stw_full' HX.out H1.out H3.out]
      exact ⟨_, rfl, Named.soft HVW.out (soft2 HB2.out _ _), below2n HW4.out (by omega) _ _⟩
    · have HNF := Lib.hid hfull
      have h3 : s.is t.obj = true ∨ (s.is t.obj = false ∧ xt = false) ∨ (s.is t.obj = false ∧ xt = true ∧ ((s.l.length : Nat) : Int) < ((s.room : Nat) : Int)) := by
        cases h1 : s.is t.obj with
        | true => exact .inl rfl
        | false =>
          cases h2 : xt with
          | false => exact .inr (.inl ⟨rfl, rfl⟩)
          | true => exact .inr (.inr ⟨rfl, rfl, by have := Nat.lt_of_not_le fun h => hfull ⟨h1, h2, h⟩; omega⟩)
      clear hfull
      have HR0 : Hid (rowS xt t.obj xo (s.l.take 0) = []) := Lib.hid (by cases xt <;> rfl)
      have HD0 : Hid ((!xt || seenS t.obj (s.l.take 0)) = !xt) := Lib.hid (by cases xt <;> rfl)
      rcases h3 with h1 | ⟨h1, h2⟩ | ⟨h1, h2, h3⟩
      all_goals go_wp2_with fail
      all_goals (try have H2 := Lib.hid h2)
      all_goals (try clear h3)
      all_goals (try clear h2)
      all_goals clear h1
      all_goals (try generalize decide (s.room ≤ s.l.length) = dr)
      all_goals
        go_loopw [11, 12, 13] (fun l d i wr => ∃ (k : Nat) (oa : Option Addr) (oc : Nat), k ≤ s.l.length ∧ i = .int .i64 k ∧ d = .bool (!xt || seenS t.obj (s.l.take k)) ∧ l = .slice oa (rowS xt t.obj xo (s.l.take k)).length oc ∧ EnRow Enc.named 69 (fun b => b < w4.heap.size) w4.heap.size wr (.slice oa (rowS xt t.obj xo (s.l.take k)).length oc) (rowS xt t.obj xo (s.l.take k)) ∧ Below w4.heap.size w4 wr) (fun _ _ i _ => s.l.length - (intOf i).toNat)
        case atStart =>
          refine ⟨0, none, 0, Nat.zero_le _, rfl, ?_, ?_, ?_, Below.refl _ _⟩
          · first | (rw [HD0.out]; done) | (rw [HD0.out, H2.out]; done) | (rw [HD0.out, H2.out]; rfl)
          · rw [HR0.out]; rfl
          · rw [HR0.out]; exact EnRow.nil _ _ _ _ _
        case round =>
          obtain ⟨k, oa, oc, hk, rfl, rfl, rfl, hR, hbr⟩ := hrel
          have HR := Lib.hid hR
          have HBR := Lib.hid hbr
          have hsz := hbr.size
          obtain ⟨v0, e0⟩ := blk_cell (i := 0) (dblk hbr HB0.out)
          obtain ⟨v1, e1⟩ := blk_cell (i := 1) (dblk hbr HB0.out)
          obtain ⟨v2, -⟩ := blk_cell (i := 0) (dblk hbr HB1.out)
          obtain ⟨v3, -⟩ := blk_cell (i := 0) (dblk hbr HB3.out)
          obtain ⟨v4, -⟩ := blk_cell (i := 1) (dblk hbr HB3.out)
          obtain ⟨v5, -⟩ := blk_cell (i := 2) (dblk hbr HB3.out)
          have HRB := Lib.hid (dblk hbr HB2.out)
          simp at v0 v1 v2 v3 v4 v5
          clear x0 x1 r0 r1 f0 f1 g0 g1
          by_cases hlt : k < s.l.length
          · obtain ⟨b, off, ea, ec, ga, gc, rfl, hb, c0, c1, c2, c3, hd, hkk⟩ := Named.at (HVW.out.cut.mono (Same.of_ext hbr)) hlt
            have HTK : s.l.take (k + 1) = s.l.take k ++ [s.l[k]] := by rw [List.take_succ_eq_append_getElem hlt]
            have hup : UpS (s.l.take k ++ [s.l[k]]) := by rw [← HTK]; exact List.Pairwise.sublist (List.take_sublist _ _) HOK.out.up
            have hlk : (rowS xt t.obj xo (s.l.take k)).length ≤ 100000 := rowS_len hl3
            obtain ⟨hs1, hs2⟩ := row_step (yes := xt) (k := t.obj) (v := xo) hup
            rw [← HTK] at hs1 hs2
            have HS1 := Lib.hid hs1
            have HS2 := Lib.hid hs2
            have HQ : Hid (RB (fun b => b < w4.heap.size) wr (.slice ea (s.l[k]).2.data.length ec) (s.l[k]).2.data ∧ SlE Enc.key (fun b => b < w4.heap.size) wr (.slice ga (s.l[k]).2.keys.length gc) (s.l[k]).2.keys) := Lib.hid ⟨hd.weak fun _ _ h => h.2, hkk.weak fun _ _ h => h.2⟩
            clear hs1 hs2 hd hkk HTK hup hbr hR
            have hk5 : (0 : Int) ≤ k := by omega
            have hkl5 : (k : Int) < s.l.length := by omega
            obtain ⟨q, hq⟩ : ∃ q, q = s.l[k] := ⟨_, rfl⟩
            rw [← hq] at c0 c1 c2 c3 HS1 HS2 HQ
            obtain ⟨nk, qo⟩ := q
            have HQE := Lib.hid hq
            clear hq
            simp only at c0 c1 c2 c3
            generalize rowS xt t.obj xo (s.l.take k) = L at *
            generalize (!xt || seenS t.obj (s.l.take k)) = dd at *
            have hls : lessS nk t.obj = Op.bytesLess nk.toList t.obj.toList := lessS_lt _ _
            simp only [hls] at HS1 HS2
            clear hls
            cases hb5 : Op.bytesLess nk.toList t.obj.toList with
            | true =>
              have HF : Hid (rowS xt t.obj xo (s.l.take (k + 1)) = L ++ (if nk = t.obj then [] else [(nk, qo)])) := Lib.hid (by rw [HS1.out, hb5]; simp)
              have HD : Hid ((!xt || seenS t.obj (s.l.take (k + 1))) = dd) := Lib.hid (by rw [HS2.out, hb5]; simp)
              clear HS1 HS2
              have HRW := HR
              have HBW := HBR
              go_upto_region 12 with fail
              go_quiet (fail)
              go_upto_region 15 with fail
              by_cases hx : nk = t.obj
              · have hxt : decide (nk = t.obj) = true := by simp [hx]
                have hxe := eqL nk t.obj
                rw [hxt] at hxe
                have HG := Lib.hid (HF.out.trans (by rw [if_pos hx, List.append_nil]))
                clear hx hxt
                go_quiet (fail)
                go_wp2
                go_roundw
                case rel => exact ⟨k + 1, _, _, by omega, by go_num, by rw [HD.out], by rw [HG.out], by rw [HG.out]; exact HRW.out.ext (belowNr (Below.refl _ _) _), HBW.out.trans (belowNr (Below.refl _ _) _ |>.mono HBW.out.size)⟩
                case measure => simp [intOf]; omega
              · have hxt : decide (nk = t.obj) = false := by simp [hx]
                have hxe := eqL nk t.obj
                rw [hxt] at hxe
                have HG := Lib.hid (HF.out.trans (by rw [if_neg hx]))
                clear hx hxt
                go_quiet (fail)
                go_wp2_with (first | (at_builtin; refine stop_in ?_) | go_in)
                unfold Stop
                refine wpList_push _ (by rfl) (.tmp 85) (.tmp 91) 26 (by rfl) Enc.named (fun b => b < w4.heap.size) w4.heap.size 69 i0 _ 72 Tryz.underlying26 hi hz0 hz1 hz2 (by rfl) (by decide) (by decide) _ L (by rfl) (HRW.out.ext (belowNr (Below.refl _ _) _)) [.string nk, .slice ea qo.data.length ec, .slice ga qo.keys.length gc, .int .i64 qo.seq] 69 (nk, qo) (by rfl) ⟨_, _, rfl, HQ.out.1.mono (Same.of_ext (belowNr (Below.refl _ _) _)), HQ.out.2.ext (belowNr (Below.refl _ _) _)⟩ (by omega) (Nat.le_trans HBW.out.size (Nat.le_refl _)) (fun b h => h) ?_
                intro v' w6 hE6 hB6
                obtain ⟨va6, ca6, rfl⟩ := hE6.shape
                have HE6 := Lib.hid hE6
                have HB6 := Lib.hid (HBW.out.trans ((belowNr (Below.refl _ _) _ |>.mono HBW.out.size).trans hB6))
                clear hE6 hB6
                go_wp2
                go_roundw
                case rel => exact ⟨k + 1, va6, ca6, by omega, by go_num, by rw [HD.out], by rw [HG.out]; simp, by rw [HG.out]; exact HE6.out, HB6.out⟩
                case measure => simp [intOf]; omega
            | false =>
              cases dd with
              | true =>
                have HF : Hid (rowS xt t.obj xo (s.l.take (k + 1)) = L ++ (if nk = t.obj then [] else [(nk, qo)])) := Lib.hid (by rw [HS1.out, hb5]; simp)
                have HD : Hid ((!xt || seenS t.obj (s.l.take (k + 1))) = true) := Lib.hid (by rw [HS2.out, hb5]; simp)
                clear HS1 HS2
                have HRW := HR
                have HBW := HBR
                go_upto_region 12 with fail
                go_quiet (fail)
                go_upto_region 15 with fail
                by_cases hx : nk = t.obj
                · have hxt : decide (nk = t.obj) = true := by simp [hx]
                  have hxe := eqL nk t.obj
                  rw [hxt] at hxe
                  have HG := Lib.hid (HF.out.trans (by rw [if_pos hx, List.append_nil]))
                  clear hx hxt
                  go_quiet (fail)
                  go_wp2
                  go_roundw
                  case rel => exact ⟨k + 1, _, _, by omega, by go_num, by rw [HD.out], by rw [HG.out], by rw [HG.out]; exact HRW.out.ext (belowNr (Below.refl _ _) _), HBW.out.trans (belowNr (Below.refl _ _) _ |>.mono HBW.out.size)⟩
                  case measure => simp [intOf]; omega
                · have hxt : decide (nk = t.obj) = false := by simp [hx]
                  have hxe := eqL nk t.obj
                  rw [hxt] at hxe
                  have HG := Lib.hid (HF.out.trans (by rw [if_neg hx]))
                  clear hx hxt
                  go_quiet (fail)
                  go_wp2_with (first | (at_builtin; refine stop_in ?_) | go_in)
                  unfold Stop
                  refine wpList_push _ (by rfl) (.tmp 85) (.tmp 91) 26 (by rfl) Enc.named (fun b => b < w4.heap.size) w4.heap.size 69 i0 _ 72 Tryz.underlying26 hi hz0 hz1 hz2 (by rfl) (by decide) (by decide) _ L (by rfl) (HRW.out.ext (belowNr (Below.refl _ _) _)) [.string nk, .slice ea qo.data.length ec, .slice ga qo.keys.length gc, .int .i64 qo.seq] 69 (nk, qo) (by rfl) ⟨_, _, rfl, HQ.out.1.mono (Same.of_ext (belowNr (Below.refl _ _) _)), HQ.out.2.ext (belowNr (Below.refl _ _) _)⟩ (by omega) (Nat.le_trans HBW.out.size (Nat.le_refl _)) (fun b h => h) ?_
                  intro v' w6 hE6 hB6
                  obtain ⟨va6, ca6, rfl⟩ := hE6.shape
                  have HE6 := Lib.hid hE6
                  have HB6 := Lib.hid (HBW.out.trans ((belowNr (Below.refl _ _) _ |>.mono HBW.out.size).trans hB6))
                  clear hE6 hB6
                  go_wp2
                  go_roundw
                  case rel => exact ⟨k + 1, va6, ca6, by omega, by go_num, by rw [HD.out], by rw [HG.out]; simp, by rw [HG.out]; exact HE6.out, HB6.out⟩
                  case measure => simp [intOf]; omega
              | false =>
                have HF : Hid (rowS xt t.obj xo (s.l.take (k + 1)) = (L ++ [(t.obj, xo)]) ++ (if nk = t.obj then [] else [(nk, qo)])) := Lib.hid (by rw [HS1.out, hb5]; simp)
                have HD : Hid ((!xt || seenS t.obj (s.l.take (k + 1))) = true) := Lib.hid (by rw [HS2.out, hb5]; simp)
                clear HS1 HS2
                go_upto_region 12 with fail
                go_quiet (fail)
                go_wp2_with (first | (at_builtin; refine stop_in ?_) | go_in)
                unfold Stop
                refine wpList_push _ (by rfl) (.tmp 69) (.tmp 74) 26 (by rfl) Enc.named (fun b => b < w4.heap.size) w4.heap.size 69 i0 _ 72 Tryz.underlying26 hi hz0 hz1 hz2 (by rfl) (by decide) (by decide) _ L (by rfl) (HR.out.ext (belowNr (Below.refl _ _) _)) [.string t.obj, .slice na xo.data.length nc, .slice ma xo.keys.length mc, .int .i64 xo.seq] 69 (t.obj, xo) (by rfl) ⟨_, _, rfl, (HD4.out.mono (Same.of_ext HBR.out)).mono (Same.of_ext (belowNr (Below.refl _ _) _)), (HK4.out.mono (Same.of_ext HBR.out)).ext (belowNr (Below.refl _ _) _)⟩ (by omega) (Nat.le_trans HBR.out.size (Nat.le_refl _)) (fun b h => h) ?_
                intro v' w5 hE5 hB5
                obtain ⟨va5, ca5, rfl⟩ := hE5.shape
                have e5 : (L ++ [(t.obj, xo)]).length = L.length + 1 := by simp
                rw [e5] at hE5 ⊢
                clear e5
                have hbr := HBR.out.trans ((belowNr (Below.refl _ _) _ |>.mono HBR.out.size).trans hB5)
                have HRW := Lib.hid hE5
                have HBW := Lib.hid hbr
                clear v0 v1 v2 v3 v4 v5 e0 e1 c0 c1 c2 c3 HQ HRB hb5 hE5 hB5
                obtain ⟨v0, e0⟩ := blk_cell (i := 0) (dblk hbr HB0.out)
                obtain ⟨v1, e1⟩ := blk_cell (i := 1) (dblk hbr HB0.out)
                obtain ⟨v2, -⟩ := blk_cell (i := 0) (dblk hbr HB1.out)
                simp at v0 v1 v2
                obtain ⟨b, off, ea, ec, ga, gc, hla, hb, c0, c1, c2, c3, hd, hkk⟩ := Named.at (HVW.out.cut.mono (Same.of_ext hbr)) hlt
                cases hla
                have HQ : Hid (RB (fun b => b < w4.heap.size) w5 (.slice ea (s.l[k]).2.data.length ec) (s.l[k]).2.data ∧ SlE Enc.key (fun b => b < w4.heap.size) w5 (.slice ga (s.l[k]).2.keys.length gc) (s.l[k]).2.keys) := Lib.hid ⟨hd.weak fun _ _ h => h.2, hkk.weak fun _ _ h => h.2⟩
                rw [← HQE.out] at c0 c1 c2 c3 HQ
                simp only at c0 c1 c2 c3
                clear hbr hd hkk
                go_upto_region 15 with fail
                by_cases hx : nk = t.obj
                · have hxt : decide (nk = t.obj) = true := by simp [hx]
                  have hxe := eqL nk t.obj
                  rw [hxt] at hxe
                  have HG := Lib.hid (HF.out.trans (by rw [if_pos hx, List.append_nil]))
                  clear hx hxt
                  go_quiet (fail)
                  go_wp2
                  go_roundw
                  case rel => exact ⟨k + 1, va5, ca5, by omega, by go_num, by rw [HD.out], by rw [HG.out]; simp, by rw [HG.out, List.length_append]; exact HRW.out.ext (belowNr (Below.refl _ _) _), HBW.out.trans (belowNr (Below.refl _ _) _ |>.mono HBW.out.size)⟩
                  case measure => simp [intOf]; omega
                · have hxt : decide (nk = t.obj) = false := by simp [hx]
                  have hxe := eqL nk t.obj
                  rw [hxt] at hxe
                  have HG := Lib.hid (HF.out.trans (by rw [if_neg hx]))
                  clear hx hxt
                  go_quiet (fail)
                  go_wp2_with (first | (at_builtin; refine stop_in ?_) | go_in)
                  unfold Stop
                  refine wpList_push _ (by rfl) (.tmp 85) (.tmp 91) 26 (by rfl) Enc.named (fun b => b < w4.heap.size) w4.heap.size 69 i0 _ 72 Tryz.underlying26 hi hz0 hz1 hz2 (by rfl) (by decide) (by decide) _ (L ++ [(t.obj, xo)]) (by rfl) (HRW.out.ext (belowNr (Below.refl _ _) _)) [.string nk, .slice ea qo.data.length ec, .slice ga qo.keys.length gc, .int .i64 qo.seq] 69 (nk, qo) (by rfl) ⟨_, _, rfl, HQ.out.1.mono (Same.of_ext (belowNr (Below.refl _ _) _)), HQ.out.2.ext (belowNr (Below.refl _ _) _)⟩ (by simp; omega) (Nat.le_trans HBW.out.size (Nat.le_refl _)) (fun b h => h) ?_
                  intro v' w6 hE6 hB6
                  obtain ⟨va6, ca6, rfl⟩ := hE6.shape
                  have HE6 := Lib.hid hE6
                  have HB6 := Lib.hid (HBW.out.trans ((belowNr (Below.refl _ _) _ |>.mono HBW.out.size).trans hB6))
                  clear hE6 hB6
                  go_wp2
                  go_roundw
                  case rel => exact ⟨k + 1, va6, ca6, by omega, by go_num, by rw [HD.out], by rw [HG.out]; simp, by rw [HG.out]; exact HE6.out, HB6.out⟩
                  case measure => simp [intOf]; omega
          · obtain rfl : k = s.l.length := by omega
            rw [List.take_length] at HR
            rw [List.take_length]
            cases hdd : (!xt || seenS t.obj s.l) with
            | true =>
              have HQD : Hid (stDo s t = (⟨s.room, rowS xt t.obj xo s.l⟩, 0)) := Lib.hid (by rw [stw_row HOK.out HX.out HNF.out, if_pos hdd])
              have HEW := HR
              have HBW := HBR
              clear hdd hR hbr
              generalize rowS xt t.obj xo s.l = L at *
              obtain ⟨r0, g0⟩ := blk_cell (i := 0) (dblk HBW.out HB2.out)
              obtain ⟨r1, g1⟩ := blk_cell (i := 1) (dblk HBW.out HB2.out)
              simp at r0 r1
              go_wp2
              refine bodyPost_ret (results_cell_u1 rfl _ _ (w.heap.size + 2) 28 _ (0, 0) _ rfl (set2b ((Below.heap_setCell _ ⟨w.heap.size, 1, none⟩ _ _ (by show w.heap.size + 2 ≠ w.heap.size; omega)).trans (dblk HBW.out HB2.out))) Tryz.underlying28 rfl (by kernel_rfl)) rfl ?_
              rw [HQD.out]
              exact ⟨_, rfl, Named.soft (HEW.out.sle (fun _ _ _ => trivial) fun _ _ => trivial) (Soft.trans (Soft.setCell (dblk HBW.out HB0.out) (boxP2 _ _ _ _) _) (soft2 ((Below.heap_setCell _ ⟨w.heap.size, 1, none⟩ _ _ (by show w.heap.size + 2 ≠ w.heap.size; omega)).trans (dblk HBW.out HB2.out)) _ _)), below2n ((HW4.out.trans (HBW.out.mono HW4.out.size)).setCell (show w.heap.size ≤ (⟨w.heap.size, 1, none⟩ : Addr).block from Nat.le_refl _) _) (by omega) _ _⟩
            | false =>
              have HQD : Hid (stDo s t = (⟨s.room, rowS xt t.obj xo s.l ++ [(t.obj, xo)]⟩, 0)) := Lib.hid (by rw [stw_row HOK.out HX.out HNF.out, if_neg (by rw [hdd]; decide)])
              have hlk : (rowS xt t.obj xo s.l).length ≤ 100000 := by have := rowS_len (yes := xt) (k := t.obj) (v := xo) (n := s.l.length) hl3; rwa [List.take_length] at this
              clear hdd hR hbr
              generalize rowS xt t.obj xo s.l = L at *
              go_wp2_with (first | (at_builtin; refine stop_in ?_) | go_in)
              unfold Stop
              refine wpList_push _ (by rfl) (.tmp 95) (.tmp 100) 26 (by rfl) Enc.named (fun b => b < w4.heap.size) w4.heap.size 69 i0 _ 72 Tryz.underlying26 hi hz0 hz1 hz2 (by rfl) (by decide) (by decide) _ L (by rfl) HR.out [.string t.obj, .slice na xo.data.length nc, .slice ma xo.keys.length mc, .int .i64 xo.seq] 69 (t.obj, xo) (by rfl) ⟨_, _, rfl, (HD4.out.mono (Same.of_ext HBR.out)), (HK4.out.mono (Same.of_ext HBR.out))⟩ (by omega) (Nat.le_trans HBR.out.size (Nat.le_refl _)) (fun b h => h) ?_
              intro v' w5 hE5 hB5
              obtain ⟨va5, ca5, rfl⟩ := hE5.shape
              have e5 : (L ++ [(t.obj, xo)]).length = L.length + 1 := by simp
              rw [e5] at hE5
              clear e5
              have hbr := HBR.out.trans hB5
              have HEW := Lib.hid hE5
              have HBW := Lib.hid hbr
              clear v0 v1 v2 v3 v4 v5 e0 e1 HRB hE5 hB5
              obtain ⟨v0, e0⟩ := blk_cell (i := 0) (dblk hbr HB0.out)
              obtain ⟨v1, e1⟩ := blk_cell (i := 1) (dblk hbr HB0.out)
              simp at v0 v1
              clear hbr
              obtain ⟨r0, g0⟩ := blk_cell (i := 0) (dblk HBW.out HB2.out)
              obtain ⟨r1, g1⟩ := blk_cell (i := 1) (dblk HBW.out HB2.out)
              simp at r0 r1
              go_wp2
              refine bodyPost_ret (results_cell_u1 rfl _ _ (w.heap.size + 2) 28 _ (0, 0) _ rfl (set2b ((Below.heap_setCell _ ⟨w.heap.size, 1, none⟩ _ _ (by show w.heap.size + 2 ≠ w.heap.size; omega)).trans (dblk HBW.out HB2.out))) Tryz.underlying28 rfl (by kernel_rfl)) rfl ?_
              rw [HQD.out]
              exact ⟨_, rfl, Named.soft (HEW.out.sle (fun _ _ _ => trivial) fun _ _ => trivial) (Soft.trans (Soft.setCell (dblk HBW.out HB0.out) (boxP2 _ _ _ _) _) (soft2 ((Below.heap_setCell _ ⟨w.heap.size, 1, none⟩ _ _ (by show w.heap.size + 2 ≠ w.heap.size; omega)).trans (dblk HBW.out HB2.out)) _ _)), below2n ((HW4.out.trans (HBW.out.mono HW4.out.size)).setCell (show w.heap.size ≤ (⟨w.heap.size, 1, none⟩ : Addr).block from Nat.le_refl _) _) (by omega) _ _⟩
  · have HE := Lib.hid he
    go_wp2
    refine bodyPost_ret (results_cell_u1 rfl _ _ (w.heap.size + 2) 28 _ (0, 0) _ rfl (set2b HB2.out) Tryz.underlying28 rfl (by kernel_rfl)) rfl ?_
    rw [stw_bad' HX.out HE.out]
    exact ⟨_, rfl, Named.soft HVW.out (soft2 HB2.out _ _), below2n HW4.out (by omega) _ _⟩
end Go.Proofs.YtohfckkgmijlnaaGreatDoor
