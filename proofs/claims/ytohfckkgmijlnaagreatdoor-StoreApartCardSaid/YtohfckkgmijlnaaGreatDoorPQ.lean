/- The walk of txn's thing.do: ops, one by one. The walk of terrazzoref09.Check. -/
import Derived.Test.YtohfckkgmijlnaaGreatDoorPO
import Derived.Test.YtohfckkgmijlnaaGreatDoorPP
import Derived.Deep.RegionHeld3
import Derived.Test.YtohfckkgmijlnaaGreatDoorPK
namespace Go.Proofs.YtohfckkgmijlnaaGreatDoor
open Go.RowKit Go.WideShapes

/-- the error that thing.do hands back -/
def thErr (ev : Value) (e : Int) : Prop := (e = 0 ∧ (ev = .nilIface ∨ ev = enoughV)) ∨ (e ≠ 0 ∧ ev = errnoV e)
structure IsTh (base p : Nat) (w : World) (dv kv : Value) (o : ObD) (th : Bool) : Prop where
  blk : w.heap[p]? = some (.cells #[dv, kv, .int .i64 o.seq, .bool th] 81 (0, 0))
  own : Own8 base w dv kv o
theorem IsTh.ext {base p : Nat} {w w' : World} {dv kv : Value} {o : ObD} {th : Bool} (h : IsTh base p w dv kv o th) (hb : Below w.heap.size w w') : IsTh base p w' dv kv o th :=
  ⟨dblk hb h.blk, h.own.keep (Same.of_ext hb)⟩
def ThR (base p : Nat) (r : TDoR) (w : World) (e : Ending) (w' : World) : Prop := ∃ ev dv kv o' th', e = .returned ev ∧ thErr ev r.e ∧ IsTh base p w' dv kv o' th' ∧ (r.e = 0 → o' = r.o ∧ th' = r.there) ∧ Fr (fun k => k = p) w w'
theorem fr_set4 {p : Nat} {w w' : World} (h : Fr (fun k => k = p) w w') (x y z u : Value) : Fr (fun k => k = p) w ((((w'.setCell ⟨p, 0, none⟩ x).setCell ⟨p, 1, none⟩ y).setCell ⟨p, 2, none⟩ z).setCell ⟨p, 3, none⟩ u) :=
  (((h.setCell (a := ⟨p, 0, none⟩) (fun _ => rfl) x).setCell (a := ⟨p, 1, none⟩) (fun _ => rfl) y).setCell (a := ⟨p, 2, none⟩) (fun _ => rfl) z).setCell (a := ⟨p, 3, none⟩) (fun _ => rfl) u
theorem fr_same {p : Nat} {B : Nat → Prop} {w w' : World} (h : Fr (fun k => k = p) w w') (hB : ¬ B p) : Same B w w' := ⟨h.size, fun b hb hl => h.block b hl fun e => hB (e ▸ hb)⟩
theorem fr_grow {p : Nat} {w w' w'' : World} (h : Fr (fun k => k = p) w w') (hb : Below w'.heap.size w' w'') : Fr (fun k => k = p) w w'' := h.trans (Fr.ext hb) fun _ _ h => h
theorem boxTh (a u : Option Addr) (n c m q : Nat) (s : Int) (b : Bool) : BoxO #[.slice a n c, .slice u m q, .int .i64 s, .bool b] := boxO4 _ _ _ _ _ _ _ _
theorem drop_step2 {o : ObD} {th : Bool} {ops : List OpD} {k : Nat} (hk : k < ops.length) : runT o th (ops.drop k) = if (doB o th ops[k]).e = 0 then (if (doB o th ops[k]).on = true then runT (doB o th ops[k]).o (doB o th ops[k]).there (ops.drop (k + 1)) else ⟨(doB o th ops[k]).o, (doB o th ops[k]).there, 0⟩) else TDoR.no (doB o th ops[k]).e := by
  rw [List.drop_eq_getElem_cons hk]
  rfl
set_option maxRecDepth 100000 in
set_option maxHeartbeats 16000000 in
theorem th_any (base p : Nat) (B : Nat → Prop) (dv kv va : Value) (o : ObD) (th : Bool) (ops : List OpD) (w : World) (hT : IsTh base p w dv kv o th) (hm : mayB o = true) (hn : th = false → o = ObD.none)
    (h : SlE Enc.op B w va ops) (hB : ¬ B p) (hop : ∀ op ∈ ops, op.data.length ≤ 50000) (hE : ErrT w) (hEp : p ≠ 0) (hbase : base ≤ w.heap.size) (hl : ops.length ≤ 1000) :
    Calls Tryz.prog 36 #[.pointer (some ⟨p, 0, none⟩), va] w (ThR base p (runT o th ops) w) := by
  obtain ⟨ta, tc, rfl⟩ := h.shape
  obtain ⟨X, hX⟩ : ∃ X, X = runT o th (ops.drop 0) := ⟨_, rfl⟩
  have hXd : runT o th ops = X := hX.symm
  rw [hXd]
  have HT := Lib.hid hT
  have HM := Lib.hid hm
  have HN := Lib.hid hn
  have HS := Lib.hid h
  have HOP := Lib.hid hop
  have HE := Lib.hid hE
  have HX := Lib.hid hX.symm
  have HNB := Lib.hid hB
  have HEP := Lib.hid hEp
  clear hT hm hn h hop hE hX hXd hB hEp
  go_enter Tryz.func36, Tryz.ntmps36
  go_wp2
  go_loopw [13] (fun q13 wr => ∃ k : Nat, k ≤ ops.length ∧ q13 = .int .i64 k ∧ ∃ (th' : Bool) (o' : ObD) (dv' kv' : Value), IsTh base p wr dv' kv' o' th' ∧ mayB o' = true ∧ (th' = false → o' = ObD.none) ∧ runT o' th' (ops.drop k) = X ∧ Fr (fun k => k = p) w wr) (fun q13 _ => ops.length - (intOf q13).toNat)
  case atStart => exact ⟨0, Nat.zero_le _, rfl, th, o, dv, kv, HT.out, HM.out, HN.out, HX.out, Fr.refl _ _⟩
  case round =>
    obtain ⟨k, hk, rfl, th', o', dv', kv', hT, hM, hN, hX, hF⟩ := hrel
    obtain ⟨⟨a', c', rfl⟩, u', q', rfl⟩ := own8_shape hT.own
    have HTT := Lib.hid hT
    have HMM := Lib.hid hM
    have HNN := Lib.hid hN
    have HXX := Lib.hid hX
    have HF := Lib.hid hF
    have hbr : base ≤ wr.heap.size := by have := hF.size; omega
    have hpl : p < wr.heap.size := (Array.getElem?_eq_some_iff.1 hT.blk).1
    clear hT hM hN hX hF HT HM HN HX
    by_cases hlt : k < ops.length
    · obtain ⟨b, off, x, rfl, hb, hbB, c0, c1, c2, c3, c4, hx⟩ := Ops.at (SlE.mono HS.out (fr_same HF.out HNB.out)) hlt
      obtain ⟨xa, xc, rfl⟩ := hx.shape
      have HXD := Lib.hid hx
      have HDR := Lib.hid (drop_step2 (o := o') (th := th') hlt)
      have hdl := HOP.out ops[k] (List.getElem_mem hlt)
      generalize ops[k] = op at *
      obtain ⟨ok, oo, on, onm, opd⟩ := op
      simp only at c0 c1 c2 c3 c4 HXD hdl
      clear hx hbB
      go_upto_region 4 with fail
      obtain ⟨w5, hw5⟩ : ∃ w5, w5 = wr.alloc (.cells #[.int .i64 ok, .int .i64 oo, .int .i64 on, .string onm, .slice xa opd.length xc] 57) := ⟨_, rfl⟩
      rw [← hw5]
      have hb5 : Below wr.heap.size wr w5 := by rw [hw5]; ((repeat' (first | exact Below.refl _ _ | refine below_drewN ?_ _ | refine Below.drew ?_ | refine Below.alloc ?_ ?_ _ | refine Below.trans ?_ (Below.mono (by assumption) ?_))); all_goals (first | exact Nat.le_refl _ | exact Below.size (by assumption) | omega | (simp; done) | (simp; omega)))
      obtain ⟨z0, z1, z2, z3, z4⟩ := five_cells (show w5.heap[wr.heap.size]? = some (.cells #[.int .i64 ok, .int .i64 oo, .int .i64 on, .string onm, .slice xa opd.length xc] 57 (0, 0)) from by rw [hw5]; exact heap_alloc_new _ _)
      have T5 := Lib.hid (HTT.out.ext hb5)
      obtain ⟨⟨y0, -⟩, ⟨y1, -⟩, ⟨y2, -⟩, ⟨y3, -⟩⟩ := four_cells T5.out.blk
      have HX5 := Lib.hid (RB.ext HXD.out hb5)
      have HF5 := Lib.hid (fr_grow HF.out hb5)
      have hE5 : Hid (ErrT w5) := Lib.hid (by
        have := HF5.out.cell (p := ⟨0, 0, none⟩) (World.block_lt_of_cell? w _ HE.out) (fun e => HEP.out e.symm)
        exact this.trans HE.out)
      have hbr5 : base ≤ w5.heap.size := by have := hb5.size; omega
      have hpl5 : p < w5.heap.size := by have := hb5.size; omega
      have hcells : Hid (∀ W, Below w5.heap.size w5 W → Below w5.heap.size w5 W ∧ W.cell? ⟨p, 0, none⟩ = some (.slice a' o'.data.length c') ∧ W.cell? ⟨p, 1, none⟩ = some (.slice u' o'.keys.length q') ∧ W.cell? ⟨p, 2, none⟩ = some (.int .i64 o'.seq) ∧ W.cell? ⟨p, 3, none⟩ = some (.bool th') ∧
          W.cell? ⟨wr.heap.size, 0, none⟩ = some (.int .i64 ok) ∧ W.cell? ⟨wr.heap.size, 1, none⟩ = some (.int .i64 oo) ∧ W.cell? ⟨wr.heap.size, 2, none⟩ = some (.int .i64 on) ∧ W.cell? ⟨wr.heap.size, 3, none⟩ = some (.string onm) ∧ W.cell? ⟨wr.heap.size, 4, none⟩ = some (.slice xa opd.length xc)) := Lib.hid fun W h =>
        ⟨h, cellExt h y0, cellExt h y1, cellExt h y2, cellExt h y3, cellExt h z0, cellExt h z1, cellExt h z2, cellExt h z3, cellExt h z4⟩
      have hdo := fun W (h : Below w5.heap.size w5 W) => do_any _ _ _ o' th' ok oo on onm xa xc opd W (T5.out.own.obv.ext h) (okl_of HMM.out) (RB.ext HX5.out h) hdl (hE5.out.ext h)
      have hst := stay_of (op := ⟨ok, oo, on, onm, opd⟩) HMM.out HNN.out
      unfold opV at hdo
      generalize doB o' th' ⟨ok, oo, on, onm, opd⟩ = D at *
      obtain ⟨xo, xt, xn, xe⟩ := D
      have HDO := Lib.hid hdo
      have HST := Lib.hid hst
      clear hdo hst hw5 hb5 y0 y1 y2 y3 z0 z1 z2 z3 z4 c0 c1 c2 c3 c4 HXD HTT HF
      go_cut [7, 8, 9, 10] (fun s7 s8 s9 s10 wx => ∃ (g : Nat) (ga : Option Addr) (gc : Nat) (gu : Option Addr) (gq : Nat), s7 = .pointer (some ⟨g, 0, none⟩) ∧ s8 = .bool xt ∧ s9 = .bool xn ∧ s10 = .int .i64 xe ∧ w5.heap.size ≤ g ∧
        wx.heap[g]? = some (.cells #[.slice ga xo.data.length gc, .slice gu xo.keys.length gq, .int .i64 xo.seq] 41 (0, 0)) ∧ Own8 base wx (.slice ga xo.data.length gc) (.slice gu xo.keys.length gq) xo ∧ Below w5.heap.size w5 wx)
      case first =>
        go_region_held3 (fun W => Below w5.heap.size w5 W ∧ W.cell? ⟨p, 0, none⟩ = some (.slice a' o'.data.length c') ∧ W.cell? ⟨p, 1, none⟩ = some (.slice u' o'.keys.length q') ∧ W.cell? ⟨p, 2, none⟩ = some (.int .i64 o'.seq) ∧ W.cell? ⟨p, 3, none⟩ = some (.bool th') ∧
          W.cell? ⟨wr.heap.size, 0, none⟩ = some (.int .i64 ok) ∧ W.cell? ⟨wr.heap.size, 1, none⟩ = some (.int .i64 oo) ∧ W.cell? ⟨wr.heap.size, 2, none⟩ = some (.int .i64 on) ∧ W.cell? ⟨wr.heap.size, 3, none⟩ = some (.string onm) ∧ W.cell? ⟨wr.heap.size, 4, none⟩ = some (.slice xa opd.length xc))
          ((refine hcells.out _ ?_; first
            | (with_reducible exact Below.drew (Below.refl _ _))
            | (with_reducible exact Below.drew (below_nw (Below.refl _ _) _))
            | (with_reducible exact below_nw (Below.drew (Below.refl _ _)) _)
            | (with_reducible exact hz6)
            | (with_reducible exact below_nw hz6 _)
            | (with_reducible refine below3 hz6 ?_ _ _ _; exact Nat.le_refl _)
            | (rename_i hh _ _; with_reducible exact hh.1)))
          (first
            | (go_at_call 53; refine (HDO.out _ (by first | exact Below.drew (Below.refl _ _) | exact below_nw (Below.drew (Below.refl _ _)) _ | exact Below.drew (below_nw (Below.refl _ _) _))).mono ?_; intro e w6 h6; obtain ⟨ga, gc, gu, gq, rfl, hv6, hb6⟩ := h6.ways2; have hz6 : Below w5.heap.size w5 w6 := (by first | exact Below.trans (Below.drew (Below.refl w5.heap.size w5)) (Below.mono hb6 (Nat.le_refl _)) | exact Below.trans (below_nw (Below.drew (Below.refl w5.heap.size w5)) _) (Below.mono hb6 (Nat.le_succ _)) | exact Below.trans (Below.drew (below_nw (Below.refl w5.heap.size w5) _)) (Below.mono hb6 (by simp))); have hv7 : Own8 base w6 _ _ xo := hv6.base_le (by simp; try omega); (first | (have hbx := box_a hb6; obtain ⟨⟨k0, l0⟩, ⟨k1, l1⟩, ⟨k2, l2⟩⟩ := six_facts hbx) | (have hbx := box_b hb6; obtain ⟨⟨k0, l0⟩, ⟨k1, l1⟩, ⟨k2, l2⟩⟩ := six_facts hbx) | skip)))
        all_goals
          go_wp2_with fail
          go_meet
          first
            | exact ⟨w6.heap.size, ga, gc, gu, gq, rfl, rfl, rfl, rfl, hz6.size, heap_alloc_new _ _, hv7.keep (Same.of_ext ((Below.refl _ _).alloc (Nat.le_refl _) _)), below_nw hz6 _⟩
            | exact ⟨w5.heap.size, ga, gc, gu, gq, rfl, rfl, rfl, rfl, Nat.le_refl _, set3_blk hbx, hv7.past hbx (by decide) (by decide) (boxO3 _ _ _ _ _ _ _) (set3_past _ _ _).1 (set3_past _ _ _).2, below3 hz6 (Nat.le_refl _) _ _ _⟩
      case rest =>
        obtain ⟨g, ga, gc, gu, gq, rfl, rfl, rfl, rfl, hg, hgb, hgv, hbc⟩ := hcut
        have G6 := Lib.hid hgb
        have X6 := Lib.hid hgv
        have T6 := Lib.hid (T5.out.ext hbc)
        have HF6 := Lib.hid (fr_grow HF5.out hbc)
        clear hgb hgv hbc hcells HDO T5 HF5 HX5 hE5
        obtain ⟨⟨y0, e0⟩, ⟨y1, e1⟩, ⟨y2, e2⟩, ⟨y3, e3⟩⟩ := four_cells T6.out.blk
        obtain ⟨x0, x1, x2⟩ := three_cells G6.out
        by_cases hxe : xe = 0
        · subst hxe
          have HMX := Lib.hid (HST.out.may rfl)
          have HNX : Hid (xt = false → xo = ObD.none) := Lib.hid (HST.out.nn rfl)
          cases xn with
          | true =>
            have HX2 : Hid (runT xo xt (ops.drop (k + 1)) = X) := Lib.hid (by have := HDR.out; rw [HXX.out] at this; exact this.symm)
            clear HDR
            go_wp2
            go_roundw
            case rel => exact ⟨k + 1, by omega, by go_num, xt, xo, _, _, ⟨set4_blk T6.out.blk, X6.out.past T6.out.blk (by decide) (by decide) (boxTh _ _ _ _ _ _ _ _) (set4_past _ _ _ _).1 (set4_past _ _ _ _).2⟩, HMX.out, HNX.out, HX2.out, fr_set4 HF6.out _ _ _ _⟩
            case measure => simp [intOf]; omega
          | false =>
            have HX2 : Hid (X = ⟨xo, xt, 0⟩) := Lib.hid (by have := HDR.out; rw [HXX.out] at this; exact this)
            clear HDR
            go_wp2
            go_ret
            rw [HX2.out]
            exact ⟨_, _, _, xo, xt, rfl, .inl ⟨rfl, .inr rfl⟩, ⟨set4_blk T6.out.blk, X6.out.past T6.out.blk (by decide) (by decide) (boxTh _ _ _ _ _ _ _ _) (set4_past _ _ _ _).1 (set4_past _ _ _ _).2⟩, fun _ => ⟨rfl, rfl⟩, fr_set4 HF6.out _ _ _ _⟩
        · have HX2 : Hid (X = TDoR.no xe) := Lib.hid (by have := HDR.out; rw [HXX.out, if_neg hxe] at this; exact this)
          have HNE := Lib.hid hxe
          have q1 : (xe != 0) = true := by simpa using hxe
          have q2 : (xe == 0) = false := by simpa using hxe
          clear hxe HDR
          go_wp2
          go_ret
          rw [HX2.out]
          exact ⟨_, _, _, o', th', rfl, .inr ⟨HNE.out, rfl⟩, T6.out, fun h => absurd h HNE.out, HF6.out⟩
    · obtain rfl : k = ops.length := by omega
      have HX2 : Hid (X = ⟨o', th', 0⟩) := Lib.hid (by have := HXX.out; rw [List.drop_length] at this; exact this.symm)
      clear HXX
      go_wp2
      go_ret
      rw [HX2.out]
      exact ⟨_, _, _, o', th', rfl, .inl ⟨rfl, .inl rfl⟩, HTT.out, fun _ => ⟨rfl, rfl⟩, HF.out⟩
end Go.Proofs.YtohfckkgmijlnaaGreatDoor
namespace Go.Proofs.YtohfckkgmijlnaaGreatDoor
open Go.RowKit Go.WideShapes

theorem txE_name {nm : ByteArray} {ops : List OpD} (hl : ops.length ≤ 12) (h : nameB nm = false) : txE ⟨nm, ops⟩ = 1 := by
  unfold txE
  rw [if_neg (by show ¬ 12 < ops.length; omega), if_neg (by simp [h])]
theorem txE_op {nm : ByteArray} {ops : List OpD} {k : Nat} (hl : ops.length ≤ 12) (hk : k < ops.length) (h : opB ops[k] = false) : txE ⟨nm, ops⟩ = 1 := by
  unfold txE
  rw [if_neg (by show ¬ 12 < ops.length; omega), if_neg]
  intro h2
  simp only [Bool.and_eq_true] at h2
  have := List.all_eq_true.1 h2.2 ops[k] (List.getElem_mem hk)
  rw [h] at this
  cases this
theorem txE_good {nm : ByteArray} {ops : List OpD} (hl : ops.length ≤ 12) (h : nameB nm = true) (ha : ops.all opB = true) : txE ⟨nm, ops⟩ = 0 := by
  unfold txE
  rw [if_neg (by show ¬ 12 < ops.length; omega), if_pos (by simp [h, ha])]
set_option maxRecDepth 100000 in
set_option maxHeartbeats 8000000 in
theorem rcheck9_any (A : Nat → Prop) (t : TxD) (va : Value) (w : World) (h : SlE Enc.op A w va t.ops) : Calls Tryz.prog 30 #[.agg #[.string t.obj, va]] w fun e w' => e = .returned (.int .i64 (txE t)) ∧ Below w.heap.size w w' := by
  obtain ⟨a, c, rfl⟩ := h.shape
  obtain ⟨ob, ops⟩ := t
  simp only at *
  have HS := Lib.hid h
  clear h
  by_cases hl : 12 < ops.length
  · have hl' : (12 : Int) < ops.length := by omega
    have HV : Hid (txE ⟨ob, ops⟩ = 2) := if_pos hl
    go_enter Tryz.func30, Tryz.ntmps30
    go_wp2
    go_ret
    exact ⟨by rw [HV.out]; rfl, by ((repeat' (first | exact Below.refl _ _ | refine below_drewN ?_ _ | refine Below.drew ?_ | refine Below.alloc ?_ ?_ _ | refine Below.trans ?_ (Below.mono (by assumption) ?_))); all_goals (first | exact Nat.le_refl _ | exact Below.size (by assumption) | omega | (simp; done) | (simp; omega)))⟩
  · have hl' : ¬ (12 : Int) < ops.length := by omega
    have hll : ops.length ≤ 12 := by omega
    go_enter Tryz.func30, Tryz.ntmps30
    go_wp2_with fail
    refine (rname_any ob _).mono ?_
    rintro e w1 ⟨rfl, rfl⟩
    cases hn : nameB ob with
    | false =>
      have HV := Lib.hid (txE_name (ops := ops) hll hn)
      clear hn
      go_wp2
      go_ret
      exact ⟨by rw [HV.out]; rfl, by ((repeat' (first | exact Below.refl _ _ | refine below_drewN ?_ _ | refine Below.drew ?_ | refine Below.alloc ?_ ?_ _ | refine Below.trans ?_ (Below.mono (by assumption) ?_))); all_goals (first | exact Nat.le_refl _ | exact Below.size (by assumption) | omega | (simp; done) | (simp; omega)))⟩
    | true =>
      have HN := Lib.hid hn
      clear hn
      go_wp2
      obtain ⟨w0, hw0⟩ : ∃ w0, w0 = w.alloc (.cells #[.string ob, .slice a ops.length c] 33) := ⟨_, rfl⟩
      rw [← hw0]
      have hb0 : Below w.heap.size w w0 := by rw [hw0]; ((repeat' (first | exact Below.refl _ _ | refine below_drewN ?_ _ | refine Below.drew ?_ | refine Below.alloc ?_ ?_ _ | refine Below.trans ?_ (Below.mono (by assumption) ?_))); all_goals (first | exact Nat.le_refl _ | exact Below.size (by assumption) | omega | (simp; done) | (simp; omega)))
      have B0 := Lib.hid (show w0.heap[w.heap.size]? = some (.cells #[.string ob, .slice a ops.length c] 33 (0, 0)) from by rw [hw0]; exact heap_alloc_new _ _)
      have HW := Lib.hid hb0
      have HS0 := Lib.hid (HS.out.ext hb0)
      clear hw0 hb0 HS
      go_loopw [4] (fun q4 wr => ∃ k : Nat, k ≤ ops.length ∧ q4 = .int .i64 k ∧ (ops.take k).all opB = true ∧ Below w0.heap.size w0 wr) (fun q4 _ => ops.length - (intOf q4).toNat)
      case atStart => exact ⟨0, Nat.zero_le _, rfl, rfl, Below.refl _ _⟩
      case round =>
        obtain ⟨k, hk, rfl, hall, hbr⟩ := hrel
        have HBR := Lib.hid hbr
        have HA := Lib.hid hall
        have hsr := hbr.size
        have BR := Lib.hid (dblk hbr B0.out)
        have hlr : w.heap.size < wr.heap.size := (Array.getElem?_eq_some_iff.1 BR.out).1
        obtain ⟨x0, -⟩ := blk_cell (i := 0) BR.out
        obtain ⟨x1, -⟩ := blk_cell (i := 1) BR.out
        simp at x0 x1
        clear hbr hall
        by_cases hlt : k < ops.length
        · have HAS := Lib.hid (all_succ ops k hlt)
          have HBAD : Hid (opB ops[k] = false → txE ⟨ob, ops⟩ = 1) := Lib.hid (txE_op hll hlt)
          obtain ⟨b, off, v, rfl, hb, -, c0, c1, c2, c3, c4, hv⟩ := Ops.at (HS0.out.ext HBR.out) hlt
          obtain ⟨va, vc, rfl⟩ := hv.shape
          clear hv
          generalize ops[k] = o at *
          obtain ⟨k1, f1, n1, nm1, d1⟩ := o
          simp only at c0 c1 c2 c3 c4
          go_upto_region 10 with fail
          obtain ⟨w2, hw2⟩ : ∃ w2, w2 = wr.alloc (.cells #[.int .i64 k1, .int .i64 f1, .int .i64 n1, .string nm1, .slice va d1.length vc] 57) := ⟨_, rfl⟩
          rw [← hw2]
          have HB2 := Lib.hid (show Below w0.heap.size w0 w2 from by rw [hw2]; exact HBR.out.alloc hsr _)
          obtain ⟨z0, z1, z2, z3, z4⟩ := five_cells (show w2.heap[wr.heap.size]? = some (.cells #[.int .i64 k1, .int .i64 f1, .int .i64 n1, .string nm1, .slice va d1.length vc] 57 (0, 0)) from by rw [hw2]; exact heap_alloc_new _ _)
          have HWB := Lib.hid (show Below w.heap.size w w2 from HW.out.trans (HB2.out.mono HW.out.size))
          clear hw2 x0 x1 c0 c1 c2 c3 c4
          by_cases h0 : k1 < 1
          · have HV : Hid (txE ⟨ob, ops⟩ = 1) := Lib.hid (HBAD.out (by simp only [opB, opP]; exact decide_eq_false (by omega)))
            clear HBAD HAS
            go_wp2
            go_ret
            exact ⟨by rw [HV.out]; rfl, HWB.out⟩
          by_cases h1 : 14 < k1
          · have HV : Hid (txE ⟨ob, ops⟩ = 1) := Lib.hid (HBAD.out (by simp only [opB, opP]; exact decide_eq_false (by omega)))
            clear HBAD HAS
            go_wp2
            go_ret
            exact ⟨by rw [HV.out]; rfl, HWB.out⟩
          by_cases h2 : f1 < 0
          · have HV : Hid (txE ⟨ob, ops⟩ = 1) := Lib.hid (HBAD.out (by simp only [opB, opP]; exact decide_eq_false (by omega)))
            clear HBAD HAS
            go_wp2
            go_ret
            exact ⟨by rw [HV.out]; rfl, HWB.out⟩
          by_cases h3 : 1099511627776 < f1
          · have HV : Hid (txE ⟨ob, ops⟩ = 1) := Lib.hid (HBAD.out (by simp only [opB, opP]; exact decide_eq_false (by omega)))
            clear HBAD HAS
            go_wp2
            go_ret
            exact ⟨by rw [HV.out]; rfl, HWB.out⟩
          by_cases h4 : n1 < 0
          · have HV : Hid (txE ⟨ob, ops⟩ = 1) := Lib.hid (HBAD.out (by simp only [opB, opP]; exact decide_eq_false (by omega)))
            clear HBAD HAS
            go_wp2
            go_ret
            exact ⟨by rw [HV.out]; rfl, HWB.out⟩
          by_cases h5 : 1099511627776 < n1
          · have HV : Hid (txE ⟨ob, ops⟩ = 1) := Lib.hid (HBAD.out (by simp only [opB, opP]; exact decide_eq_false (by omega)))
            clear HBAD HAS
            go_wp2
            go_ret
            exact ⟨by rw [HV.out]; rfl, HWB.out⟩
          by_cases h6 : (12 : Int) < nm1.size
          · have HV : Hid (txE ⟨ob, ops⟩ = 1) := Lib.hid (HBAD.out (by simp only [opB, opP]; exact decide_eq_false (by omega)))
            clear HBAD HAS
            go_wp2
            go_ret
            exact ⟨by rw [HV.out]; rfl, HWB.out⟩
          by_cases h7 : (2048 : Int) < d1.length
          · have HV : Hid (txE ⟨ob, ops⟩ = 1) := Lib.hid (HBAD.out (by simp only [opB, opP]; exact decide_eq_false (by omega)))
            clear HBAD HAS
            go_wp2
            go_ret
            exact ⟨by rw [HV.out]; rfl, HWB.out⟩
          have HNX : Hid ((ops.take (k + 1)).all opB = true) := by
            show _ = _
            rw [HAS.out, HA.out, Bool.true_and]
            simp only [opB, opP]
            exact decide_eq_true (by omega)
          clear HAS HBAD
          go_wp2
          go_roundw
          case rel => exact ⟨k + 1, by omega, by go_num, HNX.out, HB2.out⟩
          case measure => simp [intOf]; omega
        · obtain rfl : k = ops.length := by omega
          have HV : Hid (txE ⟨ob, ops⟩ = 0) := Lib.hid (txE_good hll HN.out (by rw [← HA.out, List.take_length]))
          go_wp2
          go_ret
          exact ⟨by rw [HV.out]; rfl, HW.out.trans (HBR.out.mono HW.out.size)⟩
end Go.Proofs.YtohfckkgmijlnaaGreatDoor
