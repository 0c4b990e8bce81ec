/- terrazzoref09.Do: its second contract. (printed by gen_kf.py) -/
import Derived.Test.YtfeonfihlleoeaaDoorGAX
import Derived.Test.YtfeonfihlleoeaaDoorKfD
namespace Go.Proofs.YtfeonfihlleoeaaDoor
open Go.RowKit Go.WideShapes

/-- what a call that does a transaction leaves -/
def TDoRF (K0 : Nat) (x : TDoR) (w : World) (e : Ending) (w' : World) : Prop := ∃ dv kv, e = .returned (.tuple #[.agg #[dv, kv, .int .i64 x.o.seq], .bool x.there, .int .i64 x.e]) ∧ ObF K0 w' (.agg #[dv, kv, .int .i64 x.o.seq]) x.o ∧ Below w.heap.size w w'
theorem TDoRF.no {K0 : Nat} {c : Int} {x : TDoR} {w w' : World} (hx : x = TDoR.no c) (hb : Below w.heap.size w w') : TDoRF K0 x w (.returned (.tuple #[.agg #[.slice none 0 0, .slice none 0 0, .int .i64 0], .bool false, .int .i64 c])) w' := by
  subst hx
  exact ⟨_, _, rfl, obf_none _, hb⟩
theorem TDoRF.ok {K0 : Nat} {x : TDoR} {dv kv : Value} {o : ObD} {s : Int} {th : Bool} {w w' : World} (hx : x = ⟨o, th, 0⟩) (hv : ObF K0 w' (.agg #[dv, kv, .int .i64 s]) o) (hb : Below w.heap.size w w') : TDoRF K0 x w (.returned (.tuple #[.agg #[dv, kv, .int .i64 s], .bool th, .int .i64 0])) w' := by
  subst hx
  have hs : s = o.seq := by
    obtain ⟨_, _, e, _⟩ := hv.ob
    simp at e
    exact e.2.2
  subst hs
  exact ⟨_, _, rfl, hv, hb⟩
set_option maxRecDepth 100000 in
set_option maxHeartbeats 16000000 in
theorem rtdo_kf (K0 : Nat) (A B : Nat → Prop) (v va : Value) (o : ObD) (th : Bool) (t : TxD) (w : World) (hv : ObV A w v o) (ho : o.keys.length ≤ 100000) (h : SlE Enc.op B w va t.ops) (hop : ∀ op ∈ t.ops, op.data.length ≤ 50000) (hkd : ∀ op ∈ t.ops, op.kind = 4 ∨ op.kind = 9 ∨ op.kind = 10 ∨ op.kind = 12) (hkf : ∀ d k s, v = .agg #[d, k, s] → KF K0 w k) (hK0 : K0 ≤ w.heap.size) :
    Calls Tryd.prog 26 #[v, .bool th, .agg #[.string t.obj, va]] w (TDoRF K0 (txDo o th t) w) := by
  obtain ⟨dv0, kv0, rfl, hdd, hkk⟩ := hv
  obtain ⟨da, dc, rfl⟩ := hdd.shape
  obtain ⟨ka, kc, rfl⟩ := hkk.shape
  have HOV : Hid (ObV A w _ o) := Lib.hid ⟨_, _, rfl, hdd, hkk⟩
  obtain ⟨ta, tc, rfl⟩ := h.shape
  obtain ⟨ob, ops⟩ := t
  simp only at *
  have HS := Lib.hid h
  have HOP := Lib.hid hop
  have HKD := Lib.hid hkd
  have HKF := Lib.hid hkf
  clear hdd hkk h hop hkd hkf
  go_enter Tryd.func26, Tryd.ntmps26
  go_wp2_with fail
  obtain ⟨w0, hw0⟩ : ∃ w0, w0 = ((w.alloc (.cells #[.slice da o.data.length dc, .slice ka o.keys.length kc, .int .i64 o.seq] 39)).alloc (.cells #[.string ob, .slice ta ops.length tc] 28)).alloc (.cells #[.slice none 0 0, .slice none 0 0, .int .i64 0] 39) := ⟨_, rfl⟩
  rw [← hw0]
  have b0 : w0.heap[w.heap.size]? = some (.cells #[.slice da o.data.length dc, .slice ka o.keys.length kc, .int .i64 o.seq] 39 (0, 0)) := by rw [hw0]; exact dnew (dnew (heap_alloc_new _ _) _) _
  have b1 : w0.heap[w.heap.size + 1]? = some (.cells #[.string ob, .slice ta ops.length tc] 28 (0, 0)) := by rw [hw0]; exact dnew (heap_alloc2_new _ _ _) _
  have b2 : w0.heap[w.heap.size + 2]? = some (.cells #[.slice none 0 0, .slice none 0 0, .int .i64 0] 39 (0, 0)) := by rw [hw0]; have h := fun (W : World) o' => heap_alloc_new W o'; have := h ((w.alloc (.cells #[.slice da o.data.length dc, .slice ka o.keys.length kc, .int .i64 o.seq] 39)).alloc (.cells #[.string ob, .slice ta ops.length tc] 28)) (.cells #[.slice none 0 0, .slice none 0 0, .int .i64 0] 39); simpa using this
  have hw : Below w.heap.size w w0 := by rw [hw0]; ((repeat' (first | exact Below.refl _ _ | refine below_drewN ?_ _ | refine Below.drew ?_ | refine Below.alloc ?_ ?_ _ | refine Below.trans ?_ (Below.mono (by assumption) ?_))); all_goals (first | exact Nat.le_refl _ | exact Below.size (by assumption) | omega | (simp; done) | (simp; omega)))
  clear hw0
  refine (rcheck9_any B ⟨ob, ops⟩ _ _ (HS.out.ext hw)).mono ?_
  rintro e w1 ⟨rfl, hb1⟩
  have HW1 := Lib.hid (dcall hw hb1)
  have P1 := Lib.hid (dblk hb1 b0)
  have T1 := Lib.hid (dblk hb1 b1)
  have R1 := Lib.hid (dblk hb1 b2)
  clear hb1 b0 b1 b2 hw
  obtain ⟨x0, f0⟩ := blk_cell (i := 0) (R1.out)
  obtain ⟨x1, f1⟩ := blk_cell (i := 1) (R1.out)
  obtain ⟨x2, f2⟩ := blk_cell (i := 2) (R1.out)
  simp at x0 x1 x2
  by_cases hE : txE ⟨ob, ops⟩ = 0
  · have HE := Lib.hid hE
    rw [hE]
    clear hE
    obtain ⟨y0, e0⟩ := blk_cell (i := 0) (P1.out)
    obtain ⟨y1, e1⟩ := blk_cell (i := 1) (P1.out)
    obtain ⟨y2, e2⟩ := blk_cell (i := 2) (P1.out)
    simp at y0 y1 y2
    go_wp2_with fail
    refine (rmay8_any _ _ o _ (HOV.out.ext HW1.out) ho).mono ?_
    rintro e w2 ⟨rfl, hb2⟩
    have HW2 := Lib.hid (dcall HW1.out hb2)
    have P2 := Lib.hid (dblk hb2 P1.out)
    have T2 := Lib.hid (dblk hb2 T1.out)
    have R2 := Lib.hid (dblk hb2 R1.out)
    clear hb2 P1 T1 R1 HW1 y0 y1 y2 e0 e1 e2 x0 x1 x2 f0 f1 f2
    obtain ⟨x0, f0⟩ := blk_cell (i := 0) (R2.out)
    obtain ⟨x1, f1⟩ := blk_cell (i := 1) (R2.out)
    obtain ⟨x2, f2⟩ := blk_cell (i := 2) (R2.out)
    simp at x0 x1 x2
    cases hm : mayB o with
    | false =>
      have HX := Lib.hid (txDo_may (th := th) HE.out hm)
      clear hm
      go_wp2
      refine bodyPost_ret (results_cell_t2 rfl _ _ (w.heap.size + 2) 39 _ (0, 0) _ rfl (set3_blk R2.out) Tryd.underlying39 rfl (by kernel_rfl)) rfl ?_
      exact TDoRF.no HX.out (below3 HW2.out (by omega) _ _ _)
    | true =>
      have HX := Lib.hid (txDo_run (th := th) HE.out hm)
      have HM := Lib.hid hm
      clear hm
      obtain ⟨y0, e0⟩ := blk_cell (i := 0) (P2.out)
      obtain ⟨y1, e1⟩ := blk_cell (i := 1) (P2.out)
      obtain ⟨y2, e2⟩ := blk_cell (i := 2) (P2.out)
      simp at y0 y1 y2
      obtain ⟨X, hX⟩ : ∃ X, X = txDo o th ⟨ob, ops⟩ := ⟨_, rfl⟩
      have HXE := Lib.hid hX.symm
      rw [← hX] at HX
      obtain ⟨O1, hO1⟩ : ∃ O1, O1 = (if th then o else ObD.none) := ⟨_, rfl⟩
      have HM1 : Hid (mayB O1 = true) := Lib.hid (by rw [hO1]; exact mayB_of HM.out)
      have HN1 : Hid (th = false → O1 = ObD.none) := Lib.hid (fun h => by rw [hO1, h]; rfl)
      have HX1 : Hid (runT O1 th (ops.drop 0) = X) := Lib.hid (by rw [hO1]; exact HX.out.symm)
      have HO1 := Lib.hid hO1
      clear hX hO1 HX
      go_upto_if 28 with fail
      go_cut [1] (fun s1 wx => s1 = .bool th ∧ ∃ (a : Option Addr) (c : Nat) (u : Option Addr) (q : Nat), wx.heap[w.heap.size]? = some (.cells #[.slice a O1.data.length c, .slice u O1.keys.length q, .int .i64 O1.seq] 39 (0, 0)) ∧
        ObF K0 wx (.agg #[.slice a O1.data.length c, .slice u O1.keys.length q, .int .i64 O1.seq]) O1 ∧ wx.heap[w.heap.size + 1]? = some (.cells #[.string ob, .slice ta ops.length tc] 28 (0, 0)) ∧
        wx.heap[w.heap.size + 2]? = some (.cells #[.slice none 0 0, .slice none 0 0, .int .i64 0] 39 (0, 0)) ∧ Below w.heap.size w wx)
      case first =>
        cases th with
        | true =>
          obtain rfl : O1 = o := HO1.out
          go_wp2_with fail
          go_meet
          exact ⟨rfl, da, dc, ka, kc, P2.out, ⟨(HOV.out.ext HW2.out).weak fun _ _ _ => trivial, fun d k s e => (HKF.out d k s e).ext HW2.out⟩, T2.out, R2.out, HW2.out⟩
        | false =>
          obtain rfl : O1 = ObD.none := HO1.out
          go_wp2_with fail
          go_meet
          exact ⟨rfl, none, 0, none, 0, set3_blk P2.out, obf_none _, dset3 rfl (by simp) T2.out, dset3 rfl (by simp) R2.out, below3 HW2.out (Nat.le_refl _) _ _ _⟩
      case rest =>
        obtain ⟨rfl, a, c, u, q, hP, hV, hT, hR, hB⟩ := hcut
        have HP := Lib.hid hP
        have HV := Lib.hid hV
        have HT := Lib.hid hT
        have HR := Lib.hid hR
        have HB := Lib.hid hB
        clear hP hV hT hR hB P2 T2 R2 HW2 HO1 y0 y1 y2 e0 e1 e2 x0 x1 x2 f0 f1 f2
        have hle := (txE_ok' HE.out).1
        simp only at hle
        go_wp2
        go_loopw [1, 11] (fun q1 q11 wr => ∃ k : Nat, k ≤ ops.length ∧ q11 = .int .i64 k ∧ ∃ (th' : Bool) (o' : ObD) (a : Option Addr) (c : Nat) (u : Option Addr) (q : Nat), q1 = .bool th' ∧ wr.heap[w.heap.size]? = some (.cells #[.slice a o'.data.length c, .slice u o'.keys.length q, .int .i64 o'.seq] 39 (0, 0)) ∧
          ObF K0 wr (.agg #[.slice a o'.data.length c, .slice u o'.keys.length q, .int .i64 o'.seq]) o' ∧ wr.heap[w.heap.size + 1]? = some (.cells #[.string ob, .slice ta ops.length tc] 28 (0, 0)) ∧
          wr.heap[w.heap.size + 2]? = some (.cells #[.slice none 0 0, .slice none 0 0, .int .i64 0] 39 (0, 0)) ∧ mayB o' = true ∧ (th' = false → o' = ObD.none) ∧ runT o' th' (ops.drop k) = X ∧ Below w.heap.size w wr) (fun _ q11 _ => ops.length - (intOf q11).toNat)
        case atStart => exact ⟨0, Nat.zero_le _, rfl, th, O1, _, _, _, _, rfl, HP.out, HV.out, HT.out, HR.out, HM1.out, HN1.out, HX1.out, HB.out⟩
        case round =>
          obtain ⟨k, hk, rfl, th', o', a', c', u', q', rfl, hP, hV, hT, hR, hM, hN, hX, hB⟩ := hrel
          clear HP HV HT HR HB HM1 HN1 HX1
          have HP := Lib.hid hP
          have HV := Lib.hid hV
          have HT := Lib.hid hT
          have HR := Lib.hid hR
          have HMM := Lib.hid hM
          have HN := Lib.hid hN
          have HX := Lib.hid hX
          have HB := Lib.hid hB
          clear hP hV hT hR hM hN hX hB
          obtain ⟨y0, y1, y2⟩ := three_cells HP.out
          obtain ⟨t1, -⟩ := blk_cell (i := 1) HT.out
          simp at t1
          have hl1 : w.heap.size + 1 < wr.heap.size := (Array.getElem?_eq_some_iff.1 HT.out).1
          by_cases hlt : k < ops.length
          · obtain ⟨b, off, x, rfl, hb, -, c0, c1, c2, c3, c4, hx⟩ := Ops.at (HS.out.ext HB.out) hlt
            obtain ⟨xa, xc, rfl⟩ := hx.shape
            have HXX := Lib.hid hx
            have HDR := Lib.hid (drop_step (o := o') (th := th') hlt)
            have hdl := HOP.out ops[k] (List.getElem_mem hlt)
            have hdk := HKD.out ops[k] (List.getElem_mem hlt)
            generalize ops[k] = op at *
            obtain ⟨ok, oo, on, onm, opd⟩ := op
            simp only at c0 c1 c2 c3 c4 HXX hdl hdk
            clear hx
            go_upto_region 12 with fail
            have hcells : Hid (∀ W, Below wr.heap.size wr W → Below wr.heap.size wr W ∧ W.cell? ⟨w.heap.size, 0, none⟩ = some (.slice a' o'.data.length c') ∧ W.cell? ⟨w.heap.size, 1, none⟩ = some (.slice u' o'.keys.length q') ∧ W.cell? ⟨w.heap.size, 2, none⟩ = some (.int .i64 o'.seq) ∧ W.cell? ⟨w.heap.size + 1, 1, none⟩ = some (.slice (some ⟨b, off, none⟩) ops.length tc) ∧
                W.cell? ⟨b, off + k * 5, none⟩ = some (.int .i64 ok) ∧ W.cell? ⟨b, off + k * 5 + 1, none⟩ = some (.int .i64 oo) ∧ W.cell? ⟨b, off + k * 5 + 2, none⟩ = some (.int .i64 on) ∧ W.cell? ⟨b, off + k * 5 + 3, none⟩ = some (.string onm) ∧ W.cell? ⟨b, off + k * 5 + 4, none⟩ = some (.slice xa opd.length xc)) := Lib.hid fun W h =>
              ⟨h, cellExt h y0, cellExt h y1, cellExt h y2, cellExt h t1, cellExt h c0, cellExt h c1, cellExt h c2, cellExt h c3, cellExt h c4⟩
            have hdo := fun W (h : Below wr.heap.size wr W) => rdo_kf K0 (fun _ => True) _ _ o' th' ok oo on onm xa xc opd W (HV.out.ext h) HMM.out hdk (RB.ext HXX.out h) hdl (Nat.le_trans hK0 (Nat.le_trans HB.out.size h.size))
            have hst := stay_of (op := ⟨ok, oo, on, onm, opd⟩) HMM.out HN.out
            unfold opV at hdo
            generalize doB o' th' ⟨ok, oo, on, onm, opd⟩ = D at *
            obtain ⟨xo, xt, xn, xe⟩ := D
            have HDO := Lib.hid hdo
            have HST := Lib.hid hst
            clear hdo hst y0 y1 y2 t1 c0 c1 c2 c3 c4 HXX
            have hk5 : (0 : Int) ≤ k := by omega
            have hkl5 : (k : Int) < ops.length := by omega
            go_cut [12, 13, 14, 15] (fun s12 s13 s14 s15 wx => ∃ (g : Nat) (ga : Option Addr) (gc : Nat) (gu : Option Addr) (gq : Nat), s12 = .pointer (some ⟨g, 0, none⟩) ∧ s13 = .bool xt ∧ s14 = .bool xn ∧ s15 = .int .i64 xe ∧ wr.heap.size ≤ g ∧
              wx.heap[g]? = some (.cells #[.slice ga xo.data.length gc, .slice gu xo.keys.length gq, .int .i64 xo.seq] 39 (0, 0)) ∧ ObF K0 wx (.agg #[.slice ga xo.data.length gc, .slice gu xo.keys.length gq, .int .i64 xo.seq]) xo ∧ Below wr.heap.size wr wx)
            case first =>
              go_region_held3 (fun W => Below wr.heap.size wr W ∧ W.cell? ⟨w.heap.size, 0, none⟩ = some (.slice a' o'.data.length c') ∧ W.cell? ⟨w.heap.size, 1, none⟩ = some (.slice u' o'.keys.length q') ∧ W.cell? ⟨w.heap.size, 2, none⟩ = some (.int .i64 o'.seq) ∧ W.cell? ⟨w.heap.size + 1, 1, none⟩ = some (.slice (some ⟨b, off, none⟩) ops.length tc) ∧
                W.cell? ⟨b, off + k * 5, none⟩ = some (.int .i64 ok) ∧ W.cell? ⟨b, off + k * 5 + 1, none⟩ = some (.int .i64 oo) ∧ W.cell? ⟨b, off + k * 5 + 2, none⟩ = some (.int .i64 on) ∧ W.cell? ⟨b, off + k * 5 + 3, none⟩ = some (.string onm) ∧ W.cell? ⟨b, off + k * 5 + 4, none⟩ = some (.slice xa opd.length xc))
                ((refine hcells.out _ ?_; first
                  | (with_reducible exact Below.drew (Below.refl _ _))
                  | (with_reducible exact Below.drew (below_nw (Below.refl _ _) _))
                  | (with_reducible exact below_nw (Below.drew (Below.refl _ _)) _)
                  | (with_reducible exact hz6)
                  | (with_reducible exact below_nw hz6 _)
                  | (with_reducible refine below3 hz6 ?_ _ _ _; exact Nat.le_refl _)
                  | (rename_i hh _ _; with_reducible exact hh.1)))
                (first
                  | (go_at_call 41; refine (HDO.out _ (by first | exact Below.drew (Below.refl _ _) | exact below_nw (Below.drew (Below.refl _ _)) _ | exact Below.drew (below_nw (Below.refl _ _) _))).mono ?_; intro e w6 h6; obtain ⟨ga, gc, gu, gq, rfl, hv6, hb6⟩ := h6.ways; have hz6 : Below wr.heap.size wr w6 := (by first | exact Below.trans (Below.drew (Below.refl wr.heap.size wr)) (Below.mono hb6 (Nat.le_refl _)) | exact Below.trans (below_nw (Below.drew (Below.refl wr.heap.size wr)) _) (Below.mono hb6 (Nat.le_succ _)) | exact Below.trans (Below.drew (below_nw (Below.refl wr.heap.size wr) _)) (Below.mono hb6 (by simp))); (first | (have hbx := box_a hb6; obtain ⟨⟨k0, l0⟩, ⟨k1, l1⟩, ⟨k2, l2⟩⟩ := six_facts hbx) | (have hbx := box_b hb6; obtain ⟨⟨k0, l0⟩, ⟨k1, l1⟩, ⟨k2, l2⟩⟩ := six_facts hbx) | skip)))
              all_goals
                go_wp2_with fail
                go_meet
                first
                  | exact ⟨w6.heap.size, ga, gc, gu, gq, rfl, rfl, rfl, rfl, hz6.size, heap_alloc_new _ _, hv6.ext ((Below.refl _ _).alloc (Nat.le_refl _) _), below_nw hz6 _⟩
                  | exact ⟨wr.heap.size, ga, gc, gu, gq, rfl, rfl, rfl, rfl, Nat.le_refl _, set3_blk hbx, hv6.set3 hbx (boxO3 _ _ _ _ _ _ _), below3 hz6 (Nat.le_refl _) _ _ _⟩
            case rest =>
              obtain ⟨g, ga, gc, gu, gq, rfl, rfl, rfl, rfl, hg, hgb, hgv, hbc⟩ := hcut
              have G6 := Lib.hid hgb
              have X6 := Lib.hid hgv
              have P6 := Lib.hid (dblk hbc HP.out)
              have T6 := Lib.hid (dblk hbc HT.out)
              have R6 := Lib.hid (dblk hbc HR.out)
              have HB6 := Lib.hid (dcall HB.out hbc)
              have hgp : w.heap.size + 2 < g := by have := (Array.getElem?_eq_some_iff.1 HR.out).1; omega
              clear hgb hgv hbc hcells HDO HP HV HT HR HB
              obtain ⟨y0, e0⟩ := blk_cell (i := 0) (P6.out)
              obtain ⟨y1, e1⟩ := blk_cell (i := 1) (P6.out)
              obtain ⟨y2, e2⟩ := blk_cell (i := 2) (P6.out)
              simp at y0 y1 y2
              obtain ⟨x0, f0⟩ := blk_cell (i := 0) (R6.out)
              obtain ⟨x1, f1⟩ := blk_cell (i := 1) (R6.out)
              obtain ⟨x2, f2⟩ := blk_cell (i := 2) (R6.out)
              simp at x0 x1 x2
              obtain ⟨z0, z1, z2⟩ := three_cells G6.out
              by_cases hxe : xe = 0
              · subst hxe
                have HMX := Lib.hid (HST.out.may rfl)
                have HNX : Hid (xt = false → xo = ObD.none) := Lib.hid (HST.out.nn rfl)
                cases xn with
                | true =>
                  have HX2 : Hid (runT xo xt (ops.drop (k + 1)) = X) := Lib.hid (by have := HDR.out; rw [HX.out] at this; exact this.symm)
                  clear HDR
                  go_wp2
                  go_roundw
                  case rel => exact ⟨k + 1, by omega, by go_num, xt, xo, ga, gc, gu, gq, rfl, set3_blk P6.out, X6.out.set3 P6.out (boxO3 _ _ _ _ _ _ _), dset3 rfl (by simp) T6.out, dset3 rfl (by simp) R6.out, HMX.out, HNX.out, HX2.out, below3 HB6.out (Nat.le_refl _) _ _ _⟩
                  case measure => simp [intOf]; omega
                | false =>
                  have HX2 : Hid (X = ⟨xo, xt, 0⟩) := Lib.hid (by have := HDR.out; rw [HX.out] at this; exact this)
                  clear HDR
                  go_wp2
                  refine bodyPost_ret (results_cell_t2 rfl _ _ (w.heap.size + 2) 39 _ (0, 0) _ rfl (set3_blk (dset3 rfl (show w.heap.size + 2 ≠ w.heap.size by omega) R6.out)) Tryd.underlying39 rfl (by kernel_rfl)) rfl ?_
                  exact TDoRF.ok (HXE.out.trans HX2.out) ((X6.out.set3 P6.out (boxO3 _ _ _ _ _ _ _)).set3 (dset3 rfl (show w.heap.size + 2 ≠ w.heap.size by omega) R6.out) (boxO3 _ _ _ _ _ _ _)) (below3 (below3 HB6.out (Nat.le_refl _) _ _ _) (by omega) _ _ _)
              · have HX2 : Hid (X = TDoR.no xe) := Lib.hid (by have := HDR.out; rw [HX.out, if_neg hxe] at this; exact this)
                have q1 : (xe != 0) = true := by simpa using hxe
                have q2 : (xe == 0) = false := by simpa using hxe
                clear hxe HDR
                go_wp2
                refine bodyPost_ret (results_cell_t2 rfl _ _ (w.heap.size + 2) 39 _ (0, 0) _ rfl (set3_blk R6.out) Tryd.underlying39 rfl (by kernel_rfl)) rfl ?_
                exact TDoRF.no (HXE.out.trans HX2.out) (below3 HB6.out (by omega) _ _ _)
          · obtain rfl : k = ops.length := by omega
            have HX2 : Hid (X = ⟨o', th', 0⟩) := Lib.hid (by have := HX.out; rw [List.drop_length] at this; exact this.symm)
            obtain ⟨x0, f0⟩ := blk_cell (i := 0) (HR.out)
            obtain ⟨x1, f1⟩ := blk_cell (i := 1) (HR.out)
            obtain ⟨x2, f2⟩ := blk_cell (i := 2) (HR.out)
            simp at x0 x1 x2
            clear HX
            go_wp2
            refine bodyPost_ret (results_cell_t2 rfl _ _ (w.heap.size + 2) 39 _ (0, 0) _ rfl (set3_blk HR.out) Tryd.underlying39 rfl (by kernel_rfl)) rfl ?_
            exact TDoRF.ok (HXE.out.trans HX2.out) (HV.out.set3 HR.out (boxO3 _ _ _ _ _ _ _)) (below3 HB.out (by omega) _ _ _)
  · have HX := Lib.hid (txDo_chk (o := o) (th := th) hE)
    generalize txE ⟨ob, ops⟩ = E at *
    have t1 : (E != 0) = true := by simpa using hE
    have t2 : (E == 0) = false := by simpa using hE
    clear hE
    go_wp2
    refine bodyPost_ret (results_cell_t2 rfl _ _ (w.heap.size + 2) 39 _ (0, 0) _ rfl (set3_blk R1.out) Tryd.underlying39 rfl (by kernel_rfl)) rfl ?_
    exact TDoRF.no HX.out (below3 HW1.out (by omega) _ _ _)
end Go.Proofs.YtfeonfihlleoeaaDoor
