/- The walk of terrazzolaw08.ObjectStays. -/
import Derived.Test.YtfefnfgppgohgaaDoorL8b
import Derived.Test.YtfefnfgppgohgaaDoorMay8
import Derived.Deep.RegionHeld3
namespace Go.Proofs.YtfefnfgppgohgaaDoor
open Go.RowKit Go.WideShapes

theorem three_cells {w : World} {p : Nat} {a b c : Value} {t : TypeId} (h : w.heap[p]? = some (.cells #[a, b, c] t (0, 0))) :
    w.cell? ⟨p, 0, none⟩ = some a ∧ w.cell? ⟨p, 1, none⟩ = some b ∧ w.cell? ⟨p, 2, none⟩ = some c := ⟨(blk_cell h).1, (blk_cell h).1, (blk_cell h).1⟩
theorem below_nw {w W : World} (h : Below w.heap.size w W) (o : Obj) : Below w.heap.size w (W.alloc o) := h.alloc h.size o
theorem box_a {w w6 : World} {x y z : Value} {t : TypeId} (hb : Below (w.alloc (.cells #[x, y, z] t)).drew.heap.size (w.alloc (.cells #[x, y, z] t)).drew w6) : w6.heap[w.heap.size]? = some (.cells #[x, y, z] t (0, 0)) :=
  (hb.block _ (by show w.heap.size < (w.alloc _).heap.size; simp)).trans (heap_alloc_new w _)
theorem box_b {w w6 : World} {x y z : Value} {t : TypeId} (hb : Below (w.drew.alloc (.cells #[x, y, z] t)).heap.size (w.drew.alloc (.cells #[x, y, z] t)) w6) : w6.heap[w.heap.size]? = some (.cells #[x, y, z] t (0, 0)) :=
  (hb.block _ (by rw [World.size_alloc]; exact Nat.lt_succ_self _)).trans (heap_alloc_new w.drew _)
theorem six_facts {w : World} {p : Nat} {a b c : Value} {t : TypeId} (h : w.heap[p]? = some (.cells #[a, b, c] t (0, 0))) :
    (w.cell? ⟨p, 0, none⟩ = some a ∧ w.frozen? ⟨p, 0, none⟩ = false) ∧ (w.cell? ⟨p, 1, none⟩ = some b ∧ w.frozen? ⟨p, 1, none⟩ = false) ∧ (w.cell? ⟨p, 2, none⟩ = some c ∧ w.frozen? ⟨p, 2, none⟩ = false) := ⟨blk_cell h, blk_cell h, blk_cell h⟩
/-- what a step of a script leaves -/
structure StayR (o : ObD) (th : Bool) (op : OpD) (x : DoR) : Prop where
  no : x.e ≠ 0 → x.there = false ∧ x.on = false ∧ x.o = ObD.none
  lo : x.e = 0 → op.kind ≤ 4 → x.there = th ∧ x.o = o
  hi : x.e = 0 → 4 < op.kind → x.on = true
  nn : x.e = 0 → x.there = false → x.o = ObD.none
  may : x.e = 0 → mayB x.o = true
theorem stay_of {o : ObD} {th : Bool} {op : OpD} (hm : mayB o = true) (hth : th = false → o = ObD.none) : StayR o th op (doB o th op) := by
  by_cases hk : 1 ≤ op.kind ∧ op.kind ≤ 14
  · rw [doB_good hm hk.1 hk.2]
    have ho : (if th then o else ObD.none) = o := by
      cases th
      · exact (hth rfl).symm
      · rfl
    rw [ho]
    by_cases hg : (guardB o th op).1 = 0
    · cases hc : changeB o op with
      | none =>
        rw [doG_n hg hc]
        exact ⟨fun _ => ⟨rfl, rfl, rfl⟩, fun h => absurd h (by decide), fun h => absurd h (by decide), fun _ _ => rfl, fun _ => mayB_none⟩
      | some o2 =>
        rw [doG_s hg hc]
        refine ⟨fun h => absurd rfl h, fun _ h4 => ?_, fun _ h4 => ?_, fun _ h => ?_, fun _ => ?_⟩
        · have e := changeB_lo (o := o) hk.1 h4
          rw [hc] at e
          obtain rfl := Option.some.inj e
          refine ⟨thereB_lo h4, ?_⟩
          show (if thereB th op.kind = true then o2 else ObD.none) = o2
          rw [thereB_lo h4]
          exact ho
        · rw [guardB_hi (by omega)]
        · show (if thereB th op.kind = true then o2 else ObD.none) = ObD.none
          have h : thereB th op.kind = false := h
          rw [h]
          rfl
        · show mayB (if thereB th op.kind = true then o2 else ObD.none) = true
          split
          · exact changeB_may hm hc
          · exact mayB_none
    · rw [doG_g hg]
      exact ⟨fun _ => ⟨rfl, rfl, rfl⟩, fun h => absurd h hg, fun h => absurd h hg, fun _ _ => rfl, fun _ => mayB_none⟩
  · rw [doB_bad (by
      by_cases h1 : 1 ≤ op.kind
      · exact .inr (.inr fun h2 => hk ⟨h1, h2⟩)
      · exact .inr (.inl h1))]
    exact ⟨fun _ => ⟨rfl, rfl, rfl⟩, fun h => absurd h (by decide), fun h => absurd h (by decide), fun _ _ => rfl, fun _ => mayB_none⟩
set_option maxRecDepth 100000 in
set_option maxHeartbeats 16000000 in
theorem stays_law (A B : Nat → Prop) (v : Value) (o : ObD) (la : Option Addr) (lc : Nat) (l : List OpD) (w : World) (hE : ErrT w) (hv : ObV A w v o) (hl : SlE Enc.op B w (.slice la l.length lc) l) :
    Calls Tryd.prog 4 #[v, .slice la l.length lc] w (Says true w) := by
  obtain ⟨dva, kva, rfl, hda, hka⟩ := hv
  obtain ⟨da, dc, rfl⟩ := hda.shape
  obtain ⟨ka, kc, rfl⟩ := hka.shape
  have HA : Hid (ObV (fun b => b < w.heap.size) w _ o) := Lib.hid ((show ObV A w _ o from ⟨_, _, rfl, hda, hka⟩).weak fun b h _ => h)
  have HLS := Lib.hid (SlE.weak (A' := fun b => b < w.heap.size) hl fun b h _ => h)
  have HE := Lib.hid hE
  clear hda hka hl hE
  go_enter Tryd.func4, Tryd.ntmps4
  go_wp2_with fail
  obtain ⟨w0, hw0⟩ : ∃ w0, w0 = w.alloc (.cells #[.slice da o.data.length dc, .slice ka o.keys.length kc, .int .i64 o.seq] 25) := ⟨_, rfl⟩
  rw [← hw0]
  have b0 : w0.heap[w.heap.size]? = some (.cells #[.slice da o.data.length dc, .slice ka o.keys.length kc, .int .i64 o.seq] 25 (0, 0)) := by rw [hw0]; exact heap_alloc_new _ _
  have hw : Below w.heap.size w w0 := by rw [hw0]; ((repeat' (first | exact Below.refl _ _ | refine below_drewN ?_ _ | refine Below.drew ?_ | refine Below.alloc ?_ ?_ _ | refine Below.trans ?_ (Below.mono (by assumption) ?_))); all_goals (first | exact Nat.le_refl _ | exact Below.size (by assumption) | omega | (simp; done) | (simp; omega)))
  clear hw0
  refine (awake_any _ (HE.out.ext hw)).mono ?_
  rintro e w1 ⟨rfl, hb1⟩
  have HW1 := Lib.hid (dcall hw hb1)
  have P1 := Lib.hid (dblk hb1 b0)
  clear hb1 b0 hw
  obtain ⟨y0, e0⟩ := blk_cell (i := 0) (P1.out)
  obtain ⟨y1, e1⟩ := blk_cell (i := 1) (P1.out)
  obtain ⟨y2, e2⟩ := blk_cell (i := 2) (P1.out)
  simp at y0 y1 y2
  go_wp2_with fail
  refine (few8_any _ _ o _ (HA.out.ext HW1.out)).mono ?_
  rintro e w2 ⟨p1, rfl, hf1, hb2⟩
  have HF1 := Lib.hid hf1
  have HW2 := Lib.hid (dcall HW1.out hb2)
  have P2 := Lib.hid (dblk hb2 P1.out)
  clear hb2 P1 HW1 hf1 y0 y1 y2 e0 e1 e2
  obtain ⟨y0, e0⟩ := blk_cell (i := 0) (P2.out)
  obtain ⟨y1, e1⟩ := blk_cell (i := 1) (P2.out)
  obtain ⟨y2, e2⟩ := blk_cell (i := 2) (P2.out)
  simp at y0 y1 y2
  rcases p1 with _ | _
  · go_wp2
    go_ret
    exact ⟨rfl, HW2.out⟩
  have hkl := (HF1.out rfl).2.1
  go_wp2_with fail
  refine (rmay_any _ _ o _ (HA.out.ext HW2.out) (by omega)).mono ?_
  rintro e w3 ⟨rfl, hb3⟩
  have HW3 := Lib.hid (dcall HW2.out hb3)
  have P3 := Lib.hid (dblk hb3 P2.out)
  clear hb3 P2 HW2 y0 y1 y2 e0 e1 e2
  cases hm : mayB o with
  | false =>
    clear hm
    go_wp2
    go_ret
    exact ⟨rfl, HW3.out⟩
  | true =>
    have HM := Lib.hid hm
    clear hm
    go_wp2
    have HV3 := Lib.hid ((HA.out.ext HW3.out).weak (A' := fun b => b ≠ w.heap.size) fun b _ h => by omega)
    go_loopw [7, 8] (fun q7 q8 wr => ∃ k : Nat, k ≤ l.length ∧ k ≤ 20 ∧ q8 = .int .i64 k ∧ ∃ (th : Bool) (o' : ObD) (a : Option Addr) (c : Nat) (u : Option Addr) (q : Nat), q7 = .bool th ∧ wr.heap[w.heap.size]? = some (.cells #[.slice a o'.data.length c, .slice u o'.keys.length q, .int .i64 o'.seq] 25 (0, 0)) ∧
      ObV (fun b => b ≠ w.heap.size) wr (.agg #[.slice a o'.data.length c, .slice u o'.keys.length q, .int .i64 o'.seq]) o' ∧ mayB o' = true ∧ (th = false → o' = ObD.none) ∧ Below w.heap.size w wr) (fun _ q8 _ => 20 - (intOf q8).toNat)
    case atStart => exact ⟨0, Nat.zero_le _, by omega, rfl, true, o, _, _, _, _, rfl, P3.out, HV3.out, HM.out, (fun h => by cases h), HW3.out⟩
    case round =>
      obtain ⟨k, hk, hk20, rfl, th, o', a, c, u, q, rfl, hP, hV, hM, hN, hB⟩ := hrel
      have HP := Lib.hid hP
      have HV := Lib.hid hV
      have HN := Lib.hid hN
      have HB := Lib.hid hB
      have HMM := Lib.hid hM
      have hps : w.heap.size < wr.heap.size := (Array.getElem?_eq_some_iff.1 hP).1
      clear hP hV hN hB hM HV3 P3 HM HF1
      obtain ⟨y0, e0⟩ := blk_cell (i := 0) (HP.out)
      obtain ⟨y1, e1⟩ := blk_cell (i := 1) (HP.out)
      obtain ⟨y2, e2⟩ := blk_cell (i := 2) (HP.out)
      simp at y0 y1 y2
      by_cases hlt : k < l.length
      · by_cases h20 : k < 20
        · have h20' : (k : Int) < 20 := by omega
          obtain ⟨b, off, x, rfl, hb, hbA, c0, c1, c2, c3, c4, hx⟩ := Ops.at (SlE.ext HLS.out HB.out) hlt
          obtain ⟨xa, xc, rfl⟩ := hx.shape
          have HXX := Lib.hid hx
          generalize l[k] = op at *
          obtain ⟨ok, oo, on, onm, od⟩ := op
          simp only at c0 c1 c2 c3 c4 HXX
          clear hx
          by_cases d1 : (3000 : Int) < od.length
          · go_wp2
            go_ret
            exact ⟨rfl, HB.out⟩
          · by_cases d2 : (100 : Int) < onm.size
            · go_wp2
              go_ret
              exact ⟨rfl, HB.out⟩
            · have hko := (okl_of HMM.out).keys
              go_wp2_with fail
              refine (objclone_own _ _ o' _ HV.out (okl_of HMM.out)).mono ?_
              rintro e w4 ⟨dv4, kv4, rfl, h4, hb4⟩
              obtain ⟨⟨a4, c4', rfl⟩, ⟨u4, q4, rfl⟩⟩ := own8_shape h4
              have H4 := Lib.hid (h4.obv)
              have HB4 := Lib.hid hb4
              have P4 := Lib.hid (dblk hb4 HP.out)
              have V4 := Lib.hid (HV.out.ext hb4)
              have hs4 := hb4.size
              have c0' := cellExt hb4 c0
              have c1' := cellExt hb4 c1
              have c2' := cellExt hb4 c2
              have c3' := cellExt hb4 c3
              have c4'' := cellExt hb4 c4
              have HX4 := Lib.hid (RB.ext HXX.out hb4)
              clear h4 hb4 y0 y1 y2 e0 e1 e2 c0 c1 c2 c3 c4
              go_upto_region 14 with fail
              obtain ⟨w5, hw5⟩ : ∃ w5, w5 = w4.alloc (.cells #[.slice a4 o'.data.length c4', .slice u4 o'.keys.length q4, .int .i64 o'.seq] 25) := ⟨_, rfl⟩
              rw [← hw5]
              have hb5 : Below w4.heap.size w4 w5 := by rw [hw5]; ((repeat' (first | exact Below.refl _ _ | refine below_drewN ?_ _ | refine Below.drew ?_ | refine Below.alloc ?_ ?_ _ | refine Below.trans ?_ (Below.mono (by assumption) ?_))); all_goals (first | exact Nat.le_refl _ | exact Below.size (by assumption) | omega | (simp; done) | (simp; omega)))
              have Q5 := Lib.hid (show w5.heap[w4.heap.size]? = some (.cells #[.slice a4 o'.data.length c4', .slice u4 o'.keys.length q4, .int .i64 o'.seq] 25 (0, 0)) from by rw [hw5]; exact heap_alloc_new _ _)
              have P5 := Lib.hid (dblk hb5 P4.out)
              have V5 := Lib.hid (V4.out.ext hb5)
              have H5 := Lib.hid (H4.out.ext hb5)
              have HX5 := Lib.hid (RB.ext HX4.out hb5)
              have HB5 := Lib.hid (dcall (dcall HB.out HB4.out) hb5)
              have hlt5 : w4.heap.size < w5.heap.size := by rw [hw5]; simp
              obtain ⟨y0, y1, y2⟩ := three_cells P5.out
              have x0 := cellExt hb5 c0'
              have x1 := cellExt hb5 c1'
              have x2 := cellExt hb5 c2'
              have x3 := cellExt hb5 c3'
              have x4 := cellExt hb5 c4''
              have hcells : Hid (∀ W, Below w5.heap.size w5 W → Below w5.heap.size w5 W ∧ W.cell? ⟨w.heap.size, 0, none⟩ = some (.slice a o'.data.length c) ∧ W.cell? ⟨w.heap.size, 1, none⟩ = some (.slice u o'.keys.length q) ∧ W.cell? ⟨w.heap.size, 2, none⟩ = some (.int .i64 o'.seq) ∧
                  W.cell? ⟨b, off + k * 5, none⟩ = some (.int .i64 ok) ∧ W.cell? ⟨b, off + k * 5 + 1, none⟩ = some (.int .i64 oo) ∧ W.cell? ⟨b, off + k * 5 + 2, none⟩ = some (.int .i64 on) ∧ W.cell? ⟨b, off + k * 5 + 3, none⟩ = some (.string onm) ∧ W.cell? ⟨b, off + k * 5 + 4, none⟩ = some (.slice xa od.length xc)) := Lib.hid fun W h =>
                ⟨h, cellExt h y0, cellExt h y1, cellExt h y2, cellExt h x0, cellExt h x1, cellExt h x2, cellExt h x3, cellExt h x4⟩
              have hdo := fun W (h : Below w5.heap.size w5 W) => do_any _ _ _ o' th ok oo on onm xa xc od W (V5.out.ext h) (okl_of HMM.out) (RB.ext HX5.out h) (by omega) (HE.out.ext (dcall HB5.out h))
              have hst := stay_of (op := ⟨ok, oo, on, onm, od⟩) HMM.out HN.out
              have hky := doB_keys (o := o') (by have := ((mayB_iff o').1 HMM.out).2.1; omega) th ⟨ok, oo, on, onm, od⟩
              unfold opV at hdo
              generalize doB o' th ⟨ok, oo, on, onm, od⟩ = X at *
              obtain ⟨xo, xt, xn, xe⟩ := X
              have HDO := Lib.hid hdo
              have HST := Lib.hid hst
              have HKY := Lib.hid hky
              clear hdo hst hky hw5 hb5 y0 y1 y2 x0 x1 x2 x3 x4 c0' c1' c2' c3' c4'' HX4 V4 P4 H4 HXX
              have hk5 : (0 : Int) ≤ k := by omega
              have hkl5 : (k : Int) < l.length := by omega
              go_cut [10, 11, 12, 13] (fun s10 s11 s12 s13 wx => ∃ (g : Nat) (ga : Option Addr) (gc : Nat) (gu : Option Addr) (gq : Nat), s10 = .pointer (some ⟨g, 0, none⟩) ∧ s11 = .bool xt ∧ s12 = .bool xn ∧ s13 = .int .i64 xe ∧ w5.heap.size ≤ g ∧
                wx.heap[g]? = some (.cells #[.slice ga xo.data.length gc, .slice gu xo.keys.length gq, .int .i64 xo.seq] 25 (0, 0)) ∧ ObV (fun b => w5.heap.size ≤ b ∧ b ≠ g) wx (.agg #[.slice ga xo.data.length gc, .slice gu xo.keys.length gq, .int .i64 xo.seq]) xo ∧ Below w5.heap.size w5 wx)
              case first =>
                go_region_held3 (fun W => Below w5.heap.size w5 W ∧ W.cell? ⟨w.heap.size, 0, none⟩ = some (.slice a o'.data.length c) ∧ W.cell? ⟨w.heap.size, 1, none⟩ = some (.slice u o'.keys.length q) ∧ W.cell? ⟨w.heap.size, 2, none⟩ = some (.int .i64 o'.seq) ∧
                  W.cell? ⟨b, off + k * 5, none⟩ = some (.int .i64 ok) ∧ W.cell? ⟨b, off + k * 5 + 1, none⟩ = some (.int .i64 oo) ∧ W.cell? ⟨b, off + k * 5 + 2, none⟩ = some (.int .i64 on) ∧ W.cell? ⟨b, off + k * 5 + 3, none⟩ = some (.string onm) ∧ W.cell? ⟨b, off + k * 5 + 4, none⟩ = some (.slice xa od.length xc))
                  ((refine hcells.out _ ?_; first
                    | (with_reducible exact Below.drew (Below.refl _ _))
                    | (with_reducible exact Below.drew (below_nw (Below.refl _ _) _))
                    | (with_reducible exact below_nw (Below.drew (Below.refl _ _)) _)
                    | (with_reducible exact hz6)
                    | (with_reducible exact below_nw hz6 _)
                    | (with_reducible refine below3 hz6 ?_ _ _ _; exact Nat.le_refl _)
                    | (rename_i hh _ _; with_reducible exact hh.1)))
                  (first
                    | (go_at_call 11; refine (HDO.out _ (by first | exact Below.drew (Below.refl _ _) | exact below_nw (Below.drew (Below.refl _ _)) _ | exact Below.drew (below_nw (Below.refl _ _) _))).mono ?_; intro e w6 h6; obtain ⟨ga, gc, gu, gq, rfl, hv6, hb6⟩ := h6.ways; have hz6 : Below w5.heap.size w5 w6 := (by first | exact Below.trans (Below.drew (Below.refl w5.heap.size w5)) (Below.mono hb6 (Nat.le_refl _)) | exact Below.trans (below_nw (Below.drew (Below.refl w5.heap.size w5)) _) (Below.mono hb6 (Nat.le_succ _)) | exact Below.trans (Below.drew (below_nw (Below.refl w5.heap.size w5) _)) (Below.mono hb6 (by simp))); (first | (have hbx := box_a hb6; obtain ⟨⟨k0, l0⟩, ⟨k1, l1⟩, ⟨k2, l2⟩⟩ := six_facts hbx) | (have hbx := box_b hb6; obtain ⟨⟨k0, l0⟩, ⟨k1, l1⟩, ⟨k2, l2⟩⟩ := six_facts hbx) | skip)))
                all_goals
                  go_wp2_with fail
                  go_meet
                  first
                    | exact ⟨w6.heap.size, ga, gc, gu, gq, rfl, rfl, rfl, rfl, hz6.size, heap_alloc_new _ _, (hv6.weak (A' := fun b => w5.heap.size ≤ b ∧ b ≠ w6.heap.size) fun b hb h => ⟨h, Nat.ne_of_lt hb⟩).ext ((Below.refl _ _).alloc (Nat.le_refl _) _), below_nw hz6 _⟩
                    | exact ⟨w5.heap.size, ga, gc, gu, gq, rfl, rfl, rfl, rfl, Nat.le_refl _, set3_blk hbx, (hv6.weak (A' := fun b => w5.heap.size ≤ b ∧ b ≠ w5.heap.size) fun b hb h => by have h2 : w5.heap.size + 1 ≤ b := (by simpa using h); exact ⟨by omega, by omega⟩).mono ⟨by simp [World.setCell], fun b hb _ => set3_ne _ _ _ _ _ hb.2⟩, below3 hz6 (Nat.le_refl _) _ _ _⟩
              case rest =>
                obtain ⟨g, ga, gc, gu, gq, rfl, rfl, rfl, rfl, hg, hgb, hgv, hbc⟩ := hcut
                have G6 := Lib.hid hgb
                have X6 := Lib.hid (hgv.weak (A' := fun b => w5.heap.size ≤ b ∧ b ≠ g) fun b _ h => h)
                have P6 := Lib.hid (dblk hbc P5.out)
                have Q6 := Lib.hid (dblk hbc Q5.out)
                have V6 := Lib.hid (V5.out.ext hbc)
                have H6 := Lib.hid (H5.out.ext hbc)
                have HB6 := Lib.hid (dcall HB5.out hbc)
                have hop6 := cellExt hbc (hcells.out w5 (Below.refl _ _)).2.2.2.2.1
                have hpg : w.heap.size < w5.heap.size := by omega
                have hlg : g < wc.heap.size := (Array.getElem?_eq_some_iff.1 hgb).1
                have hlp : w.heap.size < wc.heap.size := by omega
                have hlq : w4.heap.size < wc.heap.size := by omega
                clear hgb hgv hbc
                obtain ⟨y0, e0⟩ := blk_cell (i := 0) (P6.out)
                obtain ⟨y1, e1⟩ := blk_cell (i := 1) (P6.out)
                obtain ⟨y2, e2⟩ := blk_cell (i := 2) (P6.out)
                simp at y0 y1 y2
                obtain ⟨x0, f0⟩ := blk_cell (i := 0) (Q6.out)
                obtain ⟨x1, f1⟩ := blk_cell (i := 1) (Q6.out)
                obtain ⟨x2, f2⟩ := blk_cell (i := 2) (Q6.out)
                simp at x0 x1 x2
                have hlg6 := hlg
                have hlp6 := hlp
                go_wp2_with fail
                refine (rsame_any _ _ o' o' _ _ _ V6.out H6.out (by omega) (by omega)).mono ?_
                rw [sameB_self]
                rintro e w7 ⟨rfl, hb7⟩
                clear H6
                have G7 := Lib.hid (dblk hb7 G6.out)
                have X7 := Lib.hid (X6.out.ext hb7)
                have P7 := Lib.hid (dblk hb7 P6.out)
                have V7 := Lib.hid (V6.out.ext hb7)
                have HB7 := Lib.hid (dcall HB6.out hb7)
                have hop7 := cellExt hb7 hop6
                have hlg7 := Nat.lt_of_lt_of_le hlg6 hb7.size
                have hlp7 := Nat.lt_of_lt_of_le hlp6 hb7.size
                clear hb7 G6 X6 P6 V6 HB6 hop6 x0 x1 x2 y0 y1 y2 e0 e1 e2 f0 f1 f2
                obtain ⟨y0, e0⟩ := blk_cell (i := 0) (P7.out)
                obtain ⟨y1, e1⟩ := blk_cell (i := 1) (P7.out)
                obtain ⟨y2, e2⟩ := blk_cell (i := 2) (P7.out)
                simp at y0 y1 y2
                obtain ⟨x0, f0⟩ := blk_cell (i := 0) (G7.out)
                obtain ⟨x1, f1⟩ := blk_cell (i := 1) (G7.out)
                obtain ⟨x2, f2⟩ := blk_cell (i := 2) (G7.out)
                simp at x0 x1 x2
                by_cases hxe : xe = 0
                · subst hxe
                  have HMX := Lib.hid (HST.out.may rfl)
                  have HNX : Hid (xt = false → xo = ObD.none) := Lib.hid (HST.out.nn rfl)
                  by_cases hok : ok ≤ 4
                  · obtain ⟨e1', e2'⟩ := HST.out.lo rfl hok
                    have hok2 : ¬ 4 < ok := by omega
                    replace e1' : xt = th := e1'
                    replace e2' : xo = o' := e2'
                    subst e1' e2'
                    go_wp2_with fail
                    refine (rsame_any _ _ xo xo _ _ _ X7.out V7.out (by omega) (by omega)).mono ?_
                    rw [sameB_self]
                    rintro e w8 ⟨rfl, hb8⟩
                    have G8 := Lib.hid (dblk hb8 G7.out)
                    have X8 := Lib.hid (X7.out.ext hb8)
                    have P8 := Lib.hid (dblk hb8 P7.out)
                    have V8 := Lib.hid (V7.out.ext hb8)
                    have HB8 := Lib.hid (dcall HB7.out hb8)
                    have hop8 := cellExt hb8 hop7
                    have hlg8 := Nat.lt_of_lt_of_le hlg7 hb8.size
                    have hlp8 := Nat.lt_of_lt_of_le hlp7 hb8.size
                    clear hb8 G7 X7 P7 V7 HB7 hop7 x0 x1 x2 y0 y1 y2 e0 e1 e2 f0 f1 f2
                    obtain ⟨y0, e0⟩ := blk_cell (i := 0) (P8.out)
                    obtain ⟨y1, e1⟩ := blk_cell (i := 1) (P8.out)
                    obtain ⟨y2, e2⟩ := blk_cell (i := 2) (P8.out)
                    simp at y0 y1 y2
                    obtain ⟨x0, f0⟩ := blk_cell (i := 0) (G8.out)
                    obtain ⟨x1, f1⟩ := blk_cell (i := 1) (G8.out)
                    obtain ⟨x2, f2⟩ := blk_cell (i := 2) (G8.out)
                    simp at x0 x1 x2
                    cases xt with
                    | true =>
                      go_wp2_with fail
                      refine (rmay_any _ _ (xo) _ X8.out HKY.out).mono ?_
                      rw [HMX.out]
                      rintro e wf ⟨rfl, hbf⟩
                      have G9 := Lib.hid (dblk hbf G8.out)
                      have X9 := Lib.hid (X8.out.ext hbf)
                      have P9 := Lib.hid (dblk hbf P8.out)
                      have V9 := Lib.hid (V8.out.ext hbf)
                      have HB9 := Lib.hid (dcall HB8.out hbf)
                      have hop9 := cellExt hbf hop8
                      have hlg9 := Nat.lt_of_lt_of_le hlg8 hbf.size
                      have hlp9 := Nat.lt_of_lt_of_le hlp8 hbf.size
                      clear hbf G8 X8 P8 V8 HB8 hop8 x0 x1 x2 y0 y1 y2 e0 e1 e2 f0 f1 f2
                      obtain ⟨y0, e0⟩ := blk_cell (i := 0) (P9.out)
                      obtain ⟨y1, e1⟩ := blk_cell (i := 1) (P9.out)
                      obtain ⟨y2, e2⟩ := blk_cell (i := 2) (P9.out)
                      simp at y0 y1 y2
                      obtain ⟨x0, f0⟩ := blk_cell (i := 0) (G9.out)
                      obtain ⟨x1, f1⟩ := blk_cell (i := 1) (G9.out)
                      obtain ⟨x2, f2⟩ := blk_cell (i := 2) (G9.out)
                      simp at x0 x1 x2
                      go_wp2
                      go_roundw
                      case rel => exact ⟨k + 1, by omega, by omega, by go_num, _, (xo), ga, gc, gu, gq, rfl, set3_blk P9.out, (X9.out.weak (A' := fun b => b ≠ w.heap.size) fun b _ h => by omega).mono ⟨by simp [World.setCell], fun b hb _ => set3_ne _ _ _ _ _ hb⟩, HMX.out, (by first | exact HNX.out | exact (fun _ => rfl) | exact (fun h => by cases h)), below3 HB9.out (Nat.le_refl _) _ _ _⟩
                      case measure => simp [intOf]; omega
                    | false =>
                      obtain rfl : xo = ObD.none := HNX.out rfl
                      go_wp2_with fail
                      refine (rsame_any _ _ ObD.none ObD.none _ _ _ X8.out (obv_none (fun _ => True) _) (by simp [ObD.none]) (by simp [ObD.none])).mono ?_
                      rw [sameB_self]
                      rintro e wn ⟨rfl, hbn⟩
                      have G9 := Lib.hid (dblk hbn G8.out)
                      have X9 := Lib.hid (X8.out.ext hbn)
                      have P9 := Lib.hid (dblk hbn P8.out)
                      have V9 := Lib.hid (V8.out.ext hbn)
                      have HB9 := Lib.hid (dcall HB8.out hbn)
                      have hop9 := cellExt hbn hop8
                      have hlg9 := Nat.lt_of_lt_of_le hlg8 hbn.size
                      have hlp9 := Nat.lt_of_lt_of_le hlp8 hbn.size
                      clear hbn G8 X8 P8 V8 HB8 hop8 x0 x1 x2 y0 y1 y2 e0 e1 e2 f0 f1 f2
                      obtain ⟨y0, e0⟩ := blk_cell (i := 0) (P9.out)
                      obtain ⟨y1, e1⟩ := blk_cell (i := 1) (P9.out)
                      obtain ⟨y2, e2⟩ := blk_cell (i := 2) (P9.out)
                      simp at y0 y1 y2
                      obtain ⟨x0, f0⟩ := blk_cell (i := 0) (G9.out)
                      obtain ⟨x1, f1⟩ := blk_cell (i := 1) (G9.out)
                      obtain ⟨x2, f2⟩ := blk_cell (i := 2) (G9.out)
                      simp at x0 x1 x2
                      go_wp2_with fail
                      refine (rmay_any _ _ (ObD.none) _ X9.out HKY.out).mono ?_
                      rw [HMX.out]
                      rintro e wf ⟨rfl, hbf⟩
                      have G10 := Lib.hid (dblk hbf G9.out)
                      have X10 := Lib.hid (X9.out.ext hbf)
                      have P10 := Lib.hid (dblk hbf P9.out)
                      have V10 := Lib.hid (V9.out.ext hbf)
                      have HB10 := Lib.hid (dcall HB9.out hbf)
                      have hop10 := cellExt hbf hop9
                      have hlg10 := Nat.lt_of_lt_of_le hlg9 hbf.size
                      have hlp10 := Nat.lt_of_lt_of_le hlp9 hbf.size
                      clear hbf G9 X9 P9 V9 HB9 hop9 x0 x1 x2 y0 y1 y2 e0 e1 e2 f0 f1 f2
                      obtain ⟨y0, e0⟩ := blk_cell (i := 0) (P10.out)
                      obtain ⟨y1, e1⟩ := blk_cell (i := 1) (P10.out)
                      obtain ⟨y2, e2⟩ := blk_cell (i := 2) (P10.out)
                      simp at y0 y1 y2
                      obtain ⟨x0, f0⟩ := blk_cell (i := 0) (G10.out)
                      obtain ⟨x1, f1⟩ := blk_cell (i := 1) (G10.out)
                      obtain ⟨x2, f2⟩ := blk_cell (i := 2) (G10.out)
                      simp at x0 x1 x2
                      go_wp2
                      go_roundw
                      case rel => exact ⟨k + 1, by omega, by omega, by go_num, _, (ObD.none), ga, gc, gu, gq, rfl, set3_blk P10.out, (X10.out.weak (A' := fun b => b ≠ w.heap.size) fun b _ h => by omega).mono ⟨by simp [World.setCell], fun b hb _ => set3_ne _ _ _ _ _ hb⟩, HMX.out, (by first | exact HNX.out | exact (fun _ => rfl) | exact (fun h => by cases h)), below3 HB10.out (Nat.le_refl _) _ _ _⟩
                      case measure => simp [intOf]; omega
                  · have hok2 : 4 < ok := by omega
                    obtain rfl : xn = true := HST.out.hi rfl hok2
                    cases xt with
                    | true =>
                      go_wp2_with fail
                      refine (rmay_any _ _ (xo) _ X7.out HKY.out).mono ?_
                      rw [HMX.out]
                      rintro e wf ⟨rfl, hbf⟩
                      have G8 := Lib.hid (dblk hbf G7.out)
                      have X8 := Lib.hid (X7.out.ext hbf)
                      have P8 := Lib.hid (dblk hbf P7.out)
                      have V8 := Lib.hid (V7.out.ext hbf)
                      have HB8 := Lib.hid (dcall HB7.out hbf)
                      have hop8 := cellExt hbf hop7
                      have hlg8 := Nat.lt_of_lt_of_le hlg7 hbf.size
                      have hlp8 := Nat.lt_of_lt_of_le hlp7 hbf.size
                      clear hbf G7 X7 P7 V7 HB7 hop7 x0 x1 x2 y0 y1 y2 e0 e1 e2 f0 f1 f2
                      obtain ⟨y0, e0⟩ := blk_cell (i := 0) (P8.out)
                      obtain ⟨y1, e1⟩ := blk_cell (i := 1) (P8.out)
                      obtain ⟨y2, e2⟩ := blk_cell (i := 2) (P8.out)
                      simp at y0 y1 y2
                      obtain ⟨x0, f0⟩ := blk_cell (i := 0) (G8.out)
                      obtain ⟨x1, f1⟩ := blk_cell (i := 1) (G8.out)
                      obtain ⟨x2, f2⟩ := blk_cell (i := 2) (G8.out)
                      simp at x0 x1 x2
                      go_wp2
                      go_roundw
                      case rel => exact ⟨k + 1, by omega, by omega, by go_num, _, (xo), ga, gc, gu, gq, rfl, set3_blk P8.out, (X8.out.weak (A' := fun b => b ≠ w.heap.size) fun b _ h => by omega).mono ⟨by simp [World.setCell], fun b hb _ => set3_ne _ _ _ _ _ hb⟩, HMX.out, (by first | exact HNX.out | exact (fun _ => rfl) | exact (fun h => by cases h)), below3 HB8.out (Nat.le_refl _) _ _ _⟩
                      case measure => simp [intOf]; omega
                    | false =>
                      obtain rfl : xo = ObD.none := HNX.out rfl
                      go_wp2_with fail
                      refine (rsame_any _ _ ObD.none ObD.none _ _ _ X7.out (obv_none (fun _ => True) _) (by simp [ObD.none]) (by simp [ObD.none])).mono ?_
                      rw [sameB_self]
                      rintro e wn ⟨rfl, hbn⟩
                      have G8 := Lib.hid (dblk hbn G7.out)
                      have X8 := Lib.hid (X7.out.ext hbn)
                      have P8 := Lib.hid (dblk hbn P7.out)
                      have V8 := Lib.hid (V7.out.ext hbn)
                      have HB8 := Lib.hid (dcall HB7.out hbn)
                      have hop8 := cellExt hbn hop7
                      have hlg8 := Nat.lt_of_lt_of_le hlg7 hbn.size
                      have hlp8 := Nat.lt_of_lt_of_le hlp7 hbn.size
                      clear hbn G7 X7 P7 V7 HB7 hop7 x0 x1 x2 y0 y1 y2 e0 e1 e2 f0 f1 f2
                      obtain ⟨y0, e0⟩ := blk_cell (i := 0) (P8.out)
                      obtain ⟨y1, e1⟩ := blk_cell (i := 1) (P8.out)
                      obtain ⟨y2, e2⟩ := blk_cell (i := 2) (P8.out)
                      simp at y0 y1 y2
                      obtain ⟨x0, f0⟩ := blk_cell (i := 0) (G8.out)
                      obtain ⟨x1, f1⟩ := blk_cell (i := 1) (G8.out)
                      obtain ⟨x2, f2⟩ := blk_cell (i := 2) (G8.out)
                      simp at x0 x1 x2
                      go_wp2_with fail
                      refine (rmay_any _ _ (ObD.none) _ X8.out HKY.out).mono ?_
                      rw [HMX.out]
                      rintro e wf ⟨rfl, hbf⟩
                      have G9 := Lib.hid (dblk hbf G8.out)
                      have X9 := Lib.hid (X8.out.ext hbf)
                      have P9 := Lib.hid (dblk hbf P8.out)
                      have V9 := Lib.hid (V8.out.ext hbf)
                      have HB9 := Lib.hid (dcall HB8.out hbf)
                      have hop9 := cellExt hbf hop8
                      have hlg9 := Nat.lt_of_lt_of_le hlg8 hbf.size
                      have hlp9 := Nat.lt_of_lt_of_le hlp8 hbf.size
                      clear hbf G8 X8 P8 V8 HB8 hop8 x0 x1 x2 y0 y1 y2 e0 e1 e2 f0 f1 f2
                      obtain ⟨y0, e0⟩ := blk_cell (i := 0) (P9.out)
                      obtain ⟨y1, e1⟩ := blk_cell (i := 1) (P9.out)
                      obtain ⟨y2, e2⟩ := blk_cell (i := 2) (P9.out)
                      simp at y0 y1 y2
                      obtain ⟨x0, f0⟩ := blk_cell (i := 0) (G9.out)
                      obtain ⟨x1, f1⟩ := blk_cell (i := 1) (G9.out)
                      obtain ⟨x2, f2⟩ := blk_cell (i := 2) (G9.out)
                      simp at x0 x1 x2
                      go_wp2
                      go_roundw
                      case rel => exact ⟨k + 1, by omega, by omega, by go_num, _, (ObD.none), ga, gc, gu, gq, rfl, set3_blk P9.out, (X9.out.weak (A' := fun b => b ≠ w.heap.size) fun b _ h => by omega).mono ⟨by simp [World.setCell], fun b hb _ => set3_ne _ _ _ _ _ hb⟩, HMX.out, (by first | exact HNX.out | exact (fun _ => rfl) | exact (fun h => by cases h)), below3 HB9.out (Nat.le_refl _) _ _ _⟩
                      case measure => simp [intOf]; omega
                · obtain ⟨e1', e2', e3'⟩ := HST.out.no hxe
                  replace e1' : xt = false := e1'
                  replace e2' : xn = false := e2'
                  replace e3' : xo = ObD.none := e3'
                  subst e1' e2' e3'
                  have q1 : (xe != 0) = true := by simpa using hxe
                  have q2 : (xe == 0) = false := by simpa using hxe
                  clear hxe
                  go_wp2_with fail
                  refine (rsame_any _ _ ObD.none ObD.none _ _ _ X7.out (obv_none (fun _ => True) _) (by simp [ObD.none]) (by simp [ObD.none])).mono ?_
                  rw [sameB_self]
                  rintro e wn ⟨rfl, hbn⟩
                  have G8 := Lib.hid (dblk hbn G7.out)
                  have X8 := Lib.hid (X7.out.ext hbn)
                  have P8 := Lib.hid (dblk hbn P7.out)
                  have V8 := Lib.hid (V7.out.ext hbn)
                  have HB8 := Lib.hid (dcall HB7.out hbn)
                  have hop8 := cellExt hbn hop7
                  have hlg8 := Nat.lt_of_lt_of_le hlg7 hbn.size
                  have hlp8 := Nat.lt_of_lt_of_le hlp7 hbn.size
                  clear hbn G7 X7 P7 V7 HB7 hop7 x0 x1 x2 y0 y1 y2 e0 e1 e2 f0 f1 f2
                  obtain ⟨y0, e0⟩ := blk_cell (i := 0) (P8.out)
                  obtain ⟨y1, e1⟩ := blk_cell (i := 1) (P8.out)
                  obtain ⟨y2, e2⟩ := blk_cell (i := 2) (P8.out)
                  simp at y0 y1 y2
                  obtain ⟨x0, f0⟩ := blk_cell (i := 0) (G8.out)
                  obtain ⟨x1, f1⟩ := blk_cell (i := 1) (G8.out)
                  obtain ⟨x2, f2⟩ := blk_cell (i := 2) (G8.out)
                  simp at x0 x1 x2
                  go_wp2
                  go_roundw
                  case rel => exact ⟨k + 1, by omega, by omega, by go_num, _, o', a, c, u, q, rfl, P8.out, V8.out, HMM.out, HN.out, HB8.out⟩
                  case measure => simp [intOf]; omega
        · go_wp2
          go_ret
          exact ⟨rfl, HB.out⟩
      · go_wp2
        go_ret
        exact ⟨rfl, HB.out⟩
end Go.Proofs.YtfefnfgppgohgaaDoor
