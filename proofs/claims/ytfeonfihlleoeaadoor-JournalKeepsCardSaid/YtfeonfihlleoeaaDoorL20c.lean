/- The walk of terrazzolaw20.JournalKeeps. -/
import Derived.Test.YtfeonfihlleoeaaDoorL20b
import Derived.Test.YtfeonfihlleoeaaDoorGPA
import Derived.Deep.RegionWith
namespace Go.Proofs.YtfeonfihlleoeaaDoor
open Go.RowKit Go.WideShapes
attribute [local go_sem ↓] Go.wp_at_zero Go.wp_at_succ

def oneE (e : EnD) : EnD := { e with seq := 1 }
theorem may_seq (e : EnD) (k : Nat) (h : k < 1000) : mayE (sqE k e) = mayE (oneE e) := by
  have h1 : decide (1 ≤ (k : Int) + 1 ∧ (k : Int) + 1 ≤ 1099511627776) = true := decide_eq_true (by omega)
  have h2 : decide ((1 : Int) ≤ 1 ∧ (1 : Int) ≤ 1099511627776) = true := decide_eq_true (by omega)
  unfold mayE sqE oneE
  simp only [h1, h2]
theorem and7k (x : Int) : ∃ i : Nat, i < 8 ∧ bits .and .i64 x 7 = (i : Int) := by
  have h : bits .and .i64 x 7 = x % 8 := i64_maskB x 3 (by omega)
  exact ⟨(x % 8).toNat, by omega, by rw [h]; omega⟩
theorem getD_range (l : List EnD) (j n i : Nat) (h : i < n) : ((List.range' j n).map (fun i => clE (sqE i (l.getD i EnD.none)))).getD i EnD.none = clE (sqE (j + i) (l.getD (j + i) EnD.none)) := by
  rw [List.getD_eq_getElem?_getD, List.getElem?_map, List.getElem?_eq_getElem (by simpa using h)]
  simp
set_option maxRecDepth 100000 in
set_option maxHeartbeats 16000000 in
theorem keeps_law (A : Nat → Prop) (v : Value) (l : List EnD) (z : Int) (w : World) (hL : LayW w) (hv : SlE Enc.ent A w v l) :
    Calls Tryd.prog 4 #[v, .int .i64 z] w (Says true w) := by
  obtain ⟨la, lc, rfl⟩ := hv.shape
  obtain ⟨r, hr8, hr⟩ := and7k z
  have HV := Lib.hid hv
  have HL := Lib.hid hL
  clear hv hL
  go_enter Tryd.func4, Tryd.ntmps4
  go_wp2_with fail
  refine (awake20_any w HL.out).mono ?_
  rintro q w1 ⟨rfl, hb1⟩
  have HW1 := Lib.hid hb1
  clear hb1
  by_cases h30 : (30 : Int) < l.length
  · go_wp2
    go_ret
    exact ⟨rfl, HW1.out⟩
  · have hl30 : l.length ≤ 30 := by omega
    go_wp2
    go_loopw [6] (fun i wr => ∃ k : Nat, k ≤ l.length ∧ i = .int .i64 k ∧ (∀ j, j < k → (l.getD j EnD.none).data.length ≤ 200 ∧ mayE (oneE (l.getD j EnD.none)) = true) ∧ Below w.heap.size w wr) (fun i _ => l.length - (intOf i).toNat)
    case atStart => exact ⟨0, Nat.zero_le _, rfl, fun j h => by omega, HW1.out⟩
    case round =>
      obtain ⟨k, hk, rfl, hall, hbw⟩ := hrel
      have HA := Lib.hid hall
      have HB := Lib.hid hbw
      clear hall hbw
      by_cases hlt : k < l.length
      · obtain ⟨b, off, da, dc, rfl, hb, c0, c1, c2, c3, c4, c5, c6, hd⟩ := Ent.at (HV.out.ext HB.out) hlt
        have hkl : (k : Int) < l.length := by omega
        have HSU : Hid ((l.getD k EnD.none).data.length ≤ 200 → mayE (oneE (l.getD k EnD.none)) = true → ∀ j, j < k + 1 → (l.getD j EnD.none).data.length ≤ 200 ∧ mayE (oneE (l.getD j EnD.none)) = true) := Lib.hid fun h1 h2 j hj => by
          rcases Nat.lt_or_eq_of_le (show j ≤ k by omega) with h | h
          · exact HA.out j h
          · subst h; exact ⟨h1, h2⟩
        obtain ⟨x, hx⟩ : ∃ x, x = l.getD k EnD.none := ⟨_, rfl⟩
        rw [← hx] at c0 c1 c2 c3 c4 c5 c6 hd HSU
        clear hd hb hx
        have hmay := fun W => rmayE_any (oneE x) da dc W
        obtain ⟨s, o, kd, f, n, p, d⟩ := x
        simp only [oneE, enV] at c0 c1 c2 c3 c4 c5 c6 hmay HSU
        have HM := Lib.hid hmay
        clear hmay
        go_upto_region 10 with fail
        obtain ⟨w2, hw2⟩ : ∃ w2, w2 = wr.alloc (.cells #[.int .i64 s, .int .i64 o, .int .i64 kd, .int .i64 f, .int .i64 n, .int .i64 p, .slice da d.length dc] 24) := ⟨_, rfl⟩
        rw [← hw2]
        have r2 : w2.heap[wr.heap.size]? = some (.cells #[.int .i64 s, .int .i64 o, .int .i64 kd, .int .i64 f, .int .i64 n, .int .i64 p, .slice da d.length dc] 24 (0, 0)) := by rw [hw2]; exact heap_alloc_new _ _
        have hb2 : Below wr.heap.size wr w2 := by rw [hw2]; ((repeat' (first | exact Below.refl _ _ | refine below_drewN ?_ _ | refine Below.drew ?_ | refine Below.alloc ?_ ?_ _ | refine Below.trans ?_ (Below.mono (by assumption) ?_))); all_goals (first | exact Nat.le_refl _ | exact Below.size (by assumption) | omega | (simp; done) | (simp; omega)))
        obtain ⟨x0, f0⟩ := blk_cell (i := 0) r2
        simp at x0
        clear hw2
        go_upto_region 11 with fail
        obtain ⟨w3, hw3⟩ : ∃ w3, w3 = w2.setCell ⟨wr.heap.size, 0, none⟩ (.int .i64 1) := ⟨_, rfl⟩
        rw [← hw3]
        have r3 : w3.heap[wr.heap.size]? = some (.cells #[.int .i64 1, .int .i64 o, .int .i64 kd, .int .i64 f, .int .i64 n, .int .i64 p, .slice da d.length dc] 24 (0, 0)) := by
          rw [hw3]; simp [World.setCell, Array.getElem?_modify, r2]
        have HB3 : Hid (Below w.heap.size w w3) := Lib.hid (dcall HB.out (by rw [hw3]; exact hb2.setCell (Nat.le_refl _) _))
        have R3 := Lib.hid r3
        clear hw3 hb2 x0 f0 r2 r3 c0 c1 c2 c3 c4 c5 c6 HB HA
        obtain ⟨x0, g0⟩ := blk_cell (i := 0) (R3.out)
        obtain ⟨x1, g1⟩ := blk_cell (i := 1) (R3.out)
        obtain ⟨x2, g2⟩ := blk_cell (i := 2) (R3.out)
        obtain ⟨x3, g3⟩ := blk_cell (i := 3) (R3.out)
        obtain ⟨x4, g4⟩ := blk_cell (i := 4) (R3.out)
        obtain ⟨x5, g5⟩ := blk_cell (i := 5) (R3.out)
        obtain ⟨x6, g6⟩ := blk_cell (i := 6) (R3.out)
        simp at x0 x1 x2 x3 x4 x5 x6
        by_cases h2 : (200 : Int) < d.length
        · go_wp2
          go_ret
          exact ⟨rfl, HB3.out⟩
        · cases hm : mayE ⟨1, o, kd, f, n, p, d⟩ with
          | false =>
            rw [hm] at HM
            clear hm
            go_wp2_with (go_at_call 12; refine (HM.out _).mono ?_; rintro q w4 ⟨rfl, hb4⟩; have HB4 := Lib.hid (dcall HB3.out hb4); clear hb4)
            go_ret
            exact ⟨rfl, HB4.out⟩
          | true =>
            have HSV := Lib.hid (HSU.out (by omega) hm)
            rw [hm] at HM
            clear hm HSU
            go_wp2_with (go_at_call 12; refine (HM.out _).mono ?_; rintro q w4 ⟨rfl, hb4⟩; have HB4 := Lib.hid (dcall HB3.out hb4); clear hb4)
            go_roundw
            case rel => exact ⟨k + 1, by omega, by go_num, HSV.out, HB4.out⟩
            case measure => simp [intOf]; omega
      · obtain rfl : k = l.length := by omega
        have hF : FilL l := ⟨hl30, fun j => by
          by_cases h : j < l.length
          · exact (HA.out j h).1
          · rw [List.getD_eq_getElem?_getD, List.getElem?_eq_none (by omega)]
            exact Nat.zero_le _, fun j h => by rw [may_seq _ _ (by omega)]; exact (HA.out j h).2⟩
        have HFL := Lib.hid hF
        clear hF HA
        go_wp2_with fail
        refine (filled_any A _ l wr (HV.out.ext HB.out) (HL.out.ext HB.out) (filH_of HFL.out)).mono ?_
        rintro q w2 ⟨ov, rfl, hof, hb2⟩
        rw [fil_end HFL.out] at hof
        obtain ⟨⟨dv, kv, rfl, hd, hkk⟩, -⟩ := hof
        obtain ⟨da, dc, rfl⟩ := hd.shape
        obtain ⟨ka, kc, rfl⟩ := hkk.shape
        have hkn : (obK l l.length).keys.length ≤ 8 := by show (kysE l (l.length - 8) (min l.length 8)).length ≤ 8; rw [kysE_len]; omega
        have hsq : (obK l l.length).seq = (l.length : Int) := rfl
        have hdn : (obK l l.length).data.length = 0 := rfl
        have hvl : ∀ x ∈ (obK l l.length).keys, x.value.length ≤ 300 := fun x hx => by
          obtain ⟨j, -, -, rfl⟩ := kysE_mem hx
          have h1 := pkE_len (sqE j (l.getD j EnD.none))
          have h2 : (sqE j (l.getD j EnD.none)).data.length ≤ 200 := HFL.out.dat j
          show (pkE (sqE j (l.getD j EnD.none))).length ≤ 300
          omega
        have hok : (obK l l.length).okl := ⟨by rw [hdn]; omega, by omega, fun x hx => Nat.le_trans (hvl x hx) (by decide)⟩
        have HLD : Hid (∀ j : Nat, l.length - 8 ≤ j → j < 48 → loadL (obK l l.length) j = (List.range' j (l.length - j)).map (fun i => clE (sqE i (l.getD i EnD.none)))) := Lib.hid fun j h1 h2 => load_is HFL.out h1 h2
        obtain ⟨O, hO⟩ : ∃ O, O = obK l l.length := ⟨_, rfl⟩
        rw [← hO] at hd hkk hkn hsq hdn hvl hok HLD ⊢
        have hov : ObV (fun _ => True) w2 (.agg #[.slice da O.data.length dc, .slice ka O.keys.length kc, .int .i64 O.seq]) O := ⟨_, _, rfl, hd, hkk⟩
        rw [hsq, hdn] at hov ⊢
        have HW2 := Lib.hid (dcall HB.out hb2)
        have HOV := Lib.hid hov
        have HOK := Lib.hid hok
        have HVL := Lib.hid hvl
        have HSQ := Lib.hid hsq
        clear hd hkk hov hok hvl hb2 HB hO hdn hsq HW1
        obtain ⟨K, hK⟩ : ∃ K, K = O.keys.length := ⟨_, rfl⟩
        rw [← hK] at hkn HOV ⊢
        clear hK
        have hk1 : ¬ (8 : Int) < K := by omega
        have hk2 : decide ((8 : Int) < K) = false := decide_eq_false hk1
        go_upto_region 14 with fail
        obtain ⟨w3, hw3⟩ : ∃ w3, w3 = w2.alloc (.cells #[.slice da 0 dc, .slice ka K kc, .int .i64 l.length] 39) := ⟨_, rfl⟩
        rw [← hw3]
        have r3 : w3.heap[w2.heap.size]? = some (.cells #[.slice da 0 dc, .slice ka K kc, .int .i64 l.length] 39 (0, 0)) := by rw [hw3]; exact heap_alloc_new _ _
        have hb3 : Below w2.heap.size w2 w3 := by rw [hw3]; ((repeat' (first | exact Below.refl _ _ | refine below_drewN ?_ _ | refine Below.drew ?_ | refine Below.alloc ?_ ?_ _ | refine Below.trans ?_ (Below.mono (by assumption) ?_))); all_goals (first | exact Nat.le_refl _ | exact Below.size (by assumption) | omega | (simp; done) | (simp; omega)))
        have HO3 := Lib.hid (HOV.out.ext hb3)
        have HW3 := Lib.hid (dcall HW2.out hb3)
        have hnx := jnext_any _ _ _ 0 w3 HO3.out (by rw [HSQ.out]; omega) (by rw [HSQ.out]; omega) (by decide) (by decide)
        rw [HSQ.out] at hnx
        have R3 := Lib.hid r3
        have HNX := Lib.hid hnx
        clear hw3 r3 hb3 HOV HW2 hnx
        obtain ⟨y0, e0⟩ := blk_cell (i := 0) (R3.out)
        obtain ⟨y1, e1⟩ := blk_cell (i := 1) (R3.out)
        obtain ⟨y2, e2⟩ := blk_cell (i := 2) (R3.out)
        simp at y0 y1 y2
        have hmx : max (l.length : Int) 0 = l.length := by omega
        go_upto_region 16 with (go_at_call 14; refine HNX.out.mono ?_; rintro q w4 ⟨rfl, hb4⟩; have HO4 := Lib.hid (HO3.out.ext hb4); have R4 := Lib.hid (dblk hb4 R3.out); have HW4 := Lib.hid (dcall HW3.out hb4); clear hb4; rw [hmx])
        obtain ⟨J, hJ⟩ : ∃ J : Nat, J = (l.length - 8) + r := ⟨_, rfl⟩
        have hJ0 : max (0 : Int) ((l.length : Int) - 8) + (r : Int) = (J : Int) := by omega
        have hJ1 : l.length - 8 ≤ J := by omega
        have hJ2 : J < 48 := by omega
        have hld := jload_any (fun _ => True) _ O (J : Int) w4 HO4.out HOK.out (fun x hx => Nat.le_trans (HVL.out x hx) (by decide)) (HL.out.ext HW4.out)
        rw [HLD.out J hJ1 hJ2] at hld
        have HLJ := Lib.hid hld
        clear hld hmx
        obtain ⟨y0, e0⟩ := blk_cell (i := 0) (R4.out)
        obtain ⟨y1, e1⟩ := blk_cell (i := 1) (R4.out)
        obtain ⟨y2, e2⟩ := blk_cell (i := 2) (R4.out)
        simp at y0 y1 y2
        clear hJ
        go_upto_region 17 with fail
        by_cases hgt : (l.length : Int) < J
        · have e0 : l.length - J = 0 := by omega
          rw [e0] at HLJ
          go_wp2_with (go_at_call 15; refine HLJ.out.mono ?_; rintro q w5 ⟨mv, rfl, hmv, hb5⟩; obtain ⟨ma, mc, rfl⟩ := hmv.shape; simp only [List.range'_zero, List.map_nil, List.length_nil]; have HW5 := Lib.hid (dcall HW4.out hb5); clear hb5 hmv)
          go_ret
          exact ⟨by simp, HW5.out⟩
        · have hle : J ≤ l.length := by omega
          obtain ⟨D, hD⟩ : ∃ D : Nat, D = l.length - J := ⟨_, rfl⟩
          have hD1 : (l.length : Int) - (J : Int) = (D : Int) := by omega
          have hDJ : J + D ≤ l.length := by omega
          rw [← hD] at HLJ
          clear hD
          go_wp2_with fail
          refine HLJ.out.mono ?_
          rintro q w5 ⟨mv, rfl, hmv, hb5⟩
          obtain ⟨ma, mc, rfl⟩ := hmv.shape
          have hml : ((List.range' J D).map (fun i => clE (sqE i (l.getD i EnD.none)))).length = D := by simp
          rw [hml] at hmv ⊢
          have HM5 := Lib.hid hmv
          have HW5 := Lib.hid (dcall HW4.out hb5)
          have HMG : Hid (∀ i, i < D → ((List.range' J D).map (fun i => clE (sqE i (l.getD i EnD.none)))).getD i EnD.none = clE (sqE (J + i) (l.getD (J + i) EnD.none))) := Lib.hid fun i hi => getD_range l J D i hi
          obtain ⟨M, hM⟩ : ∃ M, M = (List.range' J D).map (fun i => clE (sqE i (l.getD i EnD.none))) := ⟨_, rfl⟩
          rw [← hM] at HM5 HMG hml
          clear hmv hb5 hM HLJ y0 y1 y2 e0 e1 e2 R4 HO4 HW4 HOK HVL HSQ HLD HO3 HNX R3 HW3 HFL
          go_wp2_with fail
          go_loopw [12] (fun i wr => ∃ k : Nat, k ≤ D ∧ i = .int .i64 k ∧ Below w5.heap.size w5 wr) (fun i _ => D - (intOf i).toNat)
          case atStart => exact ⟨0, Nat.zero_le _, rfl, Below.refl _ _⟩
          case round =>
            obtain ⟨k, hk, rfl, hbr⟩ := hrel
            by_cases hlt : k < D
            · obtain ⟨q, hq⟩ : ∃ q : Nat, q = J + k := ⟨_, rfl⟩
              have hq1 : (J : Int) + (k : Int) = (q : Int) := by omega
              have hql : q < l.length := by omega
              have hql' : (q : Int) < l.length := by omega
              have hkd : (k : Int) < D := by omega
              have HBR := Lib.hid hbr
              have HWR := Lib.hid (dcall HW5.out hbr)
              obtain ⟨b, off, da', dc', rfl, hb, c0, c1, c2, c3, c4, c5, c6, hd⟩ := Ent.at (HV.out.ext HWR.out) hql
              obtain ⟨mb, mo, na, nc, rfl, hmb, d0, d1, d2, d3, d4, d5, d6, hm⟩ := Ent.at (HM5.out.ext hbr) (i := k) (by rw [hml]; exact hlt)
              have hmg := HMG.out k hlt
              rw [← hq] at hmg
              rw [hmg] at d0 d1 d2 d3 d4 d5 d6 hm
              obtain ⟨x, hx⟩ : ∃ x, x = l.getD q EnD.none := ⟨_, rfl⟩
              rw [← hx] at c0 c1 c2 c3 c4 c5 c6 hd d0 d1 d2 d3 d4 d5 d6 hm
              clear hmg hx hb hmb hbr
              have hcl := fun W (h : Below wr.heap.size wr W) => rclnE_any A (sqE q x) da' dc' W (by exact hd.ext h)
              obtain ⟨y, hy⟩ : ∃ y, y = clE (sqE q x) := ⟨_, rfl⟩
              have HSM := Lib.hid fun W (h : Below wr.heap.size wr W) ca cc (hcd : RB A W (.slice ca y.data.length cc) y.data) => rsameE_yes _ _ y na ca nc cc W (by rw [hy]; exact hm.ext h) hcd
              unfold RClnO at hcl
              rw [← hy] at hcl d0 d1 d2 d3 d4 d5 d6
              have HCL := Lib.hid hcl
              clear hcl hd hm hy
              have HQ1 := Lib.hid hq1
              have HQL := Lib.hid hql'
              have hjl : (J : Int) + (k : Int) < l.length := by omega
              have hj0 : (0 : Int) ≤ (J : Int) + (k : Int) := by omega
              have hj1 : (J : Int) + (k : Int) ≤ 100 := by omega
              have HQQ := Lib.hid hq
              rw [hq] at c0 c1 c2 c3 c4 c5 c6
              clear hq1 hql' hq
              obtain ⟨s, o, kd, f, n, p, dd⟩ := x
              obtain ⟨ys, yo, yk, yf, yn, yp, yd⟩ := y
              simp only [enV, sqE] at c0 c1 c2 c3 c4 c5 c6 d0 d1 d2 d3 d4 d5 d6 HCL HSM
              go_upto_region 26 with fail
              obtain ⟨w6, hw6⟩ : ∃ w6, w6 = wr.alloc (.cells #[.int .i64 s, .int .i64 o, .int .i64 kd, .int .i64 f, .int .i64 n, .int .i64 p, .slice da' dd.length dc'] 24) := ⟨_, rfl⟩
              rw [← hw6]
              have r6 : w6.heap[wr.heap.size]? = some (.cells #[.int .i64 s, .int .i64 o, .int .i64 kd, .int .i64 f, .int .i64 n, .int .i64 p, .slice da' dd.length dc'] 24 (0, 0)) := by rw [hw6]; exact heap_alloc_new _ _
              have hb6 : Below wr.heap.size wr w6 := by rw [hw6]; ((repeat' (first | exact Below.refl _ _ | refine below_drewN ?_ _ | refine Below.drew ?_ | refine Below.alloc ?_ ?_ _ | refine Below.trans ?_ (Below.mono (by assumption) ?_))); all_goals (first | exact Nat.le_refl _ | exact Below.size (by assumption) | omega | (simp; done) | (simp; omega)))
              obtain ⟨x0, f0⟩ := blk_cell (i := 0) r6
              simp at x0
              clear hw6 c0 c1 c2 c3 c4 c5 c6
              go_upto_region 27 with fail
              obtain ⟨w7, hw7⟩ : ∃ w7, w7 = w6.setCell ⟨wr.heap.size, 0, none⟩ (.int .i64 ((J : Int) + (k : Int) + 1)) := ⟨_, rfl⟩
              rw [← hw7]
              have r7 : w7.heap[wr.heap.size]? = some (.cells #[.int .i64 ((q : Int) + 1), .int .i64 o, .int .i64 kd, .int .i64 f, .int .i64 n, .int .i64 p, .slice da' dd.length dc'] 24 (0, 0)) := by
                rw [hw7, HQ1.out]; simp [World.setCell, Array.getElem?_modify, r6]
              have hb7 : Below wr.heap.size wr w7 := by rw [hw7]; exact hb6.setCell (Nat.le_refl _) _
              have g0 := cellExt hb7 d0
              have g1 := cellExt hb7 d1
              have g2 := cellExt hb7 d2
              have g3 := cellExt hb7 d3
              have g4 := cellExt hb7 d4
              have g5 := cellExt hb7 d5
              have g6 := cellExt hb7 d6
              obtain ⟨z0, -⟩ := blk_cell (i := 0) r7
              obtain ⟨z1, -⟩ := blk_cell (i := 1) r7
              obtain ⟨z2, -⟩ := blk_cell (i := 2) r7
              obtain ⟨z3, -⟩ := blk_cell (i := 3) r7
              obtain ⟨z4, -⟩ := blk_cell (i := 4) r7
              obtain ⟨z5, -⟩ := blk_cell (i := 5) r7
              obtain ⟨z6, -⟩ := blk_cell (i := 6) r7
              simp at z0 z1 z2 z3 z4 z5 z6
              have hcl := HCL.out w7.drew (hb7.trans ((Below.refl _ w7).drew))
              have HSM7 := HSM
              have HB7 := Lib.hid hb7
              clear hw7 hb6 hb7 x0 f0 r6 r7 d0 d1 d2 d3 d4 d5 d6 HCL HSM
              have HCLL := Lib.hid hcl
              clear hcl
              go_region_with (first
                | (go_at_call 17; refine HCLL.out.mono ?_; rintro q' w8 ⟨ca, cc, rfl, hcd, hb8⟩; have k0 := cellExt hb8 g0; have k1 := cellExt hb8 g1; have k2 := cellExt hb8 g2; have k3 := cellExt hb8 g3; have k4 := cellExt hb8 g4; have k5 := cellExt hb8 g5; have k6 := cellExt hb8 g6; have HCD := Lib.hid hcd; have HB8 : Hid (Below wr.heap.size wr w8) := Lib.hid (dcall HB7.out (((Below.refl _ w7).drew).trans hb8)); clear hcd hb8)
                | (go_at_call 16; refine (HSM7.out _ HB8.out _ _ HCD.out).mono ?_; rintro q' w9 ⟨rfl, hb9⟩; have HB9 := Lib.hid (dcall HB8.out hb9); clear hb9))
              all_goals
                go_wp2
                go_roundw
                case rel => exact ⟨k + 1, by omega, by go_num, dcall HBR.out HB9.out⟩
                case measure => simp [intOf]; omega
            · go_wp2
              go_ret
              exact ⟨rfl, dcall HW5.out hbr⟩
end Go.Proofs.YtfeonfihlleoeaaDoor
