/- The walk of terrazzolaw09.TxnTwice. -/
import Derived.Test.YtgdilkhaopnhaaaGreatDoorL9a
import Derived.Test.YtgdilkhaopnhaaaGreatDoorRowS
import Derived.Test.YtgdilkhaopnhaaaGreatDoorMK
namespace Go.Proofs.YtgdilkhaopnhaaaGreatDoor
open Go.RowKit Go.WideShapes

theorem cc2 {w : World} {p : Nat} {a b : Value} {t : TypeId} (h : w.heap[p]? = some (.cells #[a, b] t (0, 0))) : (w.cell? ⟨p, 0, none⟩ = some a ∧ w.frozen? ⟨p, 0, none⟩ = false) ∧ (w.cell? ⟨p, 1, none⟩ = some b ∧ w.frozen? ⟨p, 1, none⟩ = false) := ⟨blk_cell h, blk_cell h⟩
theorem txDo_good {o : ObD} {th : Bool} {t : TxD} (h : (txDo o th t).e = 0) : mayB (txDo o th t).o = true ∧ ((txDo o th t).there = false → (txDo o th t).o = ObD.none) := by
  obtain ⟨h1, h2, h3⟩ := txDo_ok h
  rw [h3] at h ⊢
  exact runT_may _ _ _ (mayB_of h2) (fun e => by rw [e]; rfl) h
set_option maxRecDepth 100000 in
set_option maxHeartbeats 16000000 in
theorem ttwice_law (A B : Nat → Prop) (v : Value) (o : ObD) (n : Int) (la : Option Addr) (lc : Nat) (l : List OpD) (w : World) (hE : ErrT w) (hv : ObV A w v o) (h : SlE Enc.op B w (.slice la l.length lc) l) :
    Calls Tryz.prog 6 #[v, .int .i64 n, .slice la l.length lc] w (Says true w) := by
  obtain ⟨dva, kva, rfl, hda, hka⟩ := hv
  obtain ⟨da, dc, rfl⟩ := hda.shape
  obtain ⟨ka, kc, rfl⟩ := hka.shape
  have HA : Hid (ObV A w _ o) := Lib.hid ⟨_, _, rfl, hda, hka⟩
  have HS := Lib.hid (SlE.weak (A' := fun b => b < w.heap.size) h fun b h _ => h)
  have HE := Lib.hid hE
  obtain ⟨i0, hi, hz0, hz1, hz2⟩ := info_parts infoOpT
  clear hda hka h hE
  go_enter Tryz.func6, Tryz.ntmps6
  go_wp2_with fail
  obtain ⟨w0, hw0⟩ : ∃ w0, w0 = w.alloc (.cells #[.slice da o.data.length dc, .slice ka o.keys.length kc, .int .i64 o.seq] 25) := ⟨_, rfl⟩
  rw [← hw0]
  have b0 : w0.heap[w.heap.size]? = some (.cells #[.slice da o.data.length dc, .slice ka o.keys.length kc, .int .i64 o.seq] 25 (0, 0)) := by rw [hw0]; exact heap_alloc_new _ _
  have hw : Below w.heap.size w w0 := by rw [hw0]; ((repeat' (first | exact Below.refl _ _ | refine below_drewN ?_ _ | refine Below.drew ?_ | refine Below.alloc ?_ ?_ _ | refine Below.trans ?_ (Below.mono (by assumption) ?_))); all_goals (first | exact Nat.le_refl _ | exact Below.size (by assumption) | omega | (simp; done) | (simp; omega)))
  clear hw0
  refine (awake9_any _ (HE.out.ext hw)).mono ?_
  rintro e w1 ⟨rfl, hb1⟩
  have HW1 := Lib.hid (dcall hw hb1)
  have P1 := Lib.hid (dblk hb1 b0)
  have hp1 : w.heap.size < w1.heap.size := (Array.getElem?_eq_some_iff.1 P1.out).1
  clear hb1 b0 hw
  by_cases hl10 : (10 : Int) < l.length
  · go_wp2
    go_ret
    exact ⟨rfl, HW1.out⟩
  go_upto_region 7 with fail
  obtain ⟨w2, hw2⟩ : ∃ w2, w2 = (w1.alloc (.cells #[.int .i64 4, .int .i64 0, .int .i64 n, .string ⟨#[]⟩, .slice none 0 0] 43)).alloc (.cells #[.string ⟨#[100, 48, 46, 49]⟩, .slice (some ⟨w1.heap.size, 0, none⟩) 1 1] 28) := ⟨_, rfl⟩
  rw [← hw2]
  have hb2 : Below w1.heap.size w1 w2 := by rw [hw2]; ((repeat' (first | exact Below.refl _ _ | refine below_drewN ?_ _ | refine Below.drew ?_ | refine Below.alloc ?_ ?_ _ | refine Below.trans ?_ (Below.mono (by assumption) ?_))); all_goals (first | exact Nat.le_refl _ | exact Below.size (by assumption) | omega | (simp; done) | (simp; omega)))
  have P2 := Lib.hid (dblk hb2 P1.out)
  have T2 := Lib.hid (show w2.heap[w1.heap.size + 1]? = some (.cells #[.string ⟨#[100, 48, 46, 49]⟩, .slice (some ⟨w1.heap.size, 0, none⟩) 1 1] 28 (0, 0)) from by rw [hw2]; exact heap_alloc2_new _ _ _)
  have ROW2 : Hid (EnRow Enc.op 43 (fun b => b < w.heap.size) w1.heap.size w2 (.slice (some ⟨w1.heap.size, 0, none⟩) (0 + 1) 1) (opBelow n :: l.take 0)) := Lib.hid (EnRow.one (c := [.int .i64 4, .int .i64 0, .int .i64 n, .string ⟨#[]⟩, .slice none 0 0]) (by rw [hw2]; exact dnew (heap_alloc_new _ _) _) ⟨_, rfl, RB.nil _ _⟩ (Nat.le_refl _))
  have HW2 := Lib.hid (dcall HW1.out hb2)
  have hsz2 : w1.heap.size + 1 < w2.heap.size := (Array.getElem?_eq_some_iff.1 T2.out).1
  clear hw2 hb2 P1 HW1
  generalize w1.heap.size = s1 at *
  go_wp2
  go_loopw [9] (fun q9 wr => ∃ k : Nat, k ≤ l.length ∧ q9 = .int .i64 k ∧ ∃ (ra : Option Addr) (rc : Nat), wr.heap[s1 + 1]? = some (.cells #[.string ⟨#[100, 48, 46, 49]⟩, .slice ra (k + 1) rc] 28 (0, 0)) ∧
    EnRow Enc.op 43 (fun b => b < w.heap.size) s1 wr (.slice ra (k + 1) rc) (opBelow n :: l.take k) ∧ (Value.slice ra (k + 1) rc).ownBlock ≠ some (s1 + 1) ∧ (∀ op ∈ l.take k, op.kind ≠ 4 ∧ op.kind ≠ 13) ∧
    wr.heap[w.heap.size]? = some (.cells #[.slice da o.data.length dc, .slice ka o.keys.length kc, .int .i64 o.seq] 25 (0, 0)) ∧ Below w.heap.size w wr) (fun q9 _ => l.length - (intOf q9).toNat)
  case atStart => exact ⟨0, Nat.zero_le _, rfl, _, _, T2.out, ROW2.out, by simp [Value.ownBlock], fun x hx => by simp at hx, P2.out, HW2.out⟩
  case round =>
    obtain ⟨k, hk, rfl, ra, rc, hT, hR, hne, hkd, hP, hB⟩ := hrel
    have HT := Lib.hid hT
    have HR := Lib.hid hR
    have HNE := Lib.hid hne
    have HKD := Lib.hid hkd
    have HP := Lib.hid hP
    have HB := Lib.hid hB
    have hszr : s1 + 1 < wr.heap.size := (Array.getElem?_eq_some_iff.1 hT).1
    clear hT hR hne hkd hP hB T2 ROW2 P2 HW2
    obtain ⟨⟨t0, g0⟩, ⟨t1, g1⟩⟩ := cc2 HT.out
    by_cases hlt : k < l.length
    · obtain ⟨b, off, x, rfl, hb, hbA, c0, c1, c2, c3, c4, hx⟩ := Ops.at (HS.out.ext HB.out) hlt
      obtain ⟨xa, xc, rfl⟩ := hx.shape
      have HX := Lib.hid hx
      have HTK := Lib.hid (List.take_succ_eq_append_getElem hlt)
      have HKK : Hid ((l[k]).kind ≠ 4 → (l[k]).kind ≠ 13 → ∀ op ∈ l.take (k + 1), op.kind ≠ 4 ∧ op.kind ≠ 13) := Lib.hid fun h1 h2 => all_take_succ HKD.out hlt ⟨h1, h2⟩
      generalize l[k] = op at *
      obtain ⟨ok, oo, on, onm, opd⟩ := op
      simp only at c0 c1 c2 c3 c4 HX HKK
      clear hx
      by_cases k4 : ok = 4
      · subst k4
        go_wp2
        go_ret
        exact ⟨rfl, HB.out⟩
      by_cases k13 : ok = 13
      · subst k13
        go_wp2
        go_ret
        exact ⟨rfl, HB.out⟩
      by_cases k12 : ok = 12
      · subst k12
        go_wp2
        go_ret
        exact ⟨rfl, HB.out⟩
      have HKN := Lib.hid (HKK.out k4 k13)
      have u4 : (ok == 4) = false := by simpa using k4
      have u13 : (ok == 13) = false := by simpa using k13
      have u12 : (ok == 12) = false := by simpa using k12
      clear k4 k13 k12 HKK HKD
      have hk5 : (0 : Int) ≤ k := by omega
      have hkl5 : (k : Int) < l.length := by omega
      have hlen : (opBelow n :: l.take k).length = k + 1 := by simp; omega
      have HLEN := Lib.hid hlen
      clear hlen
      go_upto_region 13 with fail
      go_region_law ((refine step_push _ (by rfl) _ _ 26 (by rfl) Enc.op (fun b => b < w.heap.size) s1 43 i0 _ 64 Tryz.underlying26 hi hz0 hz1 hz2 (by rfl) (by decide) (by decide) _ _ (by rfl) (HR.out.ext (by ((repeat' (first | exact Below.refl _ _ | refine below_drewN ?_ _ | refine Below.drew ?_ | refine Below.alloc ?_ ?_ _ | refine Below.trans ?_ (Below.mono (by assumption) ?_))); all_goals (first | exact Nat.le_refl _ | exact Below.size (by assumption) | omega | (simp; done) | (simp; omega))))) wr.heap.size [.int .i64 ok, .int .i64 oo, .int .i64 on, .string onm, .slice xa opd.length xc] 43 ⟨ok, oo, on, onm, opd⟩ (by rfl) (heap_alloc_new wr _) ⟨_, rfl, RB.ext HX.out (by ((repeat' (first | exact Below.refl _ _ | refine below_drewN ?_ _ | refine Below.drew ?_ | refine Below.alloc ?_ ?_ _ | refine Below.trans ?_ (Below.mono (by assumption) ?_))); all_goals (first | exact Nat.le_refl _ | exact Below.size (by assumption) | omega | (simp; done) | (simp; omega))))⟩ (by rw [HLEN.out]; omega) (by simp; omega) (fun b hb => by omega) ?_; intro g cap w5 hrow hgrow hbel hat; have hT5 := (hgrow.block (s1 + 1) (by simp; omega) (fun e => HNE.out e.symm)).trans ((Below.heap_alloc _ _ _ hszr).trans HT.out); obtain ⟨⟨t0', g0'⟩, ⟨t1', g1'⟩⟩ := cc2 hT5))
      all_goals
        have HR5 : Hid (EnRow Enc.op 43 (fun b => b < w.heap.size) s1 w5 (.slice (some ⟨g, 0, none⟩) (k + 1 + 1) cap) (opBelow n :: l.take (k + 1))) := Lib.hid (by
          have h := hrow
          rw [HLEN.out] at h
          rw [HTK.out]
          exact h)
        have HP5 := Lib.hid ((hbel.block w.heap.size hp1).trans ((Below.heap_alloc _ _ _ (show w.heap.size < wr.heap.size by omega)).trans HP.out))
        have hBB := HB.out
        have HB5 : Hid (Below w.heap.size w w5) := Lib.hid (Below.trans (by ((repeat' (first | exact Below.refl _ _ | refine below_drewN ?_ _ | refine Below.drew ?_ | refine Below.alloc ?_ ?_ _ | refine Below.trans ?_ (Below.mono (by assumption) ?_))); all_goals (first | exact Nat.le_refl _ | exact Below.size (by assumption) | omega | (simp; done) | (simp; omega)))) (hbel.mono (Nat.le_of_lt hp1)))
        have HN5 : Hid ((Value.slice (some ⟨g, 0, none⟩) (k + 1 + 1) cap).ownBlock ≠ some (s1 + 1)) := Lib.hid (by
          rcases hat with h | h
          · exact fun e => HNE.out (h.trans e)
          · simp only [Value.ownBlock, ne_eq, Option.some.injEq]; rw [h]; simp; omega)
        have HT5 := Lib.hid hT5
        clear hrow hgrow hbel hat hT5 t0' g0' t1' g1' hBB
        go_wp2
        go_roundw
        case rel => exact ⟨k + 1, by omega, by go_num, _, _, set2_blk1 HT5.out, EnRow.set HR5.out HN5.out (by omega), HN5.out, HKN.out, (Below.heap_setCell _ _ _ _ (show w.heap.size ≠ s1 + 1 by omega)).trans HP5.out, HB5.out.setCell (show w.heap.size ≤ s1 + 1 by omega) _⟩
        case measure => simp [intOf]; omega
    · obtain rfl : k = l.length := by omega
      rw [List.take_length] at HR HKD
      have hwl : w.heap.size < s1 := hp1
      go_wp2_with (first | (at_builtin; refine stop_in ?_) | go_in)
      unfold Stop
      refine wpList_pushG _ (by rfl) (.tmp 59) (.tmp 62) 26 (by rfl) Enc.op (fun b => b < w.heap.size) s1 43 i0 _ 64 Tryz.underlying26 hi hz0 hz1 hz2 (by rfl) (by decide) (by decide) _ _ (by rfl) (HR.out.ext (by ((repeat' (first | exact Below.refl _ _ | refine below_drewN ?_ _ | refine Below.drew ?_ | refine Below.alloc ?_ ?_ _ | refine Below.trans ?_ (Below.mono (by assumption) ?_))); all_goals (first | exact Nat.le_refl _ | exact Below.size (by assumption) | omega | (simp; done) | (simp; omega))))) wr.heap.size [.int .i64 12, .int .i64 0, .int .i64 n, .string ⟨#[]⟩, .slice none 0 0] 43 (opSeq n) (by rfl) (heap_alloc_new wr _) ⟨_, rfl, RB.nil _ _⟩ (by simp; omega) (by simp; omega) (fun b hb => by omega) ?_
      intro g cap w5 hrow hgrow hbel hat
      have HR5 : Hid (EnRow Enc.op 43 (fun b => b < w.heap.size) s1 w5 (.slice (some ⟨g, 0, none⟩) (l.length + 1 + 1) cap) (opBelow n :: (l ++ [opSeq n]))) := Lib.hid hrow
      have HP5 := Lib.hid ((hbel.block w.heap.size hp1).trans ((Below.heap_alloc _ _ _ (show w.heap.size < wr.heap.size by omega)).trans HP.out))
      have hBB := HB.out
      have HB5 : Hid (Below w.heap.size w w5) := Lib.hid (Below.trans (by ((repeat' (first | exact Below.refl _ _ | refine below_drewN ?_ _ | refine Below.drew ?_ | refine Below.alloc ?_ ?_ _ | refine Below.trans ?_ (Below.mono (by assumption) ?_))); all_goals (first | exact Nat.le_refl _ | exact Below.size (by assumption) | omega | (simp; done) | (simp; omega)))) (hbel.mono (Nat.le_of_lt hp1)))
      have HN5 : Hid ((Value.slice (some ⟨g, 0, none⟩) (l.length + 1 + 1) cap).ownBlock ≠ some (s1 + 1)) := Lib.hid (by
        rcases hat with h | h
        · exact fun e => HNE.out (h.trans e)
        · simp only [Value.ownBlock, ne_eq, Option.some.injEq]; rw [h]; simp; omega)
      have HT5 := Lib.hid ((hgrow.block (s1 + 1) (by simp; omega) (fun e => HNE.out e.symm)).trans ((Below.heap_alloc _ _ _ hszr).trans HT.out))
      have hl5 : s1 + 1 < w5.heap.size := (Array.getElem?_eq_some_iff.1 HT5.out).1
      clear hrow hgrow hbel hat hBB HR HT HP HB HNE t0 g0 t1 g1
      simp only [List.length_cons]
      obtain ⟨⟨t0, g0⟩, ⟨t1, g1⟩⟩ := cc2 HT5.out
      go_upto_region 15 with fail
      obtain ⟨w6, hw6⟩ : ∃ w6, w6 = w5.setCell ⟨s1 + 1, 1, none⟩ (.slice (some ⟨g, 0, none⟩) (l.length + 1 + 1) cap) := ⟨_, rfl⟩
      rw [← hw6]
      obtain ⟨TT, hTT⟩ : ∃ TT, TT = opBelow n :: (l ++ [opSeq n]) := ⟨_, rfl⟩
      have hTL : TT.length = l.length + 1 + 1 := by rw [hTT]; simp
      have HS6 : Hid (SlE Enc.op (fun _ => True) w6 (.slice (some ⟨g, 0, none⟩) (l.length + 1 + 1) cap) TT) := Lib.hid (by rw [hw6, hTT]; exact (EnRow.set HR5.out HN5.out (by omega)).sle (fun _ _ _ => trivial) (fun _ _ => trivial))
      have HT6 := Lib.hid (show w6.heap[s1 + 1]? = some (.cells #[.string ⟨#[100, 48, 46, 49]⟩, .slice (some ⟨g, 0, none⟩) (l.length + 1 + 1) cap] 28 (0, 0)) from by rw [hw6]; exact set2_blk1 HT5.out)
      have HP6 := Lib.hid (show w6.heap[w.heap.size]? = some (.cells #[.slice da o.data.length dc, .slice ka o.keys.length kc, .int .i64 o.seq] 25 (0, 0)) from by rw [hw6]; exact (Below.heap_setCell _ _ _ _ (show w.heap.size ≠ s1 + 1 by omega)).trans HP5.out)
      have HW6 := Lib.hid (show Below w.heap.size w w6 from by rw [hw6]; exact HB5.out.setCell (show w.heap.size ≤ s1 + 1 by omega) _)
      have HTT := Lib.hid hTT
      have HTL := Lib.hid hTL
      clear hw6 HR5 HP5 HB5 HN5 HT5 t0 g0 t1 g1 hTT hTL
      obtain ⟨⟨t0, g0⟩, ⟨t1, g1⟩⟩ := cc2 HT6.out
      obtain ⟨y0, e0⟩ := blk_cell (i := 0) (HP6.out)
      obtain ⟨y1, e1⟩ := blk_cell (i := 1) (HP6.out)
      obtain ⟨y2, e2⟩ := blk_cell (i := 2) (HP6.out)
      simp at y0 y1 y2
      have hfew := few9_any A (fun _ => True) _ (.slice (some ⟨g, 0, none⟩) (l.length + 1 + 1) cap) o ⟨⟨#[100, 48, 46, 49]⟩, TT⟩ w6 (HA.out.ext HW6.out) HS6.out
      have HFW := Lib.hid hfew
      clear hfew
      go_wp2_with fail
      refine HFW.out.mono ?_
      rintro e w7 ⟨p7, rfl, hf7, hb7⟩
      have HF7 := Lib.hid hf7
      have HS7 := Lib.hid (HS6.out.ext hb7)
      have HT7 := Lib.hid (dblk hb7 HT6.out)
      have HP7 := Lib.hid (dblk hb7 HP6.out)
      have HW7 := Lib.hid (dcall HW6.out hb7)
      clear hf7 hb7 HS6 HT6 HP6 HW6 HFW t0 g0 t1 g1 y0 y1 y2 e0 e1 e2
      rcases p7 with _ | _
      · go_wp2
        go_ret
        exact ⟨rfl, HW7.out⟩
      have HFP := Lib.hid (HF7.out rfl)
      have hko : o.keys.length ≤ 200 := HFP.out.keys
      have tw : (txDo o true ⟨⟨#[100, 48, 46, 49]⟩, TT⟩).e = 0 → (txDo o true ⟨⟨#[100, 48, 46, 49]⟩, TT⟩).there = true ∧ txDo (txDo o true ⟨⟨#[100, 48, 46, 49]⟩, TT⟩).o true ⟨⟨#[100, 48, 46, 49]⟩, TT⟩ = txDo o true ⟨⟨#[100, 48, 46, 49]⟩, TT⟩ ∧
        ((o.seq < n ∧ (txDo o true ⟨⟨#[100, 48, 46, 49]⟩, TT⟩).o.seq = n) ∨ (n ≤ o.seq ∧ (txDo o true ⟨⟨#[100, 48, 46, 49]⟩, TT⟩).o = o)) := by rw [HTT.out]; exact twice HKD.out
      have gd : (txDo o true ⟨⟨#[100, 48, 46, 49]⟩, TT⟩).e = 0 → mayB (txDo o true ⟨⟨#[100, 48, 46, 49]⟩, TT⟩).o = true := fun h => (txDo_good h).1
      have bd : (txDo o true ⟨⟨#[100, 48, 46, 49]⟩, TT⟩).e ≠ 0 → txDo o true ⟨⟨#[100, 48, 46, 49]⟩, TT⟩ = TDoR.no (txDo o true ⟨⟨#[100, 48, 46, 49]⟩, TT⟩).e := txDo_bad
      have hkk := txDo_keys o true ⟨⟨#[100, 48, 46, 49]⟩, TT⟩
      have hdo := fun v va W h1 h2 h3 => tdo_any A (fun _ => True) v va o true ⟨⟨#[100, 48, 46, 49]⟩, TT⟩ W h1 HFP.out.okl h2 HFP.out.dat h3
      generalize hXX : txDo o true ⟨⟨#[100, 48, 46, 49]⟩, TT⟩ = X at hdo tw gd bd hkk
      have HDO := Lib.hid hdo
      clear hdo hXX
      obtain ⟨y0, e0⟩ := blk_cell (i := 0) (HP7.out)
      obtain ⟨y1, e1⟩ := blk_cell (i := 1) (HP7.out)
      obtain ⟨y2, e2⟩ := blk_cell (i := 2) (HP7.out)
      simp at y0 y1 y2
      obtain ⟨⟨t0, g0⟩, ⟨t1, g1⟩⟩ := cc2 HT7.out
      by_cases hxe : X.e = 0
      · obtain ⟨tw1, tw2, tw3⟩ := tw hxe
        have HGD := Lib.hid (gd hxe)
        obtain ⟨xo, xt, xe⟩ := X
        simp only at hxe tw1 tw2 tw3 HGD hkk
        subst hxe tw1
        have hd2 := fun v va W h1 h2 h3 => tdo_any (fun _ => True) (fun _ => True) v va xo true ⟨⟨#[100, 48, 46, 49]⟩, TT⟩ W h1 (okl_of HGD.out) h2 HFP.out.dat h3
        rw [tw2] at hd2
        have HD2 := Lib.hid hd2
        have HTW := Lib.hid tw3
        have HKK := Lib.hid hkk
        clear hd2 tw tw2 tw3 gd bd hkk
        go_wp2_with fail
        refine (HDO.out _ _ _ (HA.out.ext HW7.out) HS7.out (HE.out.ext HW7.out)).mono ?_
        intro e w8 h8
        obtain ⟨a8, c8, u8, q8, rfl, hv8, hb8⟩ := h8.ways
        have HV8 : Hid (ObV (fun _ => True) w8 (.agg #[.slice a8 xo.data.length c8, .slice u8 xo.keys.length q8, .int .i64 xo.seq]) xo) := Lib.hid (hv8.obv.weak fun _ _ _ => trivial)
        have HS8 := Lib.hid (HS7.out.ext hb8)
        have HT8 := Lib.hid (dblk hb8 HT7.out)
        have HP8 := Lib.hid (dblk hb8 HP7.out)
        have HW8 := Lib.hid (dcall HW7.out hb8)
        clear h8 hv8 hb8 HS7 HT7 HP7 HW7 HDO t0 g0 t1 g1 y0 y1 y2 e0 e1 e2
        go_upto_region 19 with fail
        obtain ⟨w9, hw9⟩ : ∃ w9, w9 = w8.alloc (.cells #[.slice a8 xo.data.length c8, .slice u8 xo.keys.length q8, .int .i64 xo.seq] 25) := ⟨_, rfl⟩
        rw [← hw9]
        have hb9 : Below w8.heap.size w8 w9 := by rw [hw9]; ((repeat' (first | exact Below.refl _ _ | refine below_drewN ?_ _ | refine Below.drew ?_ | refine Below.alloc ?_ ?_ _ | refine Below.trans ?_ (Below.mono (by assumption) ?_))); all_goals (first | exact Nat.le_refl _ | exact Below.size (by assumption) | omega | (simp; done) | (simp; omega)))
        have HQ9 := Lib.hid (show w9.heap[w8.heap.size]? = some (.cells #[.slice a8 xo.data.length c8, .slice u8 xo.keys.length q8, .int .i64 xo.seq] 25 (0, 0)) from by rw [hw9]; exact heap_alloc_new _ _)
        have HV9 := Lib.hid (HV8.out.ext hb9)
        have HS9 := Lib.hid (HS8.out.ext hb9)
        have HT9 := Lib.hid (dblk hb9 HT8.out)
        have HP9 := Lib.hid (dblk hb9 HP8.out)
        have HW9 := Lib.hid (dcall HW8.out hb9)
        clear hw9 hb9 HV8 HS8 HT8 HP8 HW8
        obtain ⟨⟨t0, g0⟩, ⟨t1, g1⟩⟩ := cc2 HT9.out
        obtain ⟨x0, f0⟩ := blk_cell (i := 0) (HQ9.out)
        obtain ⟨x1, f1⟩ := blk_cell (i := 1) (HQ9.out)
        obtain ⟨x2, f2⟩ := blk_cell (i := 2) (HQ9.out)
        simp at x0 x1 x2
        go_wp2_with fail
        refine (HD2.out _ _ _ HV9.out HS9.out (HE.out.ext HW9.out)).mono ?_
        intro e wA hA
        obtain ⟨aA, cA, uA, qA, rfl, hvA, hbA⟩ := hA.ways
        have HVA : Hid (ObV (fun _ => True) wA (.agg #[.slice aA xo.data.length cA, .slice uA xo.keys.length qA, .int .i64 xo.seq]) xo) := Lib.hid (hvA.obv.weak fun _ _ _ => trivial)
        have HUA := Lib.hid (HV9.out.ext hbA)
        have HQA := Lib.hid (dblk hbA HQ9.out)
        have HPA := Lib.hid (dblk hbA HP9.out)
        have HWA := Lib.hid (dcall HW9.out hbA)
        clear hA hvA hbA HV9 HS9 HT9 HQ9 HP9 HW9 HD2 t0 g0 t1 g1 x0 x1 x2 f0 f1 f2
        go_upto_region 22 with fail
        obtain ⟨wB, hwB⟩ : ∃ wB, wB = wA.alloc (.cells #[.slice aA xo.data.length cA, .slice uA xo.keys.length qA, .int .i64 xo.seq] 25) := ⟨_, rfl⟩
        rw [← hwB]
        have hbB : Below wA.heap.size wA wB := by rw [hwB]; ((repeat' (first | exact Below.refl _ _ | refine below_drewN ?_ _ | refine Below.drew ?_ | refine Below.alloc ?_ ?_ _ | refine Below.trans ?_ (Below.mono (by assumption) ?_))); all_goals (first | exact Nat.le_refl _ | exact Below.size (by assumption) | omega | (simp; done) | (simp; omega)))
        have HRB := Lib.hid (show wB.heap[wA.heap.size]? = some (.cells #[.slice aA xo.data.length cA, .slice uA xo.keys.length qA, .int .i64 xo.seq] 25 (0, 0)) from by rw [hwB]; exact heap_alloc_new _ _)
        have HVB := Lib.hid (HVA.out.ext hbB)
        have HUB := Lib.hid (HUA.out.ext hbB)
        have HQB := Lib.hid (dblk hbB HQA.out)
        have HPB := Lib.hid (dblk hbB HPA.out)
        have HWB := Lib.hid (dcall HWA.out hbB)
        clear hwB hbB HVA HUA HQA HPA HWA
        obtain ⟨x0, f0⟩ := blk_cell (i := 0) (HQB.out)
        obtain ⟨x1, f1⟩ := blk_cell (i := 1) (HQB.out)
        obtain ⟨x2, f2⟩ := blk_cell (i := 2) (HQB.out)
        simp at x0 x1 x2
        obtain ⟨z0, k0⟩ := blk_cell (i := 0) (HRB.out)
        obtain ⟨z1, k1⟩ := blk_cell (i := 1) (HRB.out)
        obtain ⟨z2, k2⟩ := blk_cell (i := 2) (HRB.out)
        simp at z0 z1 z2
        have hsm := rsame_any _ _ xo xo _ _ wB HUB.out HVB.out (by have := HKK.out; omega) (by have := HKK.out; omega)
        rw [sameB_self] at hsm
        have HSM := Lib.hid hsm
        clear hsm
        rcases HTW.out with ⟨hlt, heq⟩ | ⟨hge, hxo⟩
        · have q1 : (xo.seq == n) = true := by simpa using heq
          have HEQ := Lib.hid heq
          clear heq
          go_wp2_with fail
          refine HSM.out.mono ?_
          rintro e wC ⟨rfl, hbC⟩
          have HWC := Lib.hid (dcall HWB.out hbC)
          obtain ⟨y0, y1, y2⟩ := three_cells (dblk hbC HPB.out)
          obtain ⟨x0', x1', x2'⟩ := three_cells (dblk hbC HQB.out)
          clear hbC x0 x1 x2 f0 f1 f2 z0 z1 z2 k0 k1 k2
          go_wp2
          go_ret
          exact ⟨rfl, HWC.out⟩
        · have q1 : decide (o.seq < n) = false := decide_eq_false (by omega)
          have q2 : ¬ o.seq < n := by omega
          have HXO := Lib.hid hxo
          clear hxo
          go_wp2_with fail
          refine HSM.out.mono ?_
          rintro e wC ⟨rfl, hbC⟩
          have HWC := Lib.hid (dcall HWB.out hbC)
          obtain ⟨y0, y1, y2⟩ := three_cells (dblk hbC HPB.out)
          obtain ⟨x0', x1', x2'⟩ := three_cells (dblk hbC HQB.out)
          have HUC := Lib.hid (HUB.out.ext hbC)
          clear hbC x0 x1 x2 f0 f1 f2 z0 z1 z2 k0 k1 k2
          have hsm := rsame_any _ A xo o _ _ wC HUC.out (HA.out.ext HWC.out) (by have := HKK.out; omega) (by omega)
          rw [show sameB xo o = true from by rw [HXO.out]; exact sameB_self o] at hsm
          have HSN := Lib.hid hsm
          clear hsm
          go_wp2_with fail
          refine HSN.out.mono ?_
          rintro e wD ⟨rfl, hbD⟩
          have HWD := Lib.hid (dcall HWC.out hbD)
          clear hbD
          go_wp2
          go_ret
          exact ⟨rfl, HWD.out⟩
      · have HX := Lib.hid (bd hxe)
        obtain ⟨E, hE⟩ : ∃ E, E = X.e := ⟨_, rfl⟩
        rw [← hE] at HX hxe
        have v0 : (E != 0) = true := by simpa using hxe
        have v1 : (E == 0) = false := by simpa using hxe
        have hdx := HDO.out
        rw [HX.out] at hdx
        have HDX := Lib.hid hdx
        clear hdx HDO hE hxe tw gd bd hkk
        go_wp2_with fail
        refine (HDX.out _ _ _ (HA.out.ext HW7.out) HS7.out (HE.out.ext HW7.out)).mono ?_
        intro e w8 h8
        obtain ⟨a8, c8, u8, q8, rfl, hv8, hb8⟩ := h8.ways
        have hv8' := hv8.obv
        simp only [TDoR.no, ObD.none, List.length_nil] at hv8' ⊢
        have HV8 := Lib.hid hv8'
        have HW8 := Lib.hid (dcall HW7.out hb8)
        clear h8 hv8 hv8' hb8 HS7 HT7 HP7 HW7 t0 g0 t1 g1 y0 y1 y2 e0 e1 e2 HDX
        go_wp2_with fail
        refine (rsame_any _ (fun _ => True) ⟨[], [], 0⟩ ⟨[], [], 0⟩ _ _ _ (HV8.out.ext ((Below.refl _ _).alloc (Nat.le_refl _) _)) (obv_none _ _) (by simp) (by simp)).mono ?_
        rw [sameB_self]
        rintro e w9 ⟨rfl, hb9⟩
        have HW9 := Lib.hid (dcall (dcall HW8.out ((Below.refl _ _).alloc (Nat.le_refl _) _)) hb9)
        clear hb9
        go_wp2
        go_ret
        exact ⟨rfl, HW9.out⟩
end Go.Proofs.YtgdilkhaopnhaaaGreatDoor
