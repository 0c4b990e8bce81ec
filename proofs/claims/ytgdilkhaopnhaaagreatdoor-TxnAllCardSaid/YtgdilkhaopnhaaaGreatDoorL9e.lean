/- The walk of terrazzolaw09.TxnAll. -/
import Derived.Test.YtgdilkhaopnhaaaGreatDoorL9d
namespace Go.Proofs.YtgdilkhaopnhaaaGreatDoor
open Go.RowKit Go.WideShapes

theorem txAll_bad {o : ObD} {nm : ByteArray} {l m : List OpD} (hk : ∀ op ∈ l, op.kind ≠ 4) (hlen : (l ++ m).length ≤ 12) (h : (txDo o true ⟨nm, l⟩).e ≠ 0) : ∃ E : Int, E ≠ 0 ∧ txDo o true ⟨nm, l ++ m⟩ = TDoR.no E := by
  have := txAll (o := o) (nm := nm) hk hlen
  rw [if_neg h] at this
  refine ⟨_, ?_, this⟩
  split
  · decide
  · exact h
theorem txAll_ok {o : ObD} {nm : ByteArray} {l m : List OpD} (hk : ∀ op ∈ l, op.kind ≠ 4) (hlen : (l ++ m).length ≤ 12) (h : (txDo o true ⟨nm, l⟩).e = 0) : txDo o true ⟨nm, l ++ m⟩ = txDo (txDo o true ⟨nm, l⟩).o (txDo o true ⟨nm, l⟩).there ⟨nm, m⟩ := by
  have := txAll (o := o) (nm := nm) hk hlen
  rw [if_pos h] at this
  exact this
set_option maxRecDepth 100000 in
set_option maxHeartbeats 16000000 in
theorem tall_law (A B C : Nat → Prop) (v : Value) (o : ObD) (la : Option Addr) (lc : Nat) (l : List OpD) (ma : Option Addr) (mc : Nat) (m : List OpD) (w : World) (hE : ErrT w) (hv : ObV A w v o) (h : SlE Enc.op B w (.slice la l.length lc) l) (h' : SlE Enc.op C w (.slice ma m.length mc) m) :
    Calls Tryz.prog 7 #[v, .slice la l.length lc, .slice ma m.length mc] w (Says true w) := by
  obtain ⟨dva, kva, rfl, hda, hka⟩ := hv
  obtain ⟨da, dc, rfl⟩ := hda.shape
  obtain ⟨ka, kc, rfl⟩ := hka.shape
  have HA : Hid (ObV A w _ o) := Lib.hid ⟨_, _, rfl, hda, hka⟩
  have HS := Lib.hid (SlE.weak (A' := fun b => b < w.heap.size) h fun b h _ => h)
  have HM := Lib.hid (SlE.weak (A' := fun b => b < w.heap.size) h' fun b h _ => h)
  have HE := Lib.hid hE
  obtain ⟨i0, hi, hz0, hz1, hz2⟩ := info_parts infoOpT
  clear hda hka h h' hE
  go_enter Tryz.func7, Tryz.ntmps7
  go_wp2_with fail
  obtain ⟨w0, hw0⟩ : ∃ w0, w0 = w.alloc (.cells #[.slice da o.data.length dc, .slice ka o.keys.length kc, .int .i64 o.seq] 25) := ⟨_, rfl⟩
  rw [← hw0]
  have b0 : w0.heap[w.heap.size]? = some (.cells #[.slice da o.data.length dc, .slice ka o.keys.length kc, .int .i64 o.seq] 25 (0, 0)) := by rw [hw0]; exact heap_alloc_new _ _
  have hw : Below w.heap.size w w0 := by rw [hw0]; ((repeat' (first | exact Below.refl _ _ | refine below_drewN ?_ _ | refine Below.drew ?_ | refine Below.alloc ?_ ?_ _ | refine Below.trans ?_ (Below.mono (by assumption) ?_))); all_goals (first | exact Nat.le_refl _ | exact Below.size (by assumption) | omega | (simp; done) | (simp; omega)))
  clear hw0
  refine (awake9_any _ (HE.out.ext hw)).mono ?_
  rintro e w1 ⟨rfl, hb1⟩
  have HW1 := Lib.hid (dcall hw hb1)
  have P1 := Lib.hid (dblk hb1 b0)
  have hp1 : w.heap.size < w1.heap.size := (Array.getElem?_eq_some_iff.1 P1.out).1
  clear hb1 b0 hw
  by_cases hl12 : (12 : Int) < l.length
  · obtain ⟨Z, hZ⟩ : ∃ Z, IntKind.i64.wrap ((l.length : Int) + (m.length : Int)) = Z := ⟨_, rfl⟩
    by_cases hz : 12 < Z
    · go_wp2
      go_ret
      exact ⟨rfl, HW1.out⟩
    · have hz' : decide (12 < Z) = false := decide_eq_false hz
      go_wp2
      go_ret
      exact ⟨rfl, HW1.out⟩
  by_cases hm12 : (12 : Int) < m.length
  · obtain ⟨Z, hZ⟩ : ∃ Z, IntKind.i64.wrap ((l.length : Int) + (m.length : Int)) = Z := ⟨_, rfl⟩
    by_cases hz : 12 < Z
    · go_wp2
      go_ret
      exact ⟨rfl, HW1.out⟩
    · have hz' : decide (12 < Z) = false := decide_eq_false hz
      go_wp2
      go_ret
      exact ⟨rfl, HW1.out⟩
  by_cases hlm : (12 : Int) < (l.length : Int) + m.length
  · go_wp2
    go_ret
    exact ⟨rfl, HW1.out⟩
  go_upto_region 9 with fail
  obtain ⟨w2, hw2⟩ : ∃ w2, w2 = ((w1.alloc (.cells #[.string ⟨#[120]⟩, .slice la l.length lc] 28)).alloc (.cells #[.string ⟨#[120]⟩, .slice ma m.length mc] 28)).alloc (.cells #[.string ⟨#[120]⟩, .slice none 0 0] 28) := ⟨_, rfl⟩
  rw [← hw2]
  have hb2 : Below w1.heap.size w1 w2 := by rw [hw2]; ((repeat' (first | exact Below.refl _ _ | refine below_drewN ?_ _ | refine Below.drew ?_ | refine Below.alloc ?_ ?_ _ | refine Below.trans ?_ (Below.mono (by assumption) ?_))); all_goals (first | exact Nat.le_refl _ | exact Below.size (by assumption) | omega | (simp; done) | (simp; omega)))
  have P2 := Lib.hid (dblk hb2 P1.out)
  have N2 := Lib.hid (show w2.heap[w1.heap.size]? = some (.cells #[.string ⟨#[120]⟩, .slice la l.length lc] 28 (0, 0)) from by rw [hw2]; exact dnew (dnew (heap_alloc_new _ _) _) _)
  have M2 := Lib.hid (show w2.heap[w1.heap.size + 1]? = some (.cells #[.string ⟨#[120]⟩, .slice ma m.length mc] 28 (0, 0)) from by rw [hw2]; exact dnew (heap_alloc2_new _ _ _) _)
  have T2 := Lib.hid (show w2.heap[w1.heap.size + 2]? = some (.cells #[.string ⟨#[120]⟩, .slice none 0 0] 28 (0, 0)) from by rw [hw2]; have h := fun (W : World) o' => heap_alloc_new W o'; have := h ((w1.alloc (.cells #[.string ⟨#[120]⟩, .slice la l.length lc] 28)).alloc (.cells #[.string ⟨#[120]⟩, .slice ma m.length mc] 28)) (.cells #[.string ⟨#[120]⟩, .slice none 0 0] 28); simpa using this)
  have HW2 := Lib.hid (dcall HW1.out hb2)
  have hsz2 : w1.heap.size + 2 < w2.heap.size := (Array.getElem?_eq_some_iff.1 T2.out).1
  clear hw2 hb2 P1 HW1
  generalize w1.heap.size = s1 at *
  go_wp2
  go_loopw [11] (fun q9 wr => ∃ k : Nat, k ≤ l.length ∧ q9 = .int .i64 k ∧ ∃ (ra : Option Addr) (rc : Nat), wr.heap[s1 + 2]? = some (.cells #[.string ⟨#[120]⟩, .slice ra k rc] 28 (0, 0)) ∧
    EnRow Enc.op 43 (fun b => b < w.heap.size) (s1 + 3) wr (.slice ra k rc) (l.take k) ∧ (∀ op ∈ l.take k, op.kind ≠ 4) ∧
    wr.heap[w.heap.size]? = some (.cells #[.slice da o.data.length dc, .slice ka o.keys.length kc, .int .i64 o.seq] 25 (0, 0)) ∧ wr.heap[s1]? = some (.cells #[.string ⟨#[120]⟩, .slice la l.length lc] 28 (0, 0)) ∧ wr.heap[s1 + 1]? = some (.cells #[.string ⟨#[120]⟩, .slice ma m.length mc] 28 (0, 0)) ∧ Below w.heap.size w wr) (fun q9 _ => l.length - (intOf q9).toNat)
  case atStart => exact ⟨0, Nat.zero_le _, rfl, none, 0, T2.out, EnRow.nil _ _ _ _ _, fun x hx => by simp at hx, P2.out, N2.out, M2.out, HW2.out⟩
  case round =>
    obtain ⟨k, hk, rfl, ra, rc, hT, hR, hkd, hP, hN, hM, hB⟩ := hrel
    have HT := Lib.hid hT
    have HR := Lib.hid hR
    have HKD := Lib.hid hkd
    have HP := Lib.hid hP
    have HN := Lib.hid hN
    have HMB := Lib.hid hM
    have HB := Lib.hid hB
    have hszr : s1 + 2 < wr.heap.size := (Array.getElem?_eq_some_iff.1 hT).1
    clear hT hR hkd hP hN hM hB T2 P2 HW2 N2 M2
    obtain ⟨⟨t0, g0⟩, ⟨t1, g1⟩⟩ := cc2 HT.out
    by_cases hlt : k < l.length
    · obtain ⟨b, off, x, rfl, hb, hbA, c0, c1, c2, c3, c4, hx⟩ := Ops.at (HS.out.ext HB.out) hlt
      obtain ⟨xa, xc, rfl⟩ := hx.shape
      have HX := Lib.hid hx
      have HTK := Lib.hid (List.take_succ_eq_append_getElem hlt)
      have HKK : Hid ((l[k]).kind ≠ 4 → ∀ op ∈ l.take (k + 1), op.kind ≠ 4) := Lib.hid fun h1 => all_take_succ HKD.out hlt h1
      generalize l[k] = op at *
      obtain ⟨ok, oo, on, onm, opd⟩ := op
      simp only at c0 c1 c2 c3 c4 HX HKK
      clear hx
      by_cases k4 : ok = 4
      · subst k4
        go_wp2
        go_ret
        exact ⟨rfl, HB.out⟩
      have HKN := Lib.hid (HKK.out k4)
      have u4 : (ok == 4) = false := by simpa using k4
      clear k4 HKK HKD
      have hk5 : (0 : Int) ≤ k := by omega
      have hkl5 : (k : Int) < l.length := by omega
      have hlen : (l.take k).length = k := by simp; omega
      have HLEN := Lib.hid hlen
      clear hlen
      go_upto_region 14 with fail
      go_region_law ((refine step_push _ (by rfl) _ _ 26 (by rfl) Enc.op (fun b => b < w.heap.size) (s1 + 3) 43 i0 _ 64 Tryz.underlying26 hi hz0 hz1 hz2 (by rfl) (by decide) (by decide) _ _ (by rfl) (HR.out.ext (by ((repeat' (first | exact Below.refl _ _ | refine below_drewN ?_ _ | refine Below.drew ?_ | refine Below.alloc ?_ ?_ _ | refine Below.trans ?_ (Below.mono (by assumption) ?_))); all_goals (first | exact Nat.le_refl _ | exact Below.size (by assumption) | omega | (simp; done) | (simp; omega))))) wr.heap.size [.int .i64 ok, .int .i64 oo, .int .i64 on, .string onm, .slice xa opd.length xc] 43 ⟨ok, oo, on, onm, opd⟩ (by rfl) (heap_alloc_new wr _) ⟨_, rfl, RB.ext HX.out (by ((repeat' (first | exact Below.refl _ _ | refine below_drewN ?_ _ | refine Below.drew ?_ | refine Below.alloc ?_ ?_ _ | refine Below.trans ?_ (Below.mono (by assumption) ?_))); all_goals (first | exact Nat.le_refl _ | exact Below.size (by assumption) | omega | (simp; done) | (simp; omega))))⟩ (by rw [HLEN.out]; omega) (by simp; omega) (fun b hb => by omega) ?_; intro g cap w5 hrow hgrow hbel hat; have hT5 := (hbel.block (s1 + 2) (by omega)).trans ((Below.heap_alloc _ _ _ hszr).trans HT.out); obtain ⟨⟨t0', g0'⟩, ⟨t1', g1'⟩⟩ := cc2 hT5))
      all_goals
        have HR5 : Hid (EnRow Enc.op 43 (fun b => b < w.heap.size) (s1 + 3) w5 (.slice (some ⟨g, 0, none⟩) (k + 1) cap) (l.take (k + 1))) := Lib.hid (by
          have h := hrow
          rw [HLEN.out] at h
          rw [HTK.out]
          exact h)
        have HP5 := Lib.hid ((hbel.block w.heap.size (by omega)).trans ((Below.heap_alloc _ _ _ (show w.heap.size < wr.heap.size by omega)).trans HP.out))
        have HN5 := Lib.hid ((hbel.block s1 (by omega)).trans ((Below.heap_alloc _ _ _ (show s1 < wr.heap.size by omega)).trans HN.out))
        have HM5 := Lib.hid ((hbel.block (s1 + 1) (by omega)).trans ((Below.heap_alloc _ _ _ (show s1 + 1 < wr.heap.size by omega)).trans HMB.out))
        have hBB := HB.out
        have HB5 : Hid (Below w.heap.size w w5) := Lib.hid (Below.trans (by ((repeat' (first | exact Below.refl _ _ | refine below_drewN ?_ _ | refine Below.drew ?_ | refine Below.alloc ?_ ?_ _ | refine Below.trans ?_ (Below.mono (by assumption) ?_))); all_goals (first | exact Nat.le_refl _ | exact Below.size (by assumption) | omega | (simp; done) | (simp; omega)))) (hbel.mono (by omega)))
        have hgn : (Value.slice (some ⟨g, 0, none⟩) (k + 1) cap).ownBlock ≠ some (s1 + 2) := fun e => by
          have e2 : g = s1 + 2 := by simpa [Value.ownBlock] using e
          obtain ⟨_, _, _, h3⟩ := HR5.out.ex
          have := (h3.lt g rfl).1
          omega
        have HG := Lib.hid hgn
        have HT5 := Lib.hid hT5
        clear hrow hgrow hbel hat hT5 t0' g0' t1' g1' hBB hgn
        go_wp2
        go_roundw
        case rel => exact ⟨k + 1, by omega, by go_num, _, _, set2_blk1 HT5.out, EnRow.set HR5.out HG.out (by omega), HKN.out, (Below.heap_setCell _ _ _ _ (show w.heap.size ≠ s1 + 2 by omega)).trans HP5.out, (Below.heap_setCell _ _ _ _ (show s1 ≠ s1 + 2 by omega)).trans HN5.out, (Below.heap_setCell _ _ _ _ (show s1 + 1 ≠ s1 + 2 by omega)).trans HM5.out, HB5.out.setCell (show w.heap.size ≤ s1 + 2 by omega) _⟩
        case measure => simp [intOf]; omega
    · obtain rfl : k = l.length := by omega
      rw [List.take_length] at HR HKD
      have hwl : w.heap.size < s1 := hp1
      go_wp2_with (first | (at_builtin; refine stop_in ?_) | go_in)
      unfold Stop
      refine wpList_appE _ (by rfl) (.tmp 68) (.tmp 69) 26 (by rfl) Enc.op (fun b => b < w.heap.size) (s1 + 3) 43 i0 _ 64 Tryz.underlying26 hi hz0 hz1 hz2 (by rfl) (by decide) (by decide) _ _ (by rfl) HR.out _ m (by rfl) (HM.out.ext HB.out) (by omega) (by omega) (fun b hb => by omega) ?_
      intro v' w5 hrow hbel
      obtain ⟨LM, hLM⟩ : ∃ LM, LM = l ++ m := ⟨_, rfl⟩
      have hLL : LM.length ≤ 12 := by rw [hLM]; simp; omega
      rw [← hLM] at hrow
      obtain ⟨ga, gc, rfl⟩ := hrow.shape
      have HR5 := Lib.hid hrow
      have HP5 := Lib.hid ((hbel.block w.heap.size (by omega)).trans HP.out)
      have HN5 := Lib.hid ((hbel.block s1 (by omega)).trans HN.out)
      have HM5 := Lib.hid ((hbel.block (s1 + 1) (by omega)).trans HMB.out)
      have HT5 := Lib.hid ((hbel.block (s1 + 2) (by omega)).trans HT.out)
      have HB5 : Hid (Below w.heap.size w w5) := Lib.hid (HB.out.trans (hbel.mono (by omega)))
      have hl5 : s1 + 2 < w5.heap.size := (Array.getElem?_eq_some_iff.1 HT5.out).1
      have HLM := Lib.hid hLM
      clear hrow hbel HR HT HP HB HN HMB t0 g0 t1 g1 hLM
      obtain ⟨⟨t0, g0⟩, ⟨t1, g1⟩⟩ := cc2 HT5.out
      go_upto_region 16 with fail
      obtain ⟨w6, hw6⟩ : ∃ w6, w6 = w5.setCell ⟨s1 + 2, 1, none⟩ (.slice ga LM.length gc) := ⟨_, rfl⟩
      rw [← hw6]
      have HS6 : Hid (SlE Enc.op (fun _ => True) w6 (.slice ga LM.length gc) LM) := Lib.hid (by
        rw [hw6]
        refine (EnRow.set HR5.out (fun e => ?_) (by omega)).sle (fun _ _ _ => trivial) (fun _ _ => trivial)
        obtain ⟨_, _, _, h3⟩ := HR5.out.ex
        have := (h3.lt _ e).1
        omega)
      have HT6 := Lib.hid (show w6.heap[s1 + 2]? = some (.cells #[.string ⟨#[120]⟩, .slice ga LM.length gc] 28 (0, 0)) from by rw [hw6]; exact set2_blk1 HT5.out)
      have HP6 := Lib.hid (show w6.heap[w.heap.size]? = some (.cells #[.slice da o.data.length dc, .slice ka o.keys.length kc, .int .i64 o.seq] 25 (0, 0)) from by rw [hw6]; exact (Below.heap_setCell _ _ _ _ (show w.heap.size ≠ s1 + 2 by omega)).trans HP5.out)
      have HN6 := Lib.hid (show w6.heap[s1]? = some (.cells #[.string ⟨#[120]⟩, .slice la l.length lc] 28 (0, 0)) from by rw [hw6]; exact (Below.heap_setCell _ _ _ _ (show s1 ≠ s1 + 2 by omega)).trans HN5.out)
      have HM6 := Lib.hid (show w6.heap[s1 + 1]? = some (.cells #[.string ⟨#[120]⟩, .slice ma m.length mc] 28 (0, 0)) from by rw [hw6]; exact (Below.heap_setCell _ _ _ _ (show s1 + 1 ≠ s1 + 2 by omega)).trans HM5.out)
      have HW6 := Lib.hid (show Below w.heap.size w w6 from by rw [hw6]; exact HB5.out.setCell (show w.heap.size ≤ s1 + 2 by omega) _)
      clear hw6 HR5 HP5 HB5 HN5 HM5 HT5 t0 g0 t1 g1
      obtain ⟨⟨t0, g0⟩, ⟨t1, g1⟩⟩ := cc2 HT6.out
      obtain ⟨y0, e0⟩ := blk_cell (i := 0) (HP6.out)
      obtain ⟨y1, e1⟩ := blk_cell (i := 1) (HP6.out)
      obtain ⟨y2, e2⟩ := blk_cell (i := 2) (HP6.out)
      simp at y0 y1 y2
      have hfew := few9_any A (fun _ => True) _ (.slice ga LM.length gc) o ⟨⟨#[120]⟩, LM⟩ w6 (HA.out.ext HW6.out) HS6.out
      have HFW := Lib.hid hfew
      clear hfew
      go_wp2_with fail
      refine HFW.out.mono ?_
      rintro e w7 ⟨p7, rfl, hf7, hb7⟩
      have HF7 := Lib.hid hf7
      have HS7 := Lib.hid (HS6.out.ext hb7)
      have HT7 := Lib.hid (dblk hb7 HT6.out)
      have HP7 := Lib.hid (dblk hb7 HP6.out)
      have HN7 := Lib.hid (dblk hb7 HN6.out)
      have HM7 := Lib.hid (dblk hb7 HM6.out)
      have HW7 := Lib.hid (dcall HW6.out hb7)
      clear hf7 hb7 HS6 HT6 HP6 HN6 HM6 HW6 HFW t0 g0 t1 g1 y0 y1 y2 e0 e1 e2
      rcases p7 with _ | _
      · go_wp2
        go_ret
        exact ⟨rfl, HW7.out⟩
      have HFP := Lib.hid (HF7.out rfl)
      have hko : o.keys.length ≤ 200 := HFP.out.keys
      have HDL : Hid (∀ x ∈ l, x.data.length ≤ 50000) := Lib.hid fun x hx => HFP.out.dat x (by show x ∈ LM; rw [HLM.out]; exact List.mem_append_left _ hx)
      have HDM : Hid (∀ x ∈ m, x.data.length ≤ 50000) := Lib.hid fun x hx => HFP.out.dat x (by show x ∈ LM; rw [HLM.out]; exact List.mem_append_right _ hx)
      have tb : (txDo o true ⟨⟨#[120]⟩, l⟩).e ≠ 0 → ∃ E : Int, E ≠ 0 ∧ txDo o true ⟨⟨#[120]⟩, LM⟩ = TDoR.no E := fun h => by have hll := hLL; rw [HLM.out] at hll ⊢; exact txAll_bad HKD.out hll h
      have tg : (txDo o true ⟨⟨#[120]⟩, l⟩).e = 0 → txDo o true ⟨⟨#[120]⟩, LM⟩ = txDo (txDo o true ⟨⟨#[120]⟩, l⟩).o (txDo o true ⟨⟨#[120]⟩, l⟩).there ⟨⟨#[120]⟩, m⟩ := fun h => by have hll := hLL; rw [HLM.out] at hll ⊢; exact txAll_ok HKD.out hll h
      have gd : (txDo o true ⟨⟨#[120]⟩, l⟩).e = 0 → mayB (txDo o true ⟨⟨#[120]⟩, l⟩).o = true := fun h => (txDo_good h).1
      have hkk := txDo_keys o true ⟨⟨#[120]⟩, LM⟩
      have hd1 := fun v va W h1 h2 h3 => tdo_any A (fun b => b < w.heap.size) v va o true ⟨⟨#[120]⟩, l⟩ W h1 HFP.out.okl h2 HDL.out h3
      have hd2 := fun v va W h1 h2 h3 => tdo_any A (fun _ => True) v va o true ⟨⟨#[120]⟩, LM⟩ W h1 HFP.out.okl h2 HFP.out.dat h3
      have hd3 : ∀ v va W, (txDo o true ⟨⟨#[120]⟩, l⟩).e = 0 → ObV (fun _ => True) W v (txDo o true ⟨⟨#[120]⟩, l⟩).o → SlE Enc.op (fun b => b < w.heap.size) W va m → ErrT W →
          Calls Tryz.prog 11 #[v, .bool (txDo o true ⟨⟨#[120]⟩, l⟩).there, .agg #[.string ⟨#[120]⟩, va]] W (TDoOut (txDo (txDo o true ⟨⟨#[120]⟩, l⟩).o (txDo o true ⟨⟨#[120]⟩, l⟩).there ⟨⟨#[120]⟩, m⟩) W) :=
        fun v va W h0 h1 h2 h3 => tdo_any (fun _ => True) (fun b => b < w.heap.size) v va _ _ ⟨⟨#[120]⟩, m⟩ W h1 (okl_of (gd h0)) h2 HDM.out h3
      generalize hXX : txDo o true ⟨⟨#[120]⟩, l⟩ = X at hd1 hd3 tb tg gd
      generalize hYY : txDo o true ⟨⟨#[120]⟩, LM⟩ = Y at hd2 tb tg hkk
      have HD1 := Lib.hid hd1
      have HD2 := Lib.hid hd2
      have HD3 := Lib.hid hd3
      have HTB := Lib.hid tb
      have HTG := Lib.hid tg
      have HKK := Lib.hid hkk
      clear hd1 hd2 hd3 hXX hYY tb tg gd hkk
      obtain ⟨xo, xt, xe⟩ := X
      simp only at HTB HTG HD3
      obtain ⟨y0, e0⟩ := blk_cell (i := 0) (HP7.out)
      obtain ⟨y1, e1⟩ := blk_cell (i := 1) (HP7.out)
      obtain ⟨y2, e2⟩ := blk_cell (i := 2) (HP7.out)
      simp at y0 y1 y2
      obtain ⟨⟨t0, g0⟩, ⟨t1, g1⟩⟩ := cc2 HN7.out
      go_wp2_with fail
      refine (HD1.out _ _ _ (HA.out.ext HW7.out) (HS.out.ext HW7.out) (HE.out.ext HW7.out)).mono ?_
      intro e w8 h8
      obtain ⟨a8, c8, u8, q8, rfl, hv8, hb8⟩ := h8.ways
      have HV8 : Hid (ObV (fun _ => True) w8 (.agg #[.slice a8 xo.data.length c8, .slice u8 xo.keys.length q8, .int .i64 xo.seq]) xo) := Lib.hid (hv8.obv.weak fun _ _ _ => trivial)
      have HS8 := Lib.hid (HS7.out.ext hb8)
      have HT8 := Lib.hid (dblk hb8 HT7.out)
      have HP8 := Lib.hid (dblk hb8 HP7.out)
      have HM8 := Lib.hid (dblk hb8 HM7.out)
      have HW8 := Lib.hid (dcall HW7.out hb8)
      clear h8 hv8 hb8 HS7 HT7 HP7 HN7 HM7 HW7 HD1 t0 g0 t1 g1 y0 y1 y2 e0 e1 e2
      go_upto_region 20 with fail
      obtain ⟨w9, hw9⟩ : ∃ w9, w9 = w8.alloc (.cells #[.slice a8 xo.data.length c8, .slice u8 xo.keys.length q8, .int .i64 xo.seq] 25) := ⟨_, rfl⟩
      rw [← hw9]
      have hb9 : Below w8.heap.size w8 w9 := by rw [hw9]; ((repeat' (first | exact Below.refl _ _ | refine below_drewN ?_ _ | refine Below.drew ?_ | refine Below.alloc ?_ ?_ _ | refine Below.trans ?_ (Below.mono (by assumption) ?_))); all_goals (first | exact Nat.le_refl _ | exact Below.size (by assumption) | omega | (simp; done) | (simp; omega)))
      have HQ9 := Lib.hid (show w9.heap[w8.heap.size]? = some (.cells #[.slice a8 xo.data.length c8, .slice u8 xo.keys.length q8, .int .i64 xo.seq] 25 (0, 0)) from by rw [hw9]; exact heap_alloc_new _ _)
      have HV9 := Lib.hid (HV8.out.ext hb9)
      have HS9 := Lib.hid (HS8.out.ext hb9)
      have HT9 := Lib.hid (dblk hb9 HT8.out)
      have HP9 := Lib.hid (dblk hb9 HP8.out)
      have HM9 := Lib.hid (dblk hb9 HM8.out)
      have HW9 := Lib.hid (dcall HW8.out hb9)
      clear hw9 hb9 HV8 HS8 HT8 HP8 HM8 HW8
      obtain ⟨⟨t0, g0⟩, ⟨t1, g1⟩⟩ := cc2 HT9.out
      obtain ⟨y0, e0⟩ := blk_cell (i := 0) (HP9.out)
      obtain ⟨y1, e1⟩ := blk_cell (i := 1) (HP9.out)
      obtain ⟨y2, e2⟩ := blk_cell (i := 2) (HP9.out)
      simp at y0 y1 y2
      go_wp2_with fail
      refine (HD2.out _ _ _ (HA.out.ext HW9.out) HS9.out (HE.out.ext HW9.out)).mono ?_
      intro e wA hA
      obtain ⟨aA, cA, uA, qA, rfl, hvA, hbA⟩ := hA.ways
      have HVA := Lib.hid (hvA.obv.weak (A' := fun _ => True) fun _ _ _ => trivial)
      have HUA := Lib.hid (HV9.out.ext hbA)
      have HQA := Lib.hid (dblk hbA HQ9.out)
      have HMA := Lib.hid (dblk hbA HM9.out)
      have HWA := Lib.hid (dcall HW9.out hbA)
      clear hA hvA hbA HV9 HS9 HT9 HQ9 HP9 HM9 HW9 HD2 t0 g0 t1 g1 y0 y1 y2 e0 e1 e2
      by_cases hxe : xe = 0
      · subst hxe
        have HYX : Hid (Y = txDo xo xt ⟨⟨#[120]⟩, m⟩) := Lib.hid (HTG.out rfl)
        have HD4 : Hid (∀ v va W, ObV (fun _ => True) W v xo → SlE Enc.op (fun b => b < w.heap.size) W va m → ErrT W → Calls Tryz.prog 11 #[v, .bool xt, .agg #[.string ⟨#[120]⟩, va]] W (TDoOut Y W)) := Lib.hid fun v va W h1 h2 h3 => by rw [HYX.out]; exact HD3.out v va W rfl h1 h2 h3
        clear HYX HD3 HTB HTG
        obtain ⟨yo, yt, ye⟩ := Y
        go_upto_region 21 with fail
        obtain ⟨wB, hwB⟩ : ∃ wB, wB = wA.alloc (.cells #[.slice aA yo.data.length cA, .slice uA yo.keys.length qA, .int .i64 yo.seq] 25) := ⟨_, rfl⟩
        rw [← hwB]
        have hbB : Below wA.heap.size wA wB := by rw [hwB]; ((repeat' (first | exact Below.refl _ _ | refine below_drewN ?_ _ | refine Below.drew ?_ | refine Below.alloc ?_ ?_ _ | refine Below.trans ?_ (Below.mono (by assumption) ?_))); all_goals (first | exact Nat.le_refl _ | exact Below.size (by assumption) | omega | (simp; done) | (simp; omega)))
        have HRB := Lib.hid (show wB.heap[wA.heap.size]? = some (.cells #[.slice aA yo.data.length cA, .slice uA yo.keys.length qA, .int .i64 yo.seq] 25 (0, 0)) from by rw [hwB]; exact heap_alloc_new _ _)
        have HVB := Lib.hid (HVA.out.ext hbB)
        have HUB := Lib.hid (HUA.out.ext hbB)
        have HQB := Lib.hid (dblk hbB HQA.out)
        have HMB := Lib.hid (dblk hbB HMA.out)
        have HWB := Lib.hid (dcall HWA.out hbB)
        clear hwB hbB HVA HUA HQA HMA HWA
        obtain ⟨x0, f0⟩ := blk_cell (i := 0) (HQB.out)
        obtain ⟨x1, f1⟩ := blk_cell (i := 1) (HQB.out)
        obtain ⟨x2, f2⟩ := blk_cell (i := 2) (HQB.out)
        simp at x0 x1 x2
        obtain ⟨⟨t0, g0⟩, ⟨t1, g1⟩⟩ := cc2 HMB.out
        go_wp2_with fail
        refine (HD4.out _ _ _ HUB.out (HM.out.ext HWB.out) (HE.out.ext HWB.out)).mono ?_
        intro e wC hC
        obtain ⟨aC, cC, uC, qC, rfl, hvC, hbC⟩ := hC.ways
        have HVC : Hid (ObV (fun _ => True) wC (.agg #[.slice aC yo.data.length cC, .slice uC yo.keys.length qC, .int .i64 yo.seq]) yo) := Lib.hid (hvC.obv.weak fun _ _ _ => trivial)
        have HUC := Lib.hid (HVB.out.ext hbC)
        have HRC := Lib.hid (dblk hbC HRB.out)
        have HWC := Lib.hid (dcall HWB.out hbC)
        clear hC hvC hbC HVB HUB HRB HQB HMB HWB HD4 t0 g0 t1 g1 x0 x1 x2 f0 f1 f2
        go_upto_region 24 with fail
        obtain ⟨wD, hwD⟩ : ∃ wD, wD = wC.alloc (.cells #[.slice aC yo.data.length cC, .slice uC yo.keys.length qC, .int .i64 yo.seq] 25) := ⟨_, rfl⟩
        rw [← hwD]
        have hbD : Below wC.heap.size wC wD := by rw [hwD]; ((repeat' (first | exact Below.refl _ _ | refine below_drewN ?_ _ | refine Below.drew ?_ | refine Below.alloc ?_ ?_ _ | refine Below.trans ?_ (Below.mono (by assumption) ?_))); all_goals (first | exact Nat.le_refl _ | exact Below.size (by assumption) | omega | (simp; done) | (simp; omega)))
        have HZD := Lib.hid (show wD.heap[wC.heap.size]? = some (.cells #[.slice aC yo.data.length cC, .slice uC yo.keys.length qC, .int .i64 yo.seq] 25 (0, 0)) from by rw [hwD]; exact heap_alloc_new _ _)
        have HVD := Lib.hid (HVC.out.ext hbD)
        have HUD := Lib.hid (HUC.out.ext hbD)
        have HRD := Lib.hid (dblk hbD HRC.out)
        have HWD := Lib.hid (dcall HWC.out hbD)
        clear hwD hbD HVC HUC HRC HWC
        obtain ⟨x0, f0⟩ := blk_cell (i := 0) (HRD.out)
        obtain ⟨x1, f1⟩ := blk_cell (i := 1) (HRD.out)
        obtain ⟨x2, f2⟩ := blk_cell (i := 2) (HRD.out)
        simp at x0 x1 x2
        obtain ⟨z0, k0⟩ := blk_cell (i := 0) (HZD.out)
        obtain ⟨z1, k1⟩ := blk_cell (i := 1) (HZD.out)
        obtain ⟨z2, k2⟩ := blk_cell (i := 2) (HZD.out)
        simp at z0 z1 z2
        have hsm := rsame_any _ _ yo yo _ _ wD HUD.out HVD.out (Nat.le_trans HKK.out (by decide)) (Nat.le_trans HKK.out (by decide))
        rw [sameB_self] at hsm
        have HSM := Lib.hid hsm
        have v1 : (ye == ye) = true := by simp
        have v2 : (yt == yt) = true := by simp
        clear hsm
        go_wp2_with fail
        refine HSM.out.mono ?_
        rintro e wE ⟨rfl, hbE⟩
        have HWE := Lib.hid (dcall HWD.out hbE)
        clear hbE
        go_wp2
        go_ret
        exact ⟨rfl, HWE.out⟩
      · obtain ⟨E, hE0, rfl⟩ := HTB.out hxe
        have v0 : (E != 0) = true := by simpa using hE0
        have v1 : (E == 0) = false := by simpa using hE0
        have v2 : (xe != 0) = true := by simpa using hxe
        have v3 : (xe == 0) = false := by simpa using hxe
        have hva := HVA.out
        simp only [TDoR.no, ObD.none, List.length_nil] at hva ⊢
        have HVE := Lib.hid hva
        clear HTB HTG HD3 hE0 hxe hva HVA HKK
        go_wp2_with fail
        refine (rsame_any _ (fun _ => True) ⟨[], [], 0⟩ ⟨[], [], 0⟩ _ _ _ (HVE.out.ext ((Below.refl _ _).alloc (Nat.le_refl _) _)) (obv_none _ _) (by simp) (by simp)).mono ?_
        rw [sameB_self]
        rintro e wB ⟨rfl, hbB⟩
        have HWB := Lib.hid (dcall (dcall HWA.out ((Below.refl _ _).alloc (Nat.le_refl _) _)) hbB)
        clear hbB
        go_wp2
        go_ret
        exact ⟨rfl, HWB.out⟩
end Go.Proofs.YtgdilkhaopnhaaaGreatDoor
