/- The walk of terrazzolaw16.RpcCaches. -/
import Derived.Test.YtidikciankcopaaDoorRel16
import Derived.Test.YtidikciankcopaaDoorSameR
import Derived.Test.YtidikciankcopaaDoorAwk16
import Derived.Test.YtidikciankcopaaDoorMask16
import Derived.Deep.DeepCutAuto
namespace Go.Proofs.YtidikciankcopaaDoor
open Go.RowKit Go.WideShapes

theorem lookD_len {o : Option RpD} (h : ∀ r, o = some r → r.obj.okl) (x y : Int) : (lookD o x y).obj.keys.length ≤ 100000 := by
  unfold lookD
  split
  · cases o with
    | none => simp [RpD.none, ObD.none]
    | some r => have := (h r rfl).keys; simp; omega
  · simp [RpD.none, ObD.none]
/-- what stays true of a cache and the reference's row -/
structure CaR (w wr : World) (p : Nat) (v : Value) (f : Nat → Option RpD) (l : List RpD) (k : Nat) : Prop where
  is : IsC p wr p f
  row : SlE Enc.rp (fun x => x ≠ p) wr v l
  len : l.length ≤ k
  rel : Rel f l
  okl : ∀ i r, f i = some r → r.obj.okl
  below : Below w.heap.size w wr
  old : w.heap.size ≤ p
theorem CaR.ext {w wr W : World} {p : Nat} {v : Value} {f : Nat → Option RpD} {l : List RpD} {k : Nat} (h : CaR w wr p v f l k) (hb : Below wr.heap.size wr W) : CaR w W p v f l k := ⟨h.is.ext hb, h.row.ext hb, h.len, h.rel, h.okl, below_call h.below hb, h.old⟩
theorem CaR.more {w wr : World} {p : Nat} {v : Value} {f : Nat → Option RpD} {l : List RpD} {k : Nat} (h : CaR w wr p v f l k) : CaR w wr p v f l (k + 1) := ⟨h.is, h.row, by have := h.len; omega, h.rel, h.okl, h.below, h.old⟩
set_option maxRecDepth 100000 in
set_option maxHeartbeats 16000000 in
theorem caches_law (a : Option Addr) (n cp : Nat) (acts : List ActD) (w : World) (hT : TabW w) (hg0 : 0 < w.heap.size) (hs : SlE Enc.act (Hp w) w (.slice a n cp) acts) :
    Calls Tryd.prog 5 #[.slice a n cp] w (Yes w) := by
  obtain ⟨rfl, hcp⟩ := hs.len_le
  have HS := Lib.hid hs
  have HT := Lib.hid hT
  have HG := Lib.hid hg0
  clear hs hT hg0
  go_enter Tryd.func5, Tryd.ntmps5
  go_wp2_with fail
  refine (awake_any _ HT.out HG.out).mono ?_
  rintro e w1 ⟨rfl, hb1⟩
  have HW1 := Lib.hid hb1
  have hs1 := hb1.size
  clear hb1 HT HG
  go_wp2_with fail
  refine (cache_new _).mono ?_
  rintro e w2 ⟨rfl, hc2, hb2⟩
  have hR : CaR w w2 w1.heap.size (.slice none 0 0) (fun _ => none) [] 0 := ⟨hc2, SlE.nil _ _ _, Nat.le_refl _, Rel.nil, (fun i r h => by cases h), below_call HW1.out hb2, hs1⟩
  have HR := Lib.hid hR
  clear hR hc2 hb2 HW1
  go_wp2
  go_loopw [5, 6] (fun q5 q6 wr => ∃ (k : Nat) (f : Nat → Option RpD) (l : List RpD), k ≤ acts.length ∧ k ≤ 40 ∧ q6 = .int .i64 k ∧ CaR w wr w1.heap.size q5 f l k) (fun _ q6 _ => acts.length - (intOf q6).toNat)
  case atStart => exact ⟨0, _, _, by omega, by omega, rfl, HR.out⟩
  case round =>
    obtain ⟨k, f, l, hk, hk40, rfl, hr⟩ := hrel
    have HRR := Lib.hid hr
    have HWR := Lib.hid hr.below
    have hsr := hr.below.size
    obtain ⟨va, vc, rfl⟩ := hr.row.shape
    clear hr HR
    by_cases hlt : k < acts.length
    · by_cases hlt40 : k < 40
      · obtain ⟨b, off, oa, oc, da, dc, ka, kc, rfl, hb, ho, hd, hkk, hone, hc⟩ := Acts.at (HS.out.ext HWR.out) hlt
        have HO := Lib.hid ho
        have HD := Lib.hid hd
        have HK := Lib.hid hkk
        generalize acts[k] = act at *
        obtain ⟨kd, ⟨qc, ql, qs', qk, qi, qw, qn, ⟨qo, qops⟩⟩, ⟨pc, pl, ps, pe, pn, px, pt, ⟨pd, pk, po⟩⟩, tk⟩ := act
        simp only at hc ho hd hkk hone
        have HONE := Lib.hid hone
        have hL : wr.rangeAt b (off + k * 21) [.int .i64 kd, .int .i64 qc, .int .i64 ql, .int .i64 qs', .int .i64 qk, .int .i64 qi, .int .i64 qw, .int .i64 qn, .string qo, .slice oa qops.length oc, .int .i64 pc, .int .i64 pl, .int .i64 ps, .int .i64 pe, .int .i64 pn, .int .i64 px, .bool pt, .slice da pd.length dc, .slice ka pk.length kc, .int .i64 po, .int .i64 tk] := fun j v hv => (hc j (List.getElem?_eq_some_iff.1 hv).1).trans hv
        have HL := Lib.hid hL
        clear hL
        clear hc ho hd hkk hone
        go_wp2_with (first
          | ((with_reducible refine wpList_load_mid rfl 41 (.tmp 32) rfl b (off + k * 21) ?hx1 _ _ HL.out Tryd.underlying41 ?hd1 ?hi1 ?_); (case hx1 => rfl); (case hd1 => rfl); (case hi1 => kernel_rfl); simp only [Act.put, List.setIfInBounds_toArray, List.set_cons_zero, List.set_cons_succ])
          | ((with_reducible refine wpList_store_new rfl 41 (.tmp 7) (.tmp 33) rfl #[.int .i64 kd, .int .i64 qc, .int .i64 ql, .int .i64 qs', .int .i64 qk, .int .i64 qi, .int .i64 qw, .int .i64 qn, .string qo, .slice oa qops.length oc, .int .i64 pc, .int .i64 pl, .int .i64 ps, .int .i64 pe, .int .i64 pn, .int .i64 px, .bool pt, .slice da pd.length dc, .slice ka pk.length kc, .int .i64 po, .int .i64 tk] ?hx2 ?hy2 ?hn2 ?hi2 ?h12 ?_); (case hx2 => rfl); (case hy2 => rfl); (case hn2 => rfl); (case hi2 => kernel_rfl); (case h12 => exact all_oneCell_toArray HONE.out); simp only [Act.put, List.setIfInBounds_toArray, List.set_cons_zero, List.set_cons_succ]))
        refine (thin_any (Hp w) ⟨pd, pk, po⟩ _ _ _ (HD.out.ext (below_new (Below.refl _ _) _)) (HK.out.ext (below_new (Below.refl _ _) _))).mono ?_
        rintro e w4 ⟨fl, rfl, hthin, hb4⟩
        have A4 := Lib.hid (blkk hb4 (heap_alloc_new wr _))
        have hb4' : Below wr.heap.size wr w4 := below_call (below_new (Below.refl _ _) _) hb4
        have hs4 := hb4'.size
        have HB4 := Lib.hid hb4'
        clear hb4 hb4'
        rcases fl with _ | _
        · clear hthin
          go_wp2
          go_ret
          exact ⟨rfl, below_call HWR.out HB4.out⟩
        have HF := Lib.hid (hthin rfl)
        have HR4 := Lib.hid (HRR.out.ext HB4.out)
        have HD4 := Lib.hid (HD.out.ext HB4.out)
        have HK4 := Lib.hid (HK.out.ext HB4.out)
        have hp4 := HR4.out.is.lt
        have hal : wr.heap.size < w4.heap.size := (Array.getElem?_eq_some_iff.1 A4.out).1
        have hpr := HRR.out.is.lt
        clear hthin
        obtain ⟨y0, -⟩ := blk_cell (i := 0) A4.out
        simp at y0
        obtain ⟨kk, hkk2, hkk⟩ := and1 kd
        go_upto_if 43 with fail
        go_cut [5] (fun s5 wx => ∃ (f' : Nat → Option RpD) (l' : List RpD), CaR w wx w1.heap.size s5 f' l' (k + 1) ∧ wx.heap[wr.heap.size]? = some (.cells #[.int .i64 kd, .int .i64 qc, .int .i64 ql, .int .i64 qs', .int .i64 qk, .int .i64 qi, .int .i64 qw, .int .i64 qn, .string qo, .slice oa qops.length oc, .int .i64 pc, .int .i64 pl, .int .i64 ps, .int .i64 pe, .int .i64 pn, .int .i64 px, .bool pt, .slice da pd.length dc, .slice ka pk.length kc, .int .i64 po, .int .i64 tk] 41 (0, 0)))
        case first =>
          rcases Nat.eq_zero_or_pos kk with rfl | hkp
          · by_cases hcl : 0 ≤ pc ∧ pc ≤ 7
            · obtain ⟨i, hi8, hpi⟩ := nat_of_range hcl
              have HPI := Lib.hid hpi
              have HCL := Lib.hid hcl
              clear hpi hcl
              by_cases hN : lookN (f i) pl ps = 0
              · as_aux_lemma =>
                  have HN := Lib.hid hN
                  clear hN
                  obtain ⟨r10, -⟩ := blk_cell (i := 10) A4.out
                  obtain ⟨r11, -⟩ := blk_cell (i := 11) A4.out
                  obtain ⟨r12, -⟩ := blk_cell (i := 12) A4.out
                  obtain ⟨r13, -⟩ := blk_cell (i := 13) A4.out
                  obtain ⟨r14, -⟩ := blk_cell (i := 14) A4.out
                  obtain ⟨r15, -⟩ := blk_cell (i := 15) A4.out
                  obtain ⟨r16, -⟩ := blk_cell (i := 16) A4.out
                  obtain ⟨r17, -⟩ := blk_cell (i := 17) A4.out
                  obtain ⟨r18, -⟩ := blk_cell (i := 18) A4.out
                  obtain ⟨r19, -⟩ := blk_cell (i := 19) A4.out
                  simp at r10 r11 r12 r13 r14 r15 r16 r17 r18 r19
                  go_wp2_with fail
                  refine (keep_yes (Hp w) w1.heap.size _ w1.heap.size i f ⟨pc, pl, ps, pe, pn, px, pt, ⟨pd, pk, po⟩⟩ _ ⟨_, _, rfl, HD4.out, HK4.out⟩ (thin_okl HF.out) HR4.out.is hi8 HPI.out (fun r h => HR4.out.okl i r h) HN.out).mono ?_
                  rintro e w5 ⟨rfl, hc5, fr5⟩
                  have hs5 := fr5.size
                  have A5 := Lib.hid ((fr5.block wr.heap.size (by omega) (by show ¬ (wr.heap.size = w1.heap.size); omega)).trans A4.out)
                  have HV5 : Hid (SlE Enc.rp (fun x => x ≠ w1.heap.size) w5 (.slice va l.length vc) l) := HR4.out.row.mono (Same.of_fr fr5 fun x hx _ e => hx e)
                  have HD5 : Hid (RB (fun x => x ≠ w1.heap.size) w5 (.slice da pd.length dc) pd) := (HD4.out.weak fun x _ h e => by subst e; have h : w1.heap.size < w.heap.size := h; have := HRR.out.old; omega).mono (Same.of_fr fr5 fun x hx _ e => hx e)
                  have HK5 : Hid (SlE Enc.key (fun x => x ≠ w1.heap.size) w5 (.slice ka pk.length kc) pk) := (HK4.out.weak fun x _ h e => by subst e; have h : w1.heap.size < w.heap.size := h; have := HRR.out.old; omega).mono (Same.of_fr fr5 fun x hx _ e => hx e)
                  have HC5 := Lib.hid hc5
                  have HW5 : Hid (Below w.heap.size w w5) := HR4.out.below.trans (fr5.below (by have := HR4.out.below.size; omega) fun j hj e => by have e : j = w1.heap.size := e; have := HRR.out.old; omega)
                  clear hc5 fr5 r10 r11 r12 r13 r14 r15 r16 r17 r18 r19
                  obtain ⟨r10, -⟩ := blk_cell (i := 10) A5.out
                  obtain ⟨r11, -⟩ := blk_cell (i := 11) A5.out
                  obtain ⟨r12, -⟩ := blk_cell (i := 12) A5.out
                  obtain ⟨r13, -⟩ := blk_cell (i := 13) A5.out
                  obtain ⟨r14, -⟩ := blk_cell (i := 14) A5.out
                  obtain ⟨r15, -⟩ := blk_cell (i := 15) A5.out
                  obtain ⟨r16, -⟩ := blk_cell (i := 16) A5.out
                  obtain ⟨r17, -⟩ := blk_cell (i := 17) A5.out
                  obtain ⟨r18, -⟩ := blk_cell (i := 18) A5.out
                  obtain ⟨r19, -⟩ := blk_cell (i := 19) A5.out
                  simp at r10 r11 r12 r13 r14 r15 r16 r17 r18 r19
                  have la5 := (Array.getElem?_eq_some_iff.1 A5.out).1
                  go_wp2_with fail
                  refine (rkeep_any (fun x => x ≠ w1.heap.size) l va l.length vc ⟨pc, pl, ps, pe, pn, px, pt, ⟨pd, pk, po⟩⟩ da pd.length dc ka pk.length kc _ HCL.out HV5.out (by have := HR4.out.len; omega) HD5.out HK5.out (fun x hx e => by omega)).mono ?_
                  rintro e w6 ⟨bb, v6, rfl, hb6, hor⟩
                  have A6 := Lib.hid (blkk hb6 A5.out)
                  rcases hor with ⟨rfl, rfl, hbad⟩ | ⟨rfl, hnb, hrow⟩
                  · exact absurd HN.out ((rel_bad HR4.out.rel ⟨pc, pl, ps, pe, pn, px, pt, ⟨pd, pk, po⟩⟩ i hi8 HPI.out).1 hbad)
                  have hR6 : CaR w w6 w1.heap.size v6 (fun j => if j = i then some ⟨pc, pl, ps, pe, pn, px, pt, ⟨pd, pk, po⟩⟩ else f j) (others ⟨pc, pl, ps, pe, pn, px, pt, ⟨pd, pk, po⟩⟩ l ++ [⟨pc, pl, ps, pe, pn, px, pt, ⟨pd, pk, po⟩⟩]) (k + 1) := by
                    refine ⟨HC5.out.ext hb6, hrow, Nat.le_trans (others_len _ _) (by have := HR4.out.len; omega), rel_put HR4.out.rel _ i hi8 HPI.out, fun j r h => ?_, below_call HW5.out hb6, HR4.out.old⟩
                    by_cases e : j = i
                    · rw [if_pos e] at h
                      cases h
                      exact thin_okl HF.out
                    · rw [if_neg e] at h
                      exact HR4.out.okl j r h
                  have HR6 := Lib.hid hR6
                  clear hR6 hnb hrow hb6 HC5 HW5 HV5 HD5 HK5 r10 r11 r12 r13 r14 r15 r16 r17 r18 r19
                  go_wp2
                  go_meet
                  exact ⟨_, _, HR6.out, A6.out⟩
              · as_aux_lemma =>
                  have HN := Lib.hid hN
                  clear hN
                  obtain ⟨r10, -⟩ := blk_cell (i := 10) A4.out
                  obtain ⟨r11, -⟩ := blk_cell (i := 11) A4.out
                  obtain ⟨r12, -⟩ := blk_cell (i := 12) A4.out
                  obtain ⟨r13, -⟩ := blk_cell (i := 13) A4.out
                  obtain ⟨r14, -⟩ := blk_cell (i := 14) A4.out
                  obtain ⟨r15, -⟩ := blk_cell (i := 15) A4.out
                  obtain ⟨r16, -⟩ := blk_cell (i := 16) A4.out
                  obtain ⟨r17, -⟩ := blk_cell (i := 17) A4.out
                  obtain ⟨r18, -⟩ := blk_cell (i := 18) A4.out
                  obtain ⟨r19, -⟩ := blk_cell (i := 19) A4.out
                  simp at r10 r11 r12 r13 r14 r15 r16 r17 r18 r19
                  go_wp2_with fail
                  refine (keep_no w1.heap.size _ w1.heap.size i f ⟨pc, pl, ps, pe, pn, px, pt, ⟨pd, pk, po⟩⟩ _ _ rfl rfl HR4.out.is hi8 HPI.out (fun r h => HR4.out.okl i r h) HN.out).mono ?_
                  rintro e w5 ⟨rfl, hb5⟩
                  have A5 := Lib.hid (blkk hb5 A4.out)
                  have HR5 := Lib.hid (HR4.out.ext hb5)
                  have HD5 : Hid (RB (fun x => x ≠ w1.heap.size) w5 (.slice da pd.length dc) pd) := (HD4.out.ext hb5).weak fun x _ h e => by subst e; have h : w1.heap.size < w.heap.size := h; have := HRR.out.old; omega
                  have HK5 : Hid (SlE Enc.key (fun x => x ≠ w1.heap.size) w5 (.slice ka pk.length kc) pk) := (HK4.out.ext hb5).weak fun x _ h e => by subst e; have h : w1.heap.size < w.heap.size := h; have := HRR.out.old; omega
                  have hs5 := hb5.size
                  clear hb5 r10 r11 r12 r13 r14 r15 r16 r17 r18 r19
                  obtain ⟨r10, -⟩ := blk_cell (i := 10) A5.out
                  obtain ⟨r11, -⟩ := blk_cell (i := 11) A5.out
                  obtain ⟨r12, -⟩ := blk_cell (i := 12) A5.out
                  obtain ⟨r13, -⟩ := blk_cell (i := 13) A5.out
                  obtain ⟨r14, -⟩ := blk_cell (i := 14) A5.out
                  obtain ⟨r15, -⟩ := blk_cell (i := 15) A5.out
                  obtain ⟨r16, -⟩ := blk_cell (i := 16) A5.out
                  obtain ⟨r17, -⟩ := blk_cell (i := 17) A5.out
                  obtain ⟨r18, -⟩ := blk_cell (i := 18) A5.out
                  obtain ⟨r19, -⟩ := blk_cell (i := 19) A5.out
                  simp at r10 r11 r12 r13 r14 r15 r16 r17 r18 r19
                  have la5 := (Array.getElem?_eq_some_iff.1 A5.out).1
                  go_wp2_with fail
                  refine (rkeep_any (fun x => x ≠ w1.heap.size) l va l.length vc ⟨pc, pl, ps, pe, pn, px, pt, ⟨pd, pk, po⟩⟩ da pd.length dc ka pk.length kc _ HCL.out HR5.out.row (by have := HR5.out.len; omega) HD5.out HK5.out (fun x hx e => by omega)).mono ?_
                  rintro e w6 ⟨bb, v6, rfl, hb6, hor⟩
                  have A6 := Lib.hid (blkk hb6 A5.out)
                  rcases hor with ⟨rfl, rfl, hbad⟩ | ⟨rfl, hnb, hrow⟩
                  case inr => exact absurd ((rel_bad HR5.out.rel ⟨pc, pl, ps, pe, pn, px, pt, ⟨pd, pk, po⟩⟩ i hi8 HPI.out).2 HN.out) (fun ⟨r, h1, h2⟩ => hnb r h1 h2)
                  have HR6 := Lib.hid (HR5.out.ext hb6).more
                  clear hbad hb6 HD5 HK5 r10 r11 r12 r13 r14 r15 r16 r17 r18 r19
                  go_wp2
                  go_meet
                  exact ⟨_, _, HR6.out, A6.out⟩
            · as_aux_lemma =>
                obtain ⟨r10, -⟩ := blk_cell (i := 10) A4.out
                obtain ⟨r11, -⟩ := blk_cell (i := 11) A4.out
                obtain ⟨r12, -⟩ := blk_cell (i := 12) A4.out
                obtain ⟨r13, -⟩ := blk_cell (i := 13) A4.out
                obtain ⟨r14, -⟩ := blk_cell (i := 14) A4.out
                obtain ⟨r15, -⟩ := blk_cell (i := 15) A4.out
                obtain ⟨r16, -⟩ := blk_cell (i := 16) A4.out
                obtain ⟨r17, -⟩ := blk_cell (i := 17) A4.out
                obtain ⟨r18, -⟩ := blk_cell (i := 18) A4.out
                obtain ⟨r19, -⟩ := blk_cell (i := 19) A4.out
                simp at r10 r11 r12 r13 r14 r15 r16 r17 r18 r19
                go_wp2_with fail
                refine (keep_out _ _ ⟨pc, pl, ps, pe, pn, px, pt, ⟨pd, pk, po⟩⟩ _ _ rfl rfl (.inr hcl)).mono ?_
                rintro e w5 ⟨rfl, hb5⟩
                have A5 := Lib.hid (blkk hb5 A4.out)
                have HR5 := Lib.hid (HR4.out.ext hb5)
                clear hb5 r10 r11 r12 r13 r14 r15 r16 r17 r18 r19
                obtain ⟨r10, -⟩ := blk_cell (i := 10) A5.out
                obtain ⟨r11, -⟩ := blk_cell (i := 11) A5.out
                obtain ⟨r12, -⟩ := blk_cell (i := 12) A5.out
                obtain ⟨r13, -⟩ := blk_cell (i := 13) A5.out
                obtain ⟨r14, -⟩ := blk_cell (i := 14) A5.out
                obtain ⟨r15, -⟩ := blk_cell (i := 15) A5.out
                obtain ⟨r16, -⟩ := blk_cell (i := 16) A5.out
                obtain ⟨r17, -⟩ := blk_cell (i := 17) A5.out
                obtain ⟨r18, -⟩ := blk_cell (i := 18) A5.out
                obtain ⟨r19, -⟩ := blk_cell (i := 19) A5.out
                simp at r10 r11 r12 r13 r14 r15 r16 r17 r18 r19
                have la5 := (Array.getElem?_eq_some_iff.1 A5.out).1
                go_wp2_with fail
                refine (rkeep_out va l.length vc ⟨pc, pl, ps, pe, pn, px, pt, ⟨pd, pk, po⟩⟩ da pd.length dc ka pk.length kc _ hcl).mono ?_
                rintro e w6 ⟨rfl, hb6⟩
                have A6 := Lib.hid (blkk hb6 A5.out)
                have HR6 := Lib.hid (HR5.out.ext hb6).more
                clear hb6 r10 r11 r12 r13 r14 r15 r16 r17 r18 r19
                go_wp2
                go_meet
                exact ⟨_, _, HR6.out, A6.out⟩
          · obtain rfl : kk = 1 := by omega
            go_wp2
            go_meet
            exact ⟨_, _, HR4.out.more, A4.out⟩
        case rest =>
          obtain ⟨f', l', hR, hA⟩ := hcut
          have HX := Lib.hid hR
          have AX := Lib.hid hA
          obtain ⟨va', vc', rfl⟩ := hR.row.shape
          clear hR hA HR4 A4 HB4 HD4 HK4 y0
          by_cases hcl : 0 ≤ qc ∧ qc ≤ 7
          · as_aux_lemma =>
              obtain ⟨i, hi8, hqi⟩ := nat_of_range hcl
              have HQI := Lib.hid hqi
              have HCL := Lib.hid hcl
              clear hqi hcl
              have HRL0 := Lib.hid (rel_look HX.out.rel ⟨qc, ql, qs', qk, qi, qw, qn, ⟨qo, qops⟩⟩ i hi8 HQI.out)
              have HRL : Hid (rl ⟨qc, ql, qs', qk, qi, qw, qn, ⟨qo, qops⟩⟩ l' = (lookN (f' i) ql qs', lookD (f' i) ql qs')) := HRL0.out
              clear HRL0
              obtain ⟨a1, -⟩ := blk_cell (i := 1) AX.out
              obtain ⟨a2, -⟩ := blk_cell (i := 2) AX.out
              obtain ⟨a3, -⟩ := blk_cell (i := 3) AX.out
              obtain ⟨a4, -⟩ := blk_cell (i := 4) AX.out
              obtain ⟨a5, -⟩ := blk_cell (i := 5) AX.out
              obtain ⟨a6, -⟩ := blk_cell (i := 6) AX.out
              obtain ⟨a7, -⟩ := blk_cell (i := 7) AX.out
              obtain ⟨a8, -⟩ := blk_cell (i := 8) AX.out
              obtain ⟨a9, -⟩ := blk_cell (i := 9) AX.out
              simp at a1 a2 a3 a4 a5 a6 a7 a8 a9
              have lax := (Array.getElem?_eq_some_iff.1 AX.out).1
              go_wp2_with fail
              refine (look_any w1.heap.size _ w1.heap.size i f' ⟨qc, ql, qs', qk, qi, qw, qn, ⟨qo, qops⟩⟩ _ rfl HX.out.is hi8 HQI.out (fun r h => HX.out.okl i r h)).mono ?_
              rintro e w5 ⟨v5, rfl, ⟨dv5, kv5, rfl, hd5, hk5⟩, hb5⟩
              have A5 := Lib.hid (blkk hb5 AX.out)
              have HR5 := Lib.hid (HX.out.ext hb5)
              clear hb5 a1 a2 a3 a4 a5 a6 a7 a8 a9
              obtain ⟨da5, dc5, rfl⟩ := hd5.shape
              obtain ⟨ka5, kc5, rfl⟩ := hk5.shape
              have HD5 := Lib.hid hd5
              have HK5 := Lib.hid hk5
              clear hd5 hk5
              simp only at HD5 HK5
              have HLEN := Lib.hid (lookD_len (o := f' i) (fun r h => HX.out.okl i r h) ql qs')
              simp only
              generalize lookD (f' i) ql qs' = D at *
              generalize lookN (f' i) ql qs' = m at *
              simp only [rpV]
              obtain ⟨a1, -⟩ := blk_cell (i := 1) A5.out
              obtain ⟨a2, -⟩ := blk_cell (i := 2) A5.out
              obtain ⟨a3, -⟩ := blk_cell (i := 3) A5.out
              obtain ⟨a4, -⟩ := blk_cell (i := 4) A5.out
              obtain ⟨a5, -⟩ := blk_cell (i := 5) A5.out
              obtain ⟨a6, -⟩ := blk_cell (i := 6) A5.out
              obtain ⟨a7, -⟩ := blk_cell (i := 7) A5.out
              obtain ⟨a8, -⟩ := blk_cell (i := 8) A5.out
              obtain ⟨a9, -⟩ := blk_cell (i := 9) A5.out
              simp at a1 a2 a3 a4 a5 a6 a7 a8 a9
              have la5 := (Array.getElem?_eq_some_iff.1 A5.out).1
              go_wp2_with fail
              refine (rlook_any (fun x => x ≠ w1.heap.size) l' va' l'.length vc' ⟨qc, ql, qs', qk, qi, qw, qn, ⟨qo, qops⟩⟩ oa qops.length oc _ HCL.out (HR5.out.row.ext (below_new (Below.refl _ _) _)) (by have := HR5.out.len; omega)).mono ?_
              rintro e w6 ⟨v6, rfl, ⟨dv6, kv6, rfl, hd6, hk6⟩, hb6⟩
              obtain ⟨da6, dc6, rfl⟩ := hd6.shape
              obtain ⟨ka6, kc6, rfl⟩ := hk6.shape
              have HD6 := Lib.hid hd6
              have HK6 := Lib.hid hk6
              have HR6 := Lib.hid ((HR5.out.ext (below_new (Below.refl _ _) _)).ext hb6)
              have N6 := Lib.hid (blkk hb6 (heap_alloc_new w5 _))
              have hb56 : Below w5.heap.size w5 w6 := below_call (below_new (Below.refl _ _) _) hb6
              have HB56 := Lib.hid hb56
              have ln6 := (Array.getElem?_eq_some_iff.1 N6.out).1
              clear hd6 hk6 hb6 hb56 A5 HR5 a1 a2 a3 a4 a5 a6 a7 a8 a9
              have hrl := HRL.out
              rw [hrl] at HD6 HK6
              rw [hrl]
              simp only at HD6 HK6
              clear hrl
              simp only [rpV]
              obtain ⟨n0, n1, n2, n3, n4, n5, n6, n7, n8, n9, nl⟩ := rp_cells (p := D) N6.out
              go_wp2_with fail
              refine (samerp_yes (fun x => wc.heap.size ≤ x) (fun x => x ≠ w1.heap.size) D _ _ _ ⟨_, _, rfl, (HD5.out.ext HB56.out).ext (below_new (Below.refl _ _) _), (HK5.out.ext HB56.out).ext (below_new (Below.refl _ _) _)⟩ ⟨_, _, rfl, HD6.out.ext (below_new (Below.refl _ _) _), HK6.out.ext (below_new (Below.refl _ _) _)⟩ HLEN.out).mono ?_
              rintro e w7 ⟨rfl, hb7⟩
              have HR7 := Lib.hid ((HR6.out.ext (below_new (Below.refl _ _) _)).ext hb7)
              clear hb7
              go_wp2
              go_roundw
              case rel => exact ⟨k + 1, _, _, by omega, by omega, by go_num, HR7.out⟩
              case measure => simp [intOf]; omega
          · as_aux_lemma =>
              obtain ⟨a1, -⟩ := blk_cell (i := 1) AX.out
              obtain ⟨a2, -⟩ := blk_cell (i := 2) AX.out
              obtain ⟨a3, -⟩ := blk_cell (i := 3) AX.out
              obtain ⟨a4, -⟩ := blk_cell (i := 4) AX.out
              obtain ⟨a5, -⟩ := blk_cell (i := 5) AX.out
              obtain ⟨a6, -⟩ := blk_cell (i := 6) AX.out
              obtain ⟨a7, -⟩ := blk_cell (i := 7) AX.out
              obtain ⟨a8, -⟩ := blk_cell (i := 8) AX.out
              obtain ⟨a9, -⟩ := blk_cell (i := 9) AX.out
              simp at a1 a2 a3 a4 a5 a6 a7 a8 a9
              have lax := (Array.getElem?_eq_some_iff.1 AX.out).1
              go_wp2_with fail
              refine (look_out _ _ ⟨qc, ql, qs', qk, qi, qw, qn, ⟨qo, qops⟩⟩ _ rfl (.inr hcl)).mono ?_
              rintro e w5 ⟨rfl, hb5⟩
              have A5 := Lib.hid (blkk hb5 AX.out)
              have HR5 := Lib.hid (HX.out.ext hb5)
              clear hb5 a1 a2 a3 a4 a5 a6 a7 a8 a9
              simp only [rp0, rpV, RpD.none, ObD.none]
              obtain ⟨a1, -⟩ := blk_cell (i := 1) A5.out
              obtain ⟨a2, -⟩ := blk_cell (i := 2) A5.out
              obtain ⟨a3, -⟩ := blk_cell (i := 3) A5.out
              obtain ⟨a4, -⟩ := blk_cell (i := 4) A5.out
              obtain ⟨a5, -⟩ := blk_cell (i := 5) A5.out
              obtain ⟨a6, -⟩ := blk_cell (i := 6) A5.out
              obtain ⟨a7, -⟩ := blk_cell (i := 7) A5.out
              obtain ⟨a8, -⟩ := blk_cell (i := 8) A5.out
              obtain ⟨a9, -⟩ := blk_cell (i := 9) A5.out
              simp at a1 a2 a3 a4 a5 a6 a7 a8 a9
              have la5 := (Array.getElem?_eq_some_iff.1 A5.out).1
              go_wp2_with fail
              refine (rlook_out (fun x => x ≠ w1.heap.size) va' l'.length vc' ⟨qc, ql, qs', qk, qi, qw, qn, ⟨qo, qops⟩⟩ oa qops.length oc _ hcl).mono ?_
              rintro e w6 ⟨v6, rfl, ⟨dv6, kv6, rfl, hd6, hk6⟩, hb6⟩
              obtain ⟨da6, dc6, rfl⟩ := hd6.shape
              obtain ⟨ka6, kc6, rfl⟩ := hk6.shape
              have HD6 := Lib.hid hd6
              have HK6 := Lib.hid hk6
              have HR6 := Lib.hid ((HR5.out.ext (below_new (Below.refl _ _) _)).ext hb6)
              have N6 := Lib.hid (blkk hb6 (heap_alloc_new w5 _))
              have hb56 : Below w5.heap.size w5 w6 := below_call (below_new (Below.refl _ _) _) hb6
              have HB56 := Lib.hid hb56
              have ln6 := (Array.getElem?_eq_some_iff.1 N6.out).1
              clear hd6 hk6 hb6 hb56 A5 HR5 a1 a2 a3 a4 a5 a6 a7 a8 a9
              simp only [rpV, RpD.none, ObD.none] at HD6 HK6 ⊢
              obtain ⟨n0, n1, n2, n3, n4, n5, n6, n7, n8, n9, nl⟩ := rp_cells (p := RpD.none) (dv := .slice none 0 0) (kv := .slice none 0 0) N6.out
              simp only [RpD.none, ObD.none] at n0 n1 n2 n3 n4 n5 n6 n7 n8 n9
              go_wp2_with fail
              refine (samerp_yes (fun x => wc.heap.size ≤ x) (fun x => x ≠ w1.heap.size) RpD.none _ _ _ ⟨.slice none 0 0, .slice none 0 0, rfl, RB.nil _ _, SlE.nil _ _ _⟩ ⟨_, _, rfl, HD6.out.ext (below_new (Below.refl _ _) _), HK6.out.ext (below_new (Below.refl _ _) _)⟩ (by simp [RpD.none, ObD.none])).mono ?_
              rintro e w7 ⟨rfl, hb7⟩
              have HR7 := Lib.hid ((HR6.out.ext (below_new (Below.refl _ _) _)).ext hb7)
              clear hb7
              go_wp2
              go_roundw
              case rel => exact ⟨k + 1, _, _, by omega, by omega, by go_num, HR7.out⟩
              case measure => simp [intOf]; omega
      · go_wp2
        go_ret
        exact ⟨rfl, HWR.out⟩
    · go_wp2
      go_ret
      exact ⟨rfl, HWR.out⟩
end Go.Proofs.YtidikciankcopaaDoor
