/- WatchMissing. -/
import Derived.Test.YtiikkglgoanpbaaInv14
namespace Go.Proofs.Ytiikkglgoanpbaa
open Go.RowKit Go.Maps Go.WideShapes

theorem and1 (x : Int) : bits .and .i64 x 1 = 0 ∨ bits .and .i64 x 1 = 1 := by
  have h := i64_mask x 1 (by omega)
  have h : bits .and .i64 x 1 = x % 2 := h
  rw [h]; omega

def fgs (B : Brd) : Nat → Brd
  | 0 => B
  | k + 1 => (fgs B k).forget (k : Int)
theorem fgs_BI {w0 pb k : Nat} {B : Brd} (h : BI w0 pb k B) (j : Nat) : BI w0 pb k (fgs B j) := by
  induction j with
  | zero => exact h
  | succ j ih => exact ih.forget _
theorem fgs_fp (B : Brd) (j : Nat) : (fgs B j).fp = B.fp := by
  induction j with
  | zero => rfl
  | succ j ih => simp only [fgs]; rw [forget_fp, ih]
theorem fgs_len (B : Brd) (j : Nat) : (fgs B j).ns.length = B.ns.length := by
  induction j with
  | zero => rfl
  | succ j ih => simp only [fgs]; simp [Brd.forget, ih]
theorem fgs_wl (B : Brd) (i : Nat) (hi : i < 4) (j : Nat) : ∀ x ∈ (fgs B j).wl i, x ∈ B.wl i ∧ ∀ q : Nat, q < j → x ≠ (q : Int) := by
  induction j with
  | zero => intro x hx; exact ⟨hx, fun q hq => by omega⟩
  | succ j ih =>
    intro x hx
    simp only [fgs, Brd.forget, if_pos hi] at hx
    obtain ⟨h1, h2⟩ := remS_mem.1 hx
    refine ⟨(ih x h1).1, fun q hq => ?_⟩
    rcases Nat.lt_or_ge q j with h | h
    · exact (ih x h1).2 q h
    · obtain rfl : q = j := by omega
      exact h2
theorem fgs_ns (B : Brd) (j : Nat) : ∀ m ∈ (fgs B j).ns, ∃ n ∈ B.ns, ∀ x ∈ m.miss, x ∈ n.miss ∧ ∀ q : Nat, q < j → x ≠ (q : Int) := by
  induction j with
  | zero => intro m hm; exact ⟨m, hm, fun x hx => ⟨hx, fun q hq => by omega⟩⟩
  | succ j ih =>
    intro m hm
    simp only [fgs, Brd.forget] at hm
    obtain ⟨m', hm', rfl⟩ := List.mem_map.1 hm
    obtain ⟨n, hn, hx⟩ := ih m' hm'
    refine ⟨n, hn, fun x hx' => ?_⟩
    obtain ⟨h1, h2⟩ := remS_mem.1 hx'
    refine ⟨(hx x h1).1, fun q hq => ?_⟩
    rcases Nat.lt_or_ge q j with h | h
    · exact (hx x h1).2 q h
    · obtain rfl : q = j := by omega
      exact h2
theorem nil_of_none {l : List Int} (h : ∀ x ∈ l, False) : l = [] := by
  cases l with
  | nil => rfl
  | cons a r => exact (h a (by simp)).elim
theorem fgs_end {w0 pb k : Nat} {B : Brd} (h : BI w0 pb k B) : (∀ i, i < 4 → (fgs B 8).wl i = []) ∧ (∀ m ∈ (fgs B 8).ns, m.miss = []) := by
  refine ⟨fun i hi => nil_of_none fun x hx => ?_, fun m hm => nil_of_none fun x hx => ?_⟩
  · obtain ⟨h1, h2⟩ := fgs_wl B i hi 8 x hx
    have := h.wel i x h1
    have := h2 x.toNat (by omega)
    omega
  · obtain ⟨n, hn, hx'⟩ := fgs_ns B 8 m hm
    obtain ⟨h1, h2⟩ := hx' x hx
    have := h.mel n hn x h1
    have := h2 x.toNat (by omega)
    omega
theorem missL_end {B : Brd} (h : ∀ m ∈ B.ns, m.miss = []) (id : Int) : B.missL id = [] := by
  unfold Brd.missL
  split
  · rename_i n hf; exact h n (findN_mem hf).1
  · rfl
theorem over_end {B : Brd} (h : ∀ m ∈ B.ns, m.miss = []) (now : Int) : B.ns.filter (overB now) = B.ns ∧ (B.ns.filter fun n => !overB now n) = [] := by
  have e : ∀ m ∈ B.ns, overB now m = true := fun m hm => by simp [overB, h m hm]
  refine ⟨List.filter_eq_self.2 e, List.filter_eq_nil_iff.2 fun m hm => by simp [e m hm]⟩
theorem findN_new {ns : List Nt} {n : Nt} (h : ∀ m ∈ ns, m.id < n.id) : findN n.id (ns ++ [n]) = some n := by
  unfold findN
  rw [List.find?_append]
  have : ns.find? (fun m => m.id == n.id) = none := by
    refine List.find?_eq_none.2 fun m hm => ?_
    have := h m hm
    simp; omega
  rw [this]
  simp

/-! What is left of a row without one number, step by step -/
theorem rem_at {l : List Int} {from_ : Int} {k : Nat} (hk : k < l.length) (hne : l[k] ≠ from_) : (remS from_ (l.take k)).length < (remS from_ l).length ∧ (remS from_ l).getD (remS from_ (l.take k)).length 0 = l[k] ∧ (remS from_ (l.take (k + 1))).length = (remS from_ (l.take k)).length + 1 := by
  have e : l = l.take k ++ l[k] :: l.drop (k + 1) := by rw [← List.drop_eq_getElem_cons hk, List.take_append_drop]
  have e1 : remS from_ l = remS from_ (l.take k) ++ l[k] :: remS from_ (l.drop (k + 1)) := by
    have h2 : (!(l[k] == from_)) = true := by simp [hne]
    conv => lhs; rw [e]
    simp only [remS, List.filter_append, List.filter_cons, h2, if_true]
  have h2 : (!(l[k] == from_)) = true := by simp [hne]
  refine ⟨by rw [e1]; simp, ?_, ?_⟩
  · conv => lhs; rw [e1]
    simp [List.getD_eq_getElem?_getD]
  · rw [List.take_succ_eq_append_getElem hk]
    simp only [remS, List.filter_append, List.filter_cons, h2, if_true]
    simp
theorem rem_skip {l : List Int} {from_ : Int} {k : Nat} (hk : k < l.length) (he : l[k] = from_) : remS from_ (l.take (k + 1)) = remS from_ (l.take k) := by
  rw [List.take_succ_eq_append_getElem hk, he]
  simp [remS]

set_option maxRecDepth 100000 in
set_option maxHeartbeats 8000000 in
theorem miss_no (aa : Option Addr) (n c : Nat) (l : List AD) (image from_ : Int) (w : World) (hl : RdA w aa n l) (hf : okI from_) (hno : mayI image = false) :
    Calls Try.prog 6 #[.slice aa n c, .int .i64 image, .int .i64 from_] w fun e w' => e = .returned (.bool true) ∧ Below w.heap.size w w' := by
  have HC : Hid (image < 0 ∨ 0 ≤ image ∧ 4 ≤ image) := by
    simp [mayI] at hno
    show _ ∨ _
    omega
  have HNO := Lib.hid hno
  clear hno
  have H1 := Lib.hid hl
  have HFR := Lib.hid hf
  clear hl hf
  go_enter Try.func6, Try.ntmps6
  go_wp2_with fail
  refine (awake_any _).mono ?_
  rintro e w1 ⟨rfl, hb1⟩
  go_wp2_with fail
  refine (new_any _).mono ?_
  rintro e w2 ⟨rfl, hB2, hb2⟩
  have H3 := Lib.hid hB2
  clear hB2
  generalize hs : w1.heap.size = s at *
  have hsw : w.heap.size ≤ s := by have := hb1.size; omega
  have hb12 : Below w.heap.size w w2 := hb1.trans (hb2.mono (by omega))
  clear hb1 hb2 hs
  go_wp2
  go_loopw [9] (fun q wr => ∃ (k : Nat) (B : Brd), k ≤ n ∧ k ≤ 60 ∧ q = .int .i64 k ∧ BI w.heap.size (s + 1) k B ∧ IsB wr B ∧ Below w.heap.size w wr) (fun q _ => n - (intOf q).toNat)
  case atStart => exact ⟨0, newB s, Nat.zero_le _, by omega, rfl, BI.new hsw, H3.out, hb12⟩
  case round =>
    obtain ⟨k, B, hk, hk60, rfl, hI, hB, hbr⟩ := hrel
    have HI := Lib.hid hI
    have HB := Lib.hid hB
    have hpb : Hid (B.pb = s + 1) := hI.pbe
    have hwl : Hid (∀ i, i < 4 → (B.wl i).length ≤ 100000) := fun i _ => by have := hI.wlen i; omega
    clear hI hB hb12 H3
    by_cases hgo : k < n ∧ k < 60
    · obtain ⟨hlt, hlt60⟩ := hgo
      obtain ⟨b, off, rfl, hbl, d0, d1, d2, d3, d4⟩ := H1.out.cell k hlt
      have d0 := cellB hbr hbl d0
      have d1 := cellB hbr hbl d1
      have d2 := cellB hbr hbl d2
      have d3 := cellB hbr hbl d3
      have d4 := cellB hbr hbl d4
      have hok := H1.out.ok _ (List.getElem_mem (by rw [H1.out.len]; exact hlt) : l[k]'(by rw [H1.out.len]; exact hlt) ∈ l)
      have HOK := Lib.hid hok
      clear hok
      generalize l[k]'(by rw [H1.out.len]; exact hlt) = a at *
      obtain ⟨ki, im, wh, nn, no⟩ := a
      simp only at d0 d1 d2 d3 d4
      have HB1 := Lib.hid (HB.out.ext ((Below.refl _ wr).alloc (Nat.le_refl _) (.cells #[.int .i64 ki, .int .i64 im, .int .i64 wh, .int .i64 nn, .int .i64 no] 41)))
      have hbr1 : Below w.heap.size w (wr.alloc (.cells #[.int .i64 ki, .int .i64 im, .int .i64 wh, .int .i64 nn, .int .i64 no] 41)) := hbr.alloc hbr.size _
      have hb60 : Hid (B.last ≤ 1000000 ∧ B.ns.length ≤ 100000) := ⟨by have := HI.out.last1; omega, by have := HI.out.nlen; omega⟩
      rcases and1 ki with hk0 | hk1
      · go_wp2_with fail
        rw [← hpb.out]
        refine (watch_any B im wh _ HB1.out hwl.out).mono ?_
        rintro e w3 ⟨rfl, hB3, hf3⟩
        rw [hpb.out]
        have HB3 := Lib.hid hB3
        have HF3 := Lib.hid hf3
        clear hB3 hf3
        go_wp2_with fail
        go_roundw
        case rel => exact ⟨k + 1, B.add im wh, by omega, by omega, by go_num, HI.out.add im wh, HB3.out, hbr1.trans (HF3.out.below hbr1.size fun j hj hm => by have := HI.out.low j hm; omega)⟩
        case measure => simp [intOf]; omega
      · go_wp2_with fail
        rw [← hpb.out]
        refine (notify_all B im wh 5 _ HB1.out HOK.out.2.2.1 hwl.out HI.out.last0 hb60.out.1 HI.out.nid hb60.out.2).mono ?_
        rintro e w3 ⟨v3, rfl, hv3, hB3, hf3⟩
        rw [hpb.out]
        have HB3 := Lib.hid hB3
        have HF3 := Lib.hid hf3
        clear hB3 hf3 hv3
        go_wp2_with fail
        go_roundw
        case rel => exact ⟨k + 1, _, by omega, by omega, by go_num, HI.out.notif hbr1.size im wh 5, HB3.out, hbr1.trans (HF3.out.below hbr1.size fun j hj hm => by have := HI.out.low j hm; omega)⟩
        case measure => simp [intOf]; omega
    · have HI60 := Lib.hid (HI.out.up hk60)
      have hb60 : Hid (B.last ≤ 1000000 ∧ B.ns.length ≤ 100000) := ⟨by have := HI.out.last1; omega, by have := HI.out.nlen; omega⟩
      have hcase : k < n ∧ 60 ≤ k ∨ n ≤ k := by omega
      have HLt : Hid (∀ q ∈ B.fp, q < wr.heap.size) := fun q hq => HB.out.lt q hq
      clear hgo H1 HI
      rcases hcase with ⟨hk1, hk2⟩ | hk1
      all_goals
        go_wp2_with fail
        rw [← hpb.out]
        refine (watchers_no image _ HNO.out _).mono ?_
        intro e w3 hfr
        obtain ⟨v3, rfl, hv3, hn3, hb3⟩ := hfr
        rw [hpb.out]
        have V3 := Lib.hid (OwR.of hv3)
        obtain ⟨a3, c3, rfl⟩ := owns_shape hv3
        have HB3 := Lib.hid (HB.out.ext hb3)
        have hb3' : Below w.heap.size w w3 := hbr.trans (hb3.mono hbr.size)
        have hs3 : Hid (wr.heap.size ≤ w3.heap.size) := hb3.size
        clear hv3 hn3 hb3 hbr HB
        go_wp2_with fail
        rw [← hpb.out]
        refine (notify_no image from_ 5 _ HNO.out _).mono ?_
        rintro e w4 ⟨rfl, hb4⟩
        rw [hpb.out]
        have hb4' : Below w.heap.size w w4 := hb3'.trans (hb4.mono hb3'.size)
        rcases HC.out with h | ⟨h, h'⟩
        all_goals
          go_wp2_with fail
          go_ret
          exact ⟨rfl, hb4'⟩

set_option maxRecDepth 100000 in
set_option maxHeartbeats 8000000 in
theorem miss_yes (aa : Option Addr) (n c : Nat) (l : List AD) (i : Nat) (hi : i < 4) (from_ : Int) (w : World) (hl : RdA w aa n l) (hf : okI from_) :
    Calls Try.prog 6 #[.slice aa n c, .int .i64 i, .int .i64 from_] w fun e w' => e = .returned (.bool true) ∧ Below w.heap.size w w' := by
  have H1 := Lib.hid hl
  have HFR := Lib.hid hf
  clear hl hf
  go_enter Try.func6, Try.ntmps6
  go_wp2_with fail
  refine (awake_any _).mono ?_
  rintro e w1 ⟨rfl, hb1⟩
  go_wp2_with fail
  refine (new_any _).mono ?_
  rintro e w2 ⟨rfl, hB2, hb2⟩
  have H3 := Lib.hid hB2
  clear hB2
  generalize hs : w1.heap.size = s at *
  have hsw : w.heap.size ≤ s := by have := hb1.size; omega
  have hb12 : Below w.heap.size w w2 := hb1.trans (hb2.mono (by omega))
  clear hb1 hb2 hs
  go_wp2
  go_loopw [9] (fun q wr => ∃ (k : Nat) (B : Brd), k ≤ n ∧ k ≤ 60 ∧ q = .int .i64 k ∧ BI w.heap.size (s + 1) k B ∧ IsB wr B ∧ Below w.heap.size w wr) (fun q _ => n - (intOf q).toNat)
  case atStart => exact ⟨0, newB s, Nat.zero_le _, by omega, rfl, BI.new hsw, H3.out, hb12⟩
  case round =>
    obtain ⟨k, B, hk, hk60, rfl, hI, hB, hbr⟩ := hrel
    have HI := Lib.hid hI
    have HB := Lib.hid hB
    have hpb : Hid (B.pb = s + 1) := hI.pbe
    have hwl : Hid (∀ i, i < 4 → (B.wl i).length ≤ 100000) := fun i _ => by have := hI.wlen i; omega
    clear hI hB hb12 H3
    by_cases hgo : k < n ∧ k < 60
    · obtain ⟨hlt, hlt60⟩ := hgo
      obtain ⟨b, off, rfl, hbl, d0, d1, d2, d3, d4⟩ := H1.out.cell k hlt
      have d0 := cellB hbr hbl d0
      have d1 := cellB hbr hbl d1
      have d2 := cellB hbr hbl d2
      have d3 := cellB hbr hbl d3
      have d4 := cellB hbr hbl d4
      have hok := H1.out.ok _ (List.getElem_mem (by rw [H1.out.len]; exact hlt) : l[k]'(by rw [H1.out.len]; exact hlt) ∈ l)
      have HOK := Lib.hid hok
      clear hok
      generalize l[k]'(by rw [H1.out.len]; exact hlt) = a at *
      obtain ⟨ki, im, wh, nn, no⟩ := a
      simp only at d0 d1 d2 d3 d4
      have HB1 := Lib.hid (HB.out.ext ((Below.refl _ wr).alloc (Nat.le_refl _) (.cells #[.int .i64 ki, .int .i64 im, .int .i64 wh, .int .i64 nn, .int .i64 no] 41)))
      have hbr1 : Below w.heap.size w (wr.alloc (.cells #[.int .i64 ki, .int .i64 im, .int .i64 wh, .int .i64 nn, .int .i64 no] 41)) := hbr.alloc hbr.size _
      have hb60 : Hid (B.last ≤ 1000000 ∧ B.ns.length ≤ 100000) := ⟨by have := HI.out.last1; omega, by have := HI.out.nlen; omega⟩
      rcases and1 ki with hk0 | hk1
      · go_wp2_with fail
        rw [← hpb.out]
        refine (watch_any B im wh _ HB1.out hwl.out).mono ?_
        rintro e w3 ⟨rfl, hB3, hf3⟩
        rw [hpb.out]
        have HB3 := Lib.hid hB3
        have HF3 := Lib.hid hf3
        clear hB3 hf3
        go_wp2_with fail
        go_roundw
        case rel => exact ⟨k + 1, B.add im wh, by omega, by omega, by go_num, HI.out.add im wh, HB3.out, hbr1.trans (HF3.out.below hbr1.size fun j hj hm => by have := HI.out.low j hm; omega)⟩
        case measure => simp [intOf]; omega
      · go_wp2_with fail
        rw [← hpb.out]
        refine (notify_all B im wh 5 _ HB1.out HOK.out.2.2.1 hwl.out HI.out.last0 hb60.out.1 HI.out.nid hb60.out.2).mono ?_
        rintro e w3 ⟨v3, rfl, hv3, hB3, hf3⟩
        rw [hpb.out]
        have HB3 := Lib.hid hB3
        have HF3 := Lib.hid hf3
        clear hB3 hf3 hv3
        go_wp2_with fail
        go_roundw
        case rel => exact ⟨k + 1, _, by omega, by omega, by go_num, HI.out.notif hbr1.size im wh 5, HB3.out, hbr1.trans (HF3.out.below hbr1.size fun j hj hm => by have := HI.out.low j hm; omega)⟩
        case measure => simp [intOf]; omega
    · have HI60 := Lib.hid (HI.out.up hk60)
      have hb60 : Hid (B.last ≤ 1000000 ∧ B.ns.length ≤ 100000) := ⟨by have := HI.out.last1; omega, by have := HI.out.nlen; omega⟩
      have hcase : k < n ∧ 60 ≤ k ∨ n ≤ k := by omega
      have HLt : Hid (∀ q ∈ B.fp, q < wr.heap.size) := fun q hq => HB.out.lt q hq
      clear hgo H1 HI
      rcases hcase with ⟨hk1, hk2⟩ | hk1
      all_goals
        go_wp2_with fail
        rw [← hpb.out]
        refine (watchers_yes B i _ HB.out hi (hwl.out i hi)).mono ?_
        intro e w3 hfr
        obtain ⟨v3, rfl, hv3, hn3, hb3⟩ := hfr
        rw [hpb.out]
        have V3 := Lib.hid (OwR.of hv3)
        obtain ⟨a3, c3, rfl⟩ := owns_shape hv3
        have HB3 := Lib.hid (HB.out.ext hb3)
        have hb3' : Below w.heap.size w w3 := hbr.trans (hb3.mono hbr.size)
        have hs3 : Hid (wr.heap.size ≤ w3.heap.size) := hb3.size
        clear hv3 hn3 hb3 hbr HB
        go_wp2_with fail
        rw [← hpb.out]
        refine (notify_yes B i from_ 5 _ HB3.out hi HFR.out (hwl.out i hi) HI60.out.last0 hb60.out.1 HI60.out.nid hb60.out.2).mono ?_
        rintro e w4 ⟨v4, rfl, hv4, hn4, hB4, hf4⟩
        rw [hpb.out]
        have V4 := Lib.hid (OwR.of hv4)
        obtain ⟨a4, c4, rfl⟩ := owns_shape hv4
        have HB4 := Lib.hid hB4
        have V34 := Lib.hid (V3.out.fr hf4 fun q h1 h2 hm => by have := HLt.out q hm; omega)
        have hb4 : Below w.heap.size w w4 := hb3'.trans (hf4.below hb3'.size fun q hq hm => by have := HI60.out.low q hm; omega)
        have HI4 : Hid (BI w.heap.size (s + 1) 61 (B.note w3.heap.size (clampT 5) (remS from_ (B.wl i)))) := by
          have := HI60.out.notif hb3'.size (i : Int) from_ 5
          have e : mayI ((i : Nat) : Int) = true := by simp [mayI]; omega
          unfold Brd.notif at this
          rw [e] at this
          exact this
        have hnid : Hid (B.last + 1 = (B.note w3.heap.size (clampT 5) (remS from_ (B.wl i))).last) := rfl
        have hmis : Hid ((B.note w3.heap.size (clampT 5) (remS from_ (B.wl i))).missL (B.last + 1) = remS from_ (B.wl i)) := by
          show _ = _
          unfold Brd.missL
          rw [show findN (B.last + 1) (B.note w3.heap.size (clampT 5) (remS from_ (B.wl i))).ns = _ from findN_new (n := ⟨B.last + 1, clampT 5, w3.heap.size + 1, w3.heap.size, remS from_ (B.wl i)⟩) HI60.out.nid]
        have hokn : Hid (okI (B.last + 1)) := okI_of (by have := HI60.out.last0; omega) (by have := hb60.out.1; omega)
        have hne4 : Hid (0 < (B.note w3.heap.size (clampT 5) (remS from_ (B.wl i))).ns.length) := by show _ < _; simp [Brd.note]
        have h4lt : Hid (∀ q ∈ (B.note w3.heap.size (clampT 5) (remS from_ (B.wl i))).fp, q < w3.heap.size + 2) := fun q hq => by
          have hfp : (B.note w3.heap.size (clampT 5) (remS from_ (B.wl i))).fp = B.fp ++ [w3.heap.size + 1, w3.heap.size] := by simp [Brd.fp, Brd.note]
          rw [hfp] at hq
          rcases List.mem_append.1 hq with hq | hq
          · have := HLt.out q hq; have := V3.out.own; have : wr.heap.size ≤ w3.heap.size := hs3.out; omega
          · simp at hq; omega
        have hw8 : Hid ((B.wl i).length ≤ 60) := HI60.out.wlen i
        clear hv4 hn4 hB4 hf4 hb3' V3 HB3 HI60 hb60 hwl HLt hpb
        generalize B.note w3.heap.size (clampT 5) (remS from_ (B.wl i)) = B4 at *
        generalize B.wl i = L at *
        generalize B.last + 1 = nid at *
        generalize w3.heap.size = s3 at *
        generalize wr.heap.size = s2 at *
        have hp4 : Hid (B4.pb = s + 1) := HI4.out.pbe
        have hL60 : L.length ≤ 60 := hw8.out
        have hT60 : (remS from_ L).length ≤ 60 := Nat.le_trans (remS_length _ _) hL60
        go_wp2_with fail
        go_loopw [14, 15] (fun k q wr => ∃ j nq : Nat, j ≤ L.length ∧ q = .int .i64 j ∧ k = .int .i64 (remS from_ (L.take j)).length ∧ wr = w4.drewN nq) (fun _ q _ => L.length - (intOf q).toNat)
        case atStart => exact ⟨0, 0, Nat.zero_le _, rfl, rfl, rfl⟩
        case round =>
          obtain ⟨j, nq, hj, rfl, rfl, rfl⟩ := hrel
          by_cases hlt : j < L.length
          · obtain ⟨g3, rfl, hc3⟩ := V34.out.at rfl hlt
            replace hc3 : w4.cell? ⟨g3, j, none⟩ = some (.int .i64 L[j]) := by
              rw [hc3]; simp [List.getD_eq_getElem?_getD, List.getElem?_eq_getElem hlt]
            by_cases he : L[j] = from_
            · have hk := rem_skip hlt he
              have HK := Lib.hid hk
              have t1 : (from_ == from_) = true := by simp
              rw [he] at hc3
              clear hk he
              go_wp2
              go_roundw
              case rel => exact ⟨j + 1, nq, by omega, by go_num, by rw [HK.out], rfl⟩
              case measure => simp [intOf]; omega
            · obtain ⟨r1, r2, r3⟩ := rem_at hlt he
              obtain ⟨g4, rfl, hc4⟩ := V4.out.at rfl r1
              rw [r2] at hc4
              have R3 := Lib.hid r3
              have t1 : (L[j] == from_) = false := by rw [beq_eq_false_iff_ne]; exact he
              have t2 : decide ((remS from_ L).length ≤ (remS from_ (L.take j)).length) = false := by simpa using r1
              generalize hk : (remS from_ (L.take j)).length = kk at *
              generalize L[j] = x at *
              clear hk r2 r3 he
              go_wp2
              go_quiet (fail)
              go_wp2
              go_roundw
              case rel => exact ⟨j + 1, _, by omega, by go_num, by rw [R3.out]; go_num, rfl⟩
              case measure => simp [intOf]; omega
          · obtain rfl : j = L.length := by omega
            have htk : Hid (L.take L.length = L) := List.take_length
            rw [htk.out]
            have HB5 : Hid (IsB (w4.drewN nq) B4) := HB4.out.ext (below_drewN (Below.refl _ _) _)
            have hb5 : Below w.heap.size w (w4.drewN nq) := below_drewN hb4 _
            have V5 : Hid (OwR (s3 + 2) w4.heap.size (w4.drewN nq) (.slice a4 (remS from_ L).length c4) (remS from_ L).length (remS from_ L)) := V4.out.ext (below_drewN (Below.refl _ _) _)
            have HPP := Lib.hid HI4.out.low
            clear HB4 hb4 V34 V4
            generalize w4.drewN nq = w5 at *
            generalize w4.heap.size = s4 at *
            go_wp2_with fail
            rw [← hp4.out]
            refine (watch_any B4 i 7 _ HB5.out (fun q _ => by have := HI4.out.wlen q; omega)).mono ?_
            rintro e w6 ⟨rfl, hB6, hf6⟩
            rw [hp4.out]
            have HI6 := Lib.hid (HI4.out.add i 7)
            have hp6 : Hid ((B4.add i 7).pb = s + 1) := HI6.out.pbe
            have hm6 : Hid ((B4.add i 7).missL nid = remS from_ L) := by
              show _ = _
              rw [show (B4.add i 7).missL nid = B4.missL nid by unfold Brd.missL; rw [add_ns]]
              exact hmis.out
            have hn6 : Hid (0 < (B4.add i 7).ns.length) := by show _ < _; rw [add_ns]; exact hne4.out
            have hl6 : Hid (∀ q ∈ (B4.add i 7).fp, w.heap.size ≤ q ∧ q < s3 + 2) := fun q hq => by
              rw [add_fp] at hq
              exact ⟨HPP.out q hq, h4lt.out q hq⟩
            have HB6 := Lib.hid hB6
            have V6 := Lib.hid (V5.out.fr hf6 fun q h1 h2 hm => by have := h4lt.out q hm; omega)
            have hb6 : Below w.heap.size w w6 := hb5.trans (hf6.below hb5.size fun q hq hm => by have := HPP.out q hm; omega)
            clear hB6 hf6 hb5 HB5 V5 HI4 hp4 hmis hne4 h4lt HPP
            generalize B4.add i 7 = B6 at *
            go_wp2_with fail
            rw [← hp6.out]
            refine (missing_any B6 nid _ HB6.out hokn.out (fun m hm => by have := HI6.out.mlen m hm; omega)).mono ?_
            intro e w7 hfr
            obtain ⟨v7, rfl, hv7, hn7, hb7⟩ := hfr
            rw [hp6.out]
            rw [hm6.out] at hv7
            have V67 := Lib.hid (V6.out.ext hb7)
            have V7 := Lib.hid hv7
            obtain ⟨a7, c7, rfl⟩ := owns_shape hv7
            have HB7 := Lib.hid (HB6.out.ext hb7)
            have hb7' : Below w.heap.size w w7 := hb6.trans (hb7.mono hb6.size)
            clear hv7 hn7 hb7 hb6 V6 HB6
            go_wp2_with fail
            refine (ints_same _ _ (remS from_ L) _ _ rfl (by omega) (Sl.of_owns V7.out) V67.out.sl).mono ?_
            rintro e w8 ⟨rfl, hb8⟩
            have HB8 := Lib.hid (HB7.out.ext hb8)
            have hb8' : Below w.heap.size w w8 := hb7'.trans (hb8.mono hb7'.size)
            clear hb8 hb7' V7 V67 HB7
            go_wp2
            go_loopw [17] (fun q wr => ∃ j : Nat, j ≤ 8 ∧ q = .int .i64 j ∧ IsB wr (fgs B6 j) ∧ Below w.heap.size w wr) (fun q _ => 8 - (intOf q).toNat)
            case atStart => exact ⟨0, Nat.zero_le _, rfl, HB8.out, hb8'⟩
            case round =>
              obtain ⟨j, hj, rfl, hB9, hb9⟩ := hrel
              have HB9 := Lib.hid hB9
              have hp9 : Hid ((fgs B6 j).pb = s + 1) := (fgs_BI HI6.out j).pbe
              clear hB9 HB8 hb8'
              by_cases hlt : j < 8
              · go_wp2_with fail
                rw [← hp9.out]
                refine (forget_any (fgs B6 j) j _ HB9.out (okI_of (by omega) (by omega))).mono ?_
                rintro e w10 ⟨rfl, hB10, hf10⟩
                rw [hp9.out]
                have HB10 : Hid (IsB w10 (fgs B6 (j + 1))) := hB10
                have hb10 : Below w.heap.size w w10 := hb9.trans (hf10.below hb9.size fun q hq hm => by rw [fgs_fp] at hm; have := (hl6.out q hm).1; omega)
                clear hB10 hf10 hb9
                go_wp2_with fail
                go_roundw
                case rel => exact ⟨j + 1, by omega, by go_num, HB10.out, hb10⟩
                case measure => simp [intOf]; omega
              · have hj8 := Lib.hid (show j = 8 by omega)
                rw [hj8.out] at HB9 hp9
                obtain ⟨e1, e2⟩ := fgs_end HI6.out
                have E1 := Lib.hid e1
                have E2 := Lib.hid (missL_end e2 nid)
                have E3 := Lib.hid (over_end e2 5)
                have HI9 := Lib.hid (fgs_BI HI6.out 8)
                have hl9 : Hid (∀ q ∈ (fgs B6 8).fp, w.heap.size ≤ q) := HI9.out.low
                have hlen9 : Hid (0 < (fgs B6 8).ns.length) := by show _ < _; rw [fgs_len]; exact hn6.out
                clear e1 e2 HI6 hp6 hm6 hn6 hl6
                generalize fgs B6 8 = B9 at *
                go_wp2_with fail
                rw [← hp9.out]
                refine (missing_any B9 nid _ HB9.out hokn.out (fun m hm => by have := HI9.out.mlen m hm; omega)).mono ?_
                intro e w10 hfr
                rw [E2.out] at hfr
                obtain ⟨a10, c10, rfl, hb10⟩ := fresh_none hfr
                rw [hp9.out]
                have HB10 := Lib.hid (HB9.out.ext hb10)
                have hb10' : Below w.heap.size w w10 := hb9.trans (hb10.mono hb9.size)
                clear hfr hb10 hb9 HB9
                go_wp2_with fail
                rw [← hp9.out]
                refine (watchers_yes B9 i _ HB10.out hi (by have := HI9.out.wlen i; omega)).mono ?_
                intro e w11 hfr
                rw [E1.out i hi] at hfr
                obtain ⟨a11, c11, rfl, hb11⟩ := fresh_none hfr
                rw [hp9.out]
                have HB11 := Lib.hid (HB10.out.ext hb11)
                have hb11' : Below w.heap.size w w11 := hb10'.trans (hb11.mono hb10'.size)
                clear hfr hb11 hb10' HB10
                go_wp2_with fail
                rw [← hp9.out]
                refine (over_any B9 5 _ HB11.out (by omega) (by omega) HI9.out.nat (by have := HI9.out.nlen; omega)).mono ?_
                rintro e w12 ⟨v12, rfl, hv12, hB12, hf12⟩
                rw [hp9.out]
                rw [E3.out.1] at hv12
                rw [E3.out.2] at hB12
                obtain ⟨a12, c12, rfl⟩ := owns_shape hv12
                have HB12 := Lib.hid hB12
                have hb12 : Below w.heap.size w w12 := hb11'.trans (hf12.below hb11'.size fun q hq hm => by have := hl9.out q hm; omega)
                have hp12 : Hid ((B9.keep []).pb = s + 1) := hp9.out
                have hlen : 0 < B9.ns.length := hlen9.out
                clear hv12 hB12 hf12 hb11' HB11
                go_wp2_with fail
                rw [← hp12.out]
                refine (open_any (B9.keep []) _ HB12.out).mono ?_
                rintro e w13 ⟨rfl, rfl⟩
                rw [show (B9.keep []).ns = [] from rfl]
                go_wp2
                go_ret
                refine ⟨?_, hb12⟩
                first | rfl | (simp; done) | (simp; omega)
end Go.Proofs.Ytiikkglgoanpbaa
