/- WatchOver. -/
import Derived.Test.YtiikkglgoanpbaaWatchV
namespace Go.Proofs.Ytiikkglgoanpbaa
open Go.RowKit Go.Maps Go.WideShapes

/-- a slice of numbers that is read at every index -/
structure RdI (W : World) (aa : Option Addr) (n : Nat) (l : List Int) : Prop where
  len : l.length = n
  cell : ∀ k, k < n → ∃ b off, aa = some ⟨b, off, none⟩ ∧ b < W.heap.size ∧ W.cell? ⟨b, off + k, none⟩ = some (.int .i64 (l.getD k 0))
  ok : ∀ x ∈ l, okI x

/-- a board on which one image alone is watched -/
structure InW (s a k : Nat) (B : Brd) : Prop where
  pb : B.pb = s + 1
  fp : B.fp = (newB s).fp
  ns : B.ns = []
  last : B.last = 0
  other : ∀ i, i ≠ a → B.wl i = []
  len : (B.wl a).length ≤ k
  pos : ∀ x ∈ B.wl a, 0 ≤ x
  lt : ∀ x ∈ B.wl a, x < 8

theorem insL_length (k : Int) (l : List Int) : (insL k l).length = l.length + 1 := by
  induction l with
  | nil => rfl
  | cons q r ih => simp only [insL]; split <;> simp [ih]
theorem insL_mem {k x : Int} {l : List Int} : x ∈ insL k l ↔ x = k ∨ x ∈ l := by
  induction l with
  | nil => simp [insL]
  | cons q r ih =>
    simp only [insL]
    split
    · simp
    · simp only [List.mem_cons, ih]
      constructor
      · rintro (h | h | h) <;> simp [h]
      · rintro (h | h | h) <;> simp [h]
theorem remS_mem {k x : Int} {l : List Int} : x ∈ remS k l ↔ x ∈ l ∧ x ≠ k := by simp [remS]
theorem remS_length (k : Int) (l : List Int) : (remS k l).length ≤ l.length := List.length_filter_le _ _
theorem insS_length (k : Int) (l : List Int) : (insS k l).length ≤ l.length + 1 := by
  rw [insS, insL_length]; have := remS_length k l; omega
theorem insS_mem {k x : Int} {l : List Int} : x ∈ insS k l ↔ x = k ∨ x ∈ l ∧ x ≠ k := by rw [insS, insL_mem, remS_mem]
theorem InW.new (s a : Nat) : InW s a 0 (newB s) := ⟨rfl, rfl, rfl, rfl, fun _ _ => rfl, by simp [newB], by simp [newB], by simp [newB]⟩
theorem InW.add {s a k : Nat} {B : Brd} (h : InW s a k B) (ha : a < 4) (who : Int) : InW s a (k + 1) (B.add a who) := by
  have e : ((a : Int)).toNat = a := by simp
  unfold Brd.add
  cases hm : mayW a who
  · simp only [Bool.false_eq_true, if_false]
    exact ⟨h.pb, h.fp, h.ns, h.last, h.other, by have := h.len; omega, h.pos, h.lt⟩
  · simp only [if_true, e]
    have hw : 0 ≤ who := by simp [mayW] at hm; exact hm.1.2
    have hw8 : who < 8 := by simp [mayW] at hm; exact hm.2
    refine ⟨h.pb, h.fp, h.ns, h.last, fun i hi => ?_, ?_, ?_, ?_⟩
    · simp only [Brd.put, if_neg hi]; exact h.other i hi
    · simp only [Brd.put, if_true]
      have := insS_length who (B.wl a); have := h.len; omega
    · simp only [Brd.put, if_true]
      intro x hx
      rcases insS_mem.1 hx with rfl | hx
      · exact hw
      · exact h.pos x hx.1
    · simp only [Brd.put, if_true]
      intro x hx
      rcases insS_mem.1 hx with rfl | hx
      · exact hw8
      · exact h.lt x hx.1
theorem remS_pos {l : List Int} (h : ∀ x ∈ l, 0 ≤ x) : remS (-1) l = l := by
  refine List.filter_eq_self.2 fun x hx => ?_
  have := h x hx
  simp; omega
theorem InW.wl {s a k : Nat} {B : Brd} (h : InW s a k B) (i : Nat) : (B.wl i).length ≤ k := by
  by_cases e : i = a
  · subst e; exact h.len
  · rw [h.other i e]; simp

def Brd.one (B : Brd) (at_ : Int) (s : Nat) (m : List Int) : Brd := { B with last := 1, ns := [⟨1, at_, s + 1, s, m⟩] }
theorem InW.note {s a k : Nat} {B : Brd} (h : InW s a k B) (at_ : Int) (s' : Nat) (l : List Int) : B.note s' at_ l = B.one at_ s' l := by
  unfold Brd.note Brd.one
  rw [h.ns, h.last]; rfl
theorem one_fp (B : Brd) (h : B.ns = []) (at_ : Int) (s : Nat) (m : List Int) : (B.one at_ s m).fp = B.fp ++ [s + 1, s] := by simp [Brd.fp, Brd.one, h]
theorem one_miss (B : Brd) (at_ : Int) (s : Nat) (m : List Int) : (B.one at_ s m).missL 1 = m := rfl
theorem one_ackB (B : Brd) (at_ : Int) (s : Nat) (m : List Int) (who : Int) : (B.one at_ s m).ackB 1 who = decide (who ∈ m) := rfl
theorem one_ack (B : Brd) (at_ : Int) (s : Nat) (m : List Int) (who : Int) : (B.one at_ s m).ack 1 who = B.one at_ s (if who ∈ m then remS who m else m) := by
  unfold Brd.ack
  rw [one_ackB]
  by_cases h : who ∈ m
  · simp only [h, decide_true, if_true, one_miss]
    simp [Brd.setN, Ytiikkglgoanpbaa.setN, Brd.one]
  · simp [h]
theorem setV_nodup {P : Program} {K : TypeId} {w : World} {b : Nat} {l : List Int} (h : MapI P K w b (setV l)) : l.Pairwise (· < ·) := by
  have := h.up
  simp only [Up, setV, List.pairwise_map] at this
  exact this
theorem remS_succ {k : Int} {l : List Int} (h : l.Pairwise (· < ·)) (hk : k ∈ l) : (remS k l).length + 1 = l.length := by
  induction l with
  | nil => simp at hk
  | cons q r ih =>
    have hp := List.pairwise_cons.1 h
    by_cases e : q = k
    · subst e
      have : remS q (q :: r) = r := by
        simp only [remS, List.filter_cons, beq_self_eq_true, Bool.not_true, Bool.false_eq_true, if_false]
        refine List.filter_eq_self.2 fun x hx => ?_
        have := hp.1 x hx
        simp; omega
      rw [this]; rfl
    · have hr : k ∈ r := by
        rcases List.mem_cons.1 hk with h | h
        · exact absurd h.symm e
        · exact h
      have := ih hp.2 hr
      have e2 : (!(q == k)) = true := by simp [e]
      simp only [remS, List.filter_cons, e2, if_true, List.length_cons] at *
      omega

def Brd.off (B : Brd) : Brd := { B with last := 1, ns := [] }
theorem one_yes (B : Brd) (s : Nat) (m : List Int) (now : Int) (h : overB now ⟨1, 50, s + 1, s, m⟩ = true) : (B.one 50 s m).ns.filter (overB now) = [⟨1, 50, s + 1, s, m⟩] ∧ (B.one 50 s m).keep ((B.one 50 s m).ns.filter fun n => !overB now n) = B.off := by
  simp only [Brd.one, Brd.keep, Brd.off, List.filter_cons, h, List.filter_nil, if_true, Bool.not_true]
  exact ⟨trivial, rfl⟩
theorem one_no (B : Brd) (s : Nat) (m : List Int) (now : Int) (h : overB now ⟨1, 50, s + 1, s, m⟩ = false) : (B.one 50 s m).ns.filter (overB now) = [] ∧ (B.one 50 s m).keep ((B.one 50 s m).ns.filter fun n => !overB now n) = B.one 50 s m := by
  simp only [Brd.one, Brd.keep, Brd.off, List.filter_cons, h, List.filter_nil, Bool.not_false, if_true]
  exact ⟨rfl, trivial⟩
theorem off_over (B : Brd) (now : Int) : B.off.ns.filter (overB now) = [] ∧ B.off.keep (B.off.ns.filter fun n => !overB now n) = B.off := ⟨by simp [Brd.off], by simp [Brd.off, Brd.keep]⟩
theorem Fr.on {S : Nat → Prop} {w w' : World} {B0 : Nat} (h : Fr S w w') (hB : B0 ≤ w.heap.size) (hs : ∀ k, k < B0 → ¬ S k) : Below B0 w w' := h.below hB hs
theorem cellB {w w' : World} {n : Nat} (hb : Below n w w') {a : Addr} {v : Value} (hn : a.block < n) (h : w.cell? a = some v) : w'.cell? a = some v := (hb.cell hn).trans h

set_option maxRecDepth 100000 in
set_option maxHeartbeats 4000000 in
theorem over_law (a1 a2 : Option Addr) (n1 n2 c1 c2 : Nat) (l1 l2 : List Int) (t : Int) (ht : okI t) (w : World) (h1 : RdI w a1 n1 l1) (h2 : RdI w a2 n2 l2) (b0 : 0 ≤ t) (b1 : t ≤ 100) (b2 : n1 ≤ 50) (b3 : n2 ≤ 50) :
    Calls Try.prog 3 #[.slice a1 n1 c1, .slice a2 n2 c2, .int .i64 t] w fun e w' => e = .returned (.bool true) ∧ Below w.heap.size w w' := by
  have HT := Lib.hid ht
  have H1 := Lib.hid h1
  have H2 := Lib.hid h2
  clear ht h1 h2
  go_enter Try.func3, Try.ntmps3
  go_wp2_with fail
  refine (awake_any _).mono ?_
  rintro e w1 ⟨rfl, hb1⟩
  go_wp2_with fail
  refine (new_any _).mono ?_
  rintro e w2 ⟨rfl, hB2, hb2⟩
  have H3 := Lib.hid hB2
  clear hB2
  generalize hs : w1.heap.size = s at *
  have hsw : w.heap.size ≤ s := by have := hb1.size; omega
  have hb12 : Below w.heap.size w w2 := hb1.trans (hb2.mono (by omega))
  clear hb1 hb2 hs
  go_wp2
  go_loopw [9] (fun i wr => ∃ (k : Nat) (B : Brd), k ≤ n1 ∧ i = .int .i64 k ∧ InW s 1 k B ∧ IsB wr B ∧ Below w.heap.size w wr) (fun i _ => n1 - (intOf i).toNat)
  case atStart => exact ⟨0, newB s, Nat.zero_le _, rfl, InW.new s 1, H3.out, hb12⟩
  case round =>
    obtain ⟨k, B, hk, rfl, hI, hB, hbr⟩ := hrel
    have HI := Lib.hid hI
    have HB := Lib.hid hB
    have hpb : Hid (B.pb = s + 1) := hI.pb
    clear hI hB
    by_cases hlt : k < n1
    · obtain ⟨b, off, rfl, hbl, hc⟩ := H1.out.cell k hlt
      have hcr := cellB hbr hbl hc
      generalize l1.getD k 0 = who at hcr
      clear hc
      go_wp2_with fail
      rw [← hpb.out]
      refine (watch_any B 1 who _ HB.out (fun i hi => by have := HI.out.wl i; omega)).mono ?_
      rintro e w3 ⟨rfl, hB3, hf3⟩
      rw [hpb.out]
      have HB3 := Lib.hid hB3
      have HF3 := Lib.hid hf3
      clear hB3 hf3
      go_wp2_with fail
      go_roundw
      case rel => exact ⟨k + 1, B.add 1 who, by omega, by go_num, HI.out.add (by omega) who, HB3.out, hbr.trans (HF3.out.below hbr.size fun j hj hm => by rw [HI.out.fp] at hm; simp [newB, Brd.fp] at hm; omega)⟩
      case measure => simp [intOf]; omega
    · clear H1 H3 hb12
      go_wp2_with fail
      rw [← hpb.out]
      refine (notify_yes B 1 (-1) 50 _ HB.out (by omega) (okI_of (by omega) (by omega)) (by have := HI.out.wl 1; omega) (by rw [HI.out.last]; omega) (by rw [HI.out.last]; omega) (by rw [HI.out.ns]; simp) (by rw [HI.out.ns]; simp)).mono ?_
      rintro e w3 ⟨v3, rfl, hv3, hn3, hB3, hf3⟩
      rw [hpb.out, HI.out.last]
      rw [remS_pos HI.out.pos, HI.out.note] at hB3
      rw [remS_pos HI.out.pos] at hv3
      have hmlen : Hid ((B.wl 1).length ≤ 50) := by have := HI.out.wl 1; exact Nat.le_trans this (by omega)
      have hbel : Below w.heap.size wr w3 := hf3.below hbr.size fun j hj hm => by rw [HI.out.fp] at hm; simp [newB, Brd.fp] at hm; omega
      have hb3 := hbr.trans hbel
      obtain ⟨ma, mc, rfl⟩ := owns_shape hv3
      have hs3 : Hid (w.heap.size ≤ wr.heap.size) := hbr.size
      generalize hm0 : B.wl 1 = m0 at *
      have HM0 := Lib.hid hm0
      have HB3 := Lib.hid hB3
      clear hB3 hv3 hn3 hf3 hbel hm0
      generalize wr.heap.size = s3 at *
      have HLow : Hid (∀ m j, j < w.heap.size → j ∉ (B.one 50 s3 m).fp) := by
        intro m j hj hm
        rw [one_fp B HI.out.ns, HI.out.fp] at hm
        have := hs3.out
        simp [newB, Brd.fp] at hm
        omega
      have HB3 : Hid (IsB w3 (B.one 50 s3 m0)) := HB3.out
      have hp1 : Hid (∀ m, (B.one 50 s3 m).pb = s + 1) := fun _ => hpb.out
      have HOff : Hid (∀ m, ∀ j ∈ B.off.fp, j ∈ (B.one 50 s3 m).fp ∧ w.heap.size ≤ j) := by
        intro m j hm
        have e : B.off.fp = B.fp := by simp [Brd.fp, Brd.off, HI.out.ns]
        rw [e] at hm
        refine ⟨by rw [one_fp B HI.out.ns]; exact List.mem_append_left _ hm, ?_⟩
        rw [HI.out.fp] at hm
        simp [newB, Brd.fp] at hm
        omega
      clear HI HM0 HB hbr hpb hs3
      go_wp2
      go_loopw [12, 13] (fun lf i wr => ∃ (k : Nat) (m : List Int), k ≤ n2 ∧ i = .int .i64 k ∧ lf = .int .i64 m.length ∧ m.length ≤ 50 ∧ IsB wr (B.one 50 s3 m) ∧ Below w.heap.size w wr) (fun _ i _ => n2 - (intOf i).toNat)
      case atStart => exact ⟨0, m0, Nat.zero_le _, rfl, rfl, hmlen.out, HB3.out, hb3⟩
      case round =>
        obtain ⟨k2, m, hk2, rfl, rfl, hm50, hB4, hb4⟩ := hrel
        have HB4 := Lib.hid hB4
        have hup := Lib.hid (setV_nodup (hB4.each _ (List.mem_singleton.2 rfl)).2)
        clear hB4 HB3
        by_cases hlt2 : k2 < n2
        · obtain ⟨b, off, rfl, hbl, hc⟩ := H2.out.cell k2 hlt2
          have hcr := cellB hb4 hbl hc
          have hok : Hid (okI (l2.getD k2 0)) := by
            refine H2.out.ok _ ?_
            rw [List.getD_eq_getElem?_getD, List.getElem?_eq_getElem (by rw [H2.out.len]; exact hlt2)]
            simp
          generalize l2.getD k2 0 = who at *
          clear hc
          go_wp2_with fail
          rw [← hp1.out m]
          refine (ack_any (B.one 50 s3 m) 1 who _ HB4.out (okI_of (by omega) (by omega)) hok.out).mono ?_
          rintro e w4 ⟨rfl, hB5, hf5⟩
          rw [hp1.out m]
          rw [one_ack] at hB5
          rw [one_ackB]
          have HF5 := Lib.hid (hb4.trans (hf5.below hb4.size (HLow.out m)))
          by_cases hmem : who ∈ m
          · rw [if_pos hmem] at hB5
            have HB5 := Lib.hid hB5
            have hlen := remS_succ hup.out hmem
            have HM := Lib.hid (decide_eq_true hmem)
            rw [HM.out]
            clear hB5 hf5 HM hmem
            go_wp2_with fail
            go_roundw
            case rel => exact ⟨k2 + 1, remS who m, by omega, by go_num, by go_num, by omega, HB5.out, HF5.out⟩
            case measure => simp [intOf]; omega
          · rw [if_neg hmem] at hB5
            have HB5 := Lib.hid hB5
            have HM := Lib.hid (decide_eq_false hmem)
            rw [HM.out]
            clear hB5 hf5 HM hmem
            go_wp2_with fail
            go_roundw
            case rel => exact ⟨k2 + 1, m, by omega, by go_num, rfl, by omega, HB5.out, HF5.out⟩
            case measure => simp [intOf]; omega
        · clear H2 hup hb3
          go_wp2_with fail
          rw [← hp1.out m]
          refine (missing_any (B.one 50 s3 m) 1 _ HB4.out (okI_of (by omega) (by omega)) (by intro n hn; obtain rfl := List.mem_singleton.1 hn; show m.length ≤ _; omega)).mono ?_
          intro e w5 hfr
          obtain ⟨v5, rfl, hv5, hn5, hb5⟩ := hfr
          rw [hp1.out m]
          rw [one_miss] at hv5
          obtain ⟨ma5, mc5, rfl⟩ := owns_shape hv5
          have HB5 := Lib.hid (HB4.out.ext hb5)
          have hb5' : Below w.heap.size w w5 := hb4.trans (hb5.mono hb4.size)
          clear hv5 hn5 hb5 hb4
          go_wp2_with fail
          have hat : Hid (∀ x ∈ (B.one 50 s3 m).ns, 0 ≤ x.at_ ∧ x.at_ ≤ 1099511627776) := fun x hx => by obtain rfl := List.mem_singleton.1 hx; simp
          by_cases hov : m.length ≤ 0 ∨ 8 ≤ t
          · have hyes : overB (50 + t) ⟨1, 50, s3 + 1, s3, m⟩ = true := by
              simp only [overB, Bool.or_eq_true, Bool.and_eq_true, decide_eq_true_eq, List.isEmpty_iff]
              rcases hov with h | h
              · exact .inl (List.length_eq_zero_iff.1 (by omega))
              · exact .inr ⟨by omega, by omega⟩
            obtain ⟨e1, e2⟩ := one_yes B s3 m _ hyes
            have E1 := Lib.hid e1
            have E2 := Lib.hid e2
            clear e1 e2 hyes
            rw [← hp1.out m]
            refine (over_any (B.one 50 s3 m) (50 + t) _ HB5.out (by omega) (by omega) hat.out (by simp [Brd.one])).mono ?_
            rintro e w6 ⟨v6, rfl, hv6, hB6, hf6⟩
            rw [hp1.out m]
            rw [E1.out] at hv6
            rw [E2.out] at hB6
            have V6 : Hid (w6.ownsRow w5.heap.size 3 1 v6 1 [.int .i64 1]) := hv6
            obtain ⟨a6, c6, rfl⟩ := owns_shape V6.out
            have HB6 := Lib.hid hB6
            have hb6 : Below w.heap.size w w6 := hb5'.trans (hf6.below hb5'.size (HLow.out m))
            have hp2 : Hid (B.off.pb = s + 1) := hp1.out m
            have HL2 : Hid (∀ j, w5.heap.size ≤ j → j ∉ B.off.fp) := fun j hj hm => by
              have := HB5.out.lt j (HOff.out m j hm).1
              omega
            have HL3 : Hid (∀ j, j < w.heap.size → j ∉ B.off.fp) := fun j hj hm => by
              have := (HOff.out m j hm).2
              omega
            clear hv6 hB6 hf6 hb5'
            go_wp2_with fail
            rw [← hp2.out]
            refine (over_any B.off 1000 _ HB6.out (by omega) (by omega) (by simp [Brd.off]) (by simp [Brd.off])).mono ?_
            rintro e w7 ⟨v7, rfl, hv7, hB7, hf7⟩
            rw [hp2.out]
            rw [(off_over B 1000).1] at hv7
            rw [(off_over B 1000).2] at hB7
            have V7 : Hid (w7.ownsRow w6.heap.size 3 1 v7 0 []) := hv7
            obtain ⟨a7, c7, rfl⟩ := owns_shape V7.out
            have HB7 := Lib.hid hB7
            have hb7 : Below w.heap.size w w7 := hb6.trans (hf7.below hb6.size HL3.out)
            have S7 : Hid (Sl w7 1 (.slice a6 1 c6) 1 ([1].map (Value.int .i64))) := Sl.of_owns (owns_fr V6.out hf7 HL2.out)
            clear hv7 hB7 hf7 hb6
            have tst : Hid (((m.length : Int) == 0) = true ∨ ((m.length : Int) == 0) = false ∧ 8 ≤ t) := by
              rcases Nat.eq_zero_or_pos m.length with h | h
              · exact .inl (by simp [h])
              · exact .inr ⟨by rw [beq_eq_false_iff_ne]; omega, by omega⟩
            clear hov
            rcases tst.out with q | ⟨q, q8⟩
            all_goals
              go_wp2_with fail
              refine (ints_same _ _ [1] 1 _ rfl (by omega) (S7.out.mono ((Below.refl _ _).alloc (Nat.le_refl _) _)) (sl_one _ _ _)).mono ?_
              rintro e w8 ⟨rfl, hb8⟩
              have hb8' : Below w7.heap.size w7 w8 := ((Below.refl _ w7).alloc (Nat.le_refl _) _).trans (hb8.mono (by simp))
              go_wp2_with fail
              rw [← hp2.out]
              refine (open_any B.off w8 (HB7.out.ext hb8')).mono ?_
              rintro e w9 ⟨rfl, rfl⟩
              go_wp2_with fail
              go_ret
              exact ⟨rfl, hb7.trans (hb8'.mono hb7.size)⟩
          · have hno : overB (50 + t) ⟨1, 50, s3 + 1, s3, m⟩ = false := by
              simp only [overB, Bool.or_eq_false_iff, Bool.and_eq_false_iff, decide_eq_false_iff_not, List.isEmpty_eq_false_iff]
              exact ⟨fun h => hov (.inl (by simp [h])), .inr (by omega)⟩
            have hyes : overB 1000 ⟨1, 50, s3 + 1, s3, m⟩ = true := by simp [overB]
            obtain ⟨e1, e2⟩ := one_no B s3 m _ hno
            obtain ⟨e3, e4⟩ := one_yes B s3 m _ hyes
            have E1 := Lib.hid e1
            have E2 := Lib.hid e2
            have E3 := Lib.hid e3
            have E4 := Lib.hid e4
            clear e1 e2 e3 e4 hyes hno
            have q : ((m.length : Int) == 0) = false := by rw [beq_eq_false_iff_ne]; omega
            have q8 : t < 8 := by omega
            clear hov
            rw [← hp1.out m]
            refine (over_any (B.one 50 s3 m) (50 + t) _ HB5.out (by omega) (by omega) hat.out (by simp [Brd.one])).mono ?_
            rintro e w6 ⟨v6, rfl, hv6, hB6, hf6⟩
            rw [hp1.out m]
            rw [E1.out] at hv6
            rw [E2.out] at hB6
            have V6 : Hid (w6.ownsRow w5.heap.size 3 1 v6 0 []) := hv6
            obtain ⟨a6, c6, rfl⟩ := owns_shape V6.out
            have HB6 := Lib.hid hB6
            have hb6 : Below w.heap.size w w6 := hb5'.trans (hf6.below hb5'.size (HLow.out m))
            have hp2 : Hid (B.off.pb = s + 1) := hp1.out m
            clear hv6 hB6 hf6 hb5'
            go_wp2_with fail
            rw [← hp1.out m]
            refine (over_any (B.one 50 s3 m) 1000 _ HB6.out (by omega) (by omega) hat.out (by simp [Brd.one])).mono ?_
            rintro e w7 ⟨v7, rfl, hv7, hB7, hf7⟩
            rw [hp1.out m]
            rw [E3.out] at hv7
            rw [E4.out] at hB7
            have V7 : Hid (w7.ownsRow w6.heap.size 3 1 v7 1 [.int .i64 1]) := hv7
            obtain ⟨a7, c7, rfl⟩ := owns_shape V7.out
            have HB7 := Lib.hid hB7
            have hb7 : Below w.heap.size w w7 := hb6.trans (hf7.below hb6.size (HLow.out m))
            have S7 : Hid (Sl w7 1 (.slice a7 1 c7) 1 ([1].map (Value.int .i64))) := Sl.of_owns V7.out
            clear hv7 hB7 hf7 hb6
            go_wp2_with fail
            refine (ints_same _ _ [1] 1 _ rfl (by omega) (S7.out.mono ((Below.refl _ _).alloc (Nat.le_refl _) _)) (sl_one _ _ _)).mono ?_
            rintro e w8 ⟨rfl, hb8⟩
            have hb8' : Below w7.heap.size w7 w8 := ((Below.refl _ w7).alloc (Nat.le_refl _) _).trans (hb8.mono (by simp))
            go_wp2_with fail
            rw [← hp2.out]
            refine (open_any B.off w8 (HB7.out.ext hb8')).mono ?_
            rintro e w9 ⟨rfl, rfl⟩
            go_wp2_with fail
            go_ret
            exact ⟨rfl, hb7.trans (hb8'.mono hb7.size)⟩

set_option maxRecDepth 100000 in
set_option maxHeartbeats 4000000 in
theorem over_out (a1 a2 : Option Addr) (n1 n2 c1 c2 : Nat) (t : Int) (w : World) (h : t < 0 ∨ (0 ≤ t ∧ 100 < t) ∨ (0 ≤ t ∧ t ≤ 100 ∧ 50 < n1) ∨ (0 ≤ t ∧ t ≤ 100 ∧ n1 ≤ 50 ∧ 50 < n2)) :
    Calls Try.prog 3 #[.slice a1 n1 c1, .slice a2 n2 c2, .int .i64 t] w fun e w' => e = .returned (.bool true) ∧ Below w.heap.size w w' := by
  rcases h with h | ⟨h1, h2⟩ | ⟨h1, h2, h3⟩ | ⟨h1, h2, h3, h4⟩
  all_goals
    go_enter Try.func3, Try.ntmps3
    go_wp2_with fail
    refine (awake_any _).mono ?_
    rintro e w1 ⟨rfl, hb1⟩
    go_wp2_with fail
    go_ret
    exact ⟨rfl, hb1⟩
theorem watchOver_any (a1 a2 : Option Addr) (n1 n2 c1 c2 : Nat) (l1 l2 : List Int) (t : Int) (ht : okI t) (w : World) (h1 : RdI w a1 n1 l1) (h2 : RdI w a2 n2 l2) :
    Calls Try.prog 3 #[.slice a1 n1 c1, .slice a2 n2 c2, .int .i64 t] w fun e w' => e = .returned (.bool true) ∧ Below w.heap.size w w' := by
  by_cases h : t < 0 ∨ (0 ≤ t ∧ 100 < t) ∨ (0 ≤ t ∧ t ≤ 100 ∧ 50 < n1) ∨ (0 ≤ t ∧ t ≤ 100 ∧ n1 ≤ 50 ∧ 50 < n2)
  · exact over_out a1 a2 n1 n2 c1 c2 t w h
  · exact over_law a1 a2 n1 n2 c1 c2 l1 l2 t ht w h1 h2 (by omega) (by omega) (by omega) (by omega)
end Go.Proofs.Ytiikkglgoanpbaa
