/- WatchApart. -/
import Derived.Test.YtiikkglgoanpbaaOver14
namespace Go.Proofs.Ytiikkglgoanpbaa
open Go.RowKit Go.Maps Go.WideShapes

theorem i64_mask (x : Int) (j : Nat) (hj : j < 63) : bits .and .i64 x (((2 ^ j - 1 : Nat) : Int)) = x % ((2 ^ j : Nat) : Int) := by
  have hm : 2 ^ j - 1 < 2 ^ 64 := Nat.lt_of_le_of_lt (Nat.sub_le _ _) (Nat.pow_lt_pow_right (by decide) (by omega))
  have hj' : 2 ^ j ≤ 2 ^ 62 := Nat.pow_le_pow_right (by decide) (by omega)
  have hp : 0 < 2 ^ j := Nat.two_pow_pos j
  have hd : ((2 ^ j : Nat) : Int) ∣ ((2 ^ 64 : Nat) : Int) := Int.natCast_dvd_natCast.2 (Nat.pow_dvd_pow 2 (by omega))
  have e1 : (BitVec.ofInt IntKind.i64.bits (((2 ^ j - 1 : Nat) : Int))).toNat = 2 ^ j - 1 := by
    rw [BitVec.ofInt_natCast, BitVec.toNat_ofNat]
    exact Nat.mod_eq_of_lt hm
  have e2 : ((BitVec.ofInt IntKind.i64.bits x).toNat : Int) = x % ((2 ^ 64 : Nat) : Int) := by
    rw [BitVec.toNat_ofInt]
    exact Int.toNat_of_nonneg (Int.emod_nonneg _ (by decide))
  have e3 : (((BitVec.ofInt IntKind.i64.bits x).toNat % 2 ^ j : Nat) : Int) = x % ((2 ^ j : Nat) : Int) := by
    rw [Int.natCast_emod, e2, Int.emod_emod_of_dvd _ hd]
  have h0 : 0 ≤ x % ((2 ^ j : Nat) : Int) := Int.emod_nonneg _ (by omega)
  have h1 : x % ((2 ^ j : Nat) : Int) < ((2 ^ j : Nat) : Int) := Int.emod_lt_of_pos _ (by omega)
  have e4 : bits .and .i64 x (((2 ^ j - 1 : Nat) : Int)) = IntKind.i64.wrap (((BitVec.ofInt IntKind.i64.bits x &&& BitVec.ofInt IntKind.i64.bits (((2 ^ j - 1 : Nat) : Int))).toNat : Nat) : Int) := rfl
  rw [e4, BitVec.toNat_and, e1, Nat.and_two_pow_sub_one_eq_mod, e3]
  refine IntWalk.i64_in _ ⟨by omega, ?_⟩
  have : ((2 ^ j : Nat) : Int) ≤ ((2 ^ 62 : Nat) : Int) := Int.ofNat_le.2 hj'
  have e5 : ((2 ^ 62 : Nat) : Int) = 4611686018427387904 := by decide
  omega
theorem and3 (x : Int) : ∃ i : Nat, i < 4 ∧ x % 4 = i ∧ bits .and .i64 x 3 = (i : Int) := by
  have h := i64_mask x 2 (by omega)
  have h0 : 0 ≤ x % 4 := Int.emod_nonneg _ (by decide)
  have h1 : x % 4 < 4 := Int.emod_lt_of_pos _ (by decide)
  obtain ⟨i, hi⟩ := Int.eq_ofNat_of_zero_le h0
  exact ⟨i, by omega, hi, h.trans hi⟩

def Brd.three (B : Brd) (s1 s2 s3 : Nat) (m1 m3 : List Int) : Brd := { B with last := 3, ns := [⟨1, 1, s1 + 1, s1, m1⟩, ⟨2, 1, s2 + 1, s2, []⟩, ⟨3, 2, s3 + 1, s3, m3⟩] }
theorem three_fp (B : Brd) (h : B.ns = []) (s1 s2 s3 : Nat) (m1 m3 : List Int) : (B.three s1 s2 s3 m1 m3).fp = B.fp ++ [s1 + 1, s1, s2 + 1, s2, s3 + 1, s3] := by simp [Brd.fp, Brd.three, h]
theorem three_note {s a k : Nat} {B : Brd} (h : InW s a k B) (s1 s2 s3 : Nat) (m1 m3 : List Int) : ((B.note s1 1 m1).note s2 1 []).note s3 2 m3 = B.three s1 s2 s3 m1 m3 := by
  unfold Brd.note Brd.three
  simp only [h.ns, h.last]
  rfl
theorem three_miss1 (B : Brd) (s1 s2 s3 : Nat) (m1 m3 : List Int) : (B.three s1 s2 s3 m1 m3).missL 1 = m1 := rfl
theorem three_miss3 (B : Brd) (s1 s2 s3 : Nat) (m1 m3 : List Int) : (B.three s1 s2 s3 m1 m3).missL 3 = m3 := rfl
theorem three_ackB (B : Brd) (s1 s2 s3 : Nat) (m1 m3 : List Int) (who : Int) : (B.three s1 s2 s3 m1 m3).ackB 1 who = decide (who ∈ m1) := rfl
theorem three_ack (B : Brd) (s1 s2 s3 : Nat) (m1 m3 : List Int) (who : Int) (h : who ∈ m1) : (B.three s1 s2 s3 m1 m3).ack 1 who = B.three s1 s2 s3 (remS who m1) m3 := by
  unfold Brd.ack
  rw [three_ackB]
  simp only [h, decide_true, if_true, three_miss1]
  simp [Brd.setN, Ytiikkglgoanpbaa.setN, Brd.three]
theorem three_over (B : Brd) (s1 s2 s3 : Nat) (m3 : List Int) (h : 0 < m3.length) : (B.three s1 s2 s3 [] m3).ns.filter (overB 3) = [⟨1, 1, s1 + 1, s1, []⟩, ⟨2, 1, s2 + 1, s2, []⟩] ∧ ((B.three s1 s2 s3 [] m3).keep ((B.three s1 s2 s3 [] m3).ns.filter fun n => !overB 3 n)).ns.length = 1 := by
  have e : m3.isEmpty = false := by cases m3 <;> simp_all
  simp [Brd.three, overB, Brd.keep, e]
theorem three_over0 (B : Brd) (s1 s2 s3 : Nat) : (B.three s1 s2 s3 [] []).ns.filter (overB 3) = [⟨1, 1, s1 + 1, s1, []⟩, ⟨2, 1, s2 + 1, s2, []⟩, ⟨3, 2, s3 + 1, s3, []⟩] := by
  simp [Brd.three, overB]
theorem drop_rem {l : List Int} (h : l.Pairwise (· < ·)) {k : Nat} (hk : k < l.length) : remS (l.getD k 0) (l.drop k) = l.drop (k + 1) := by
  have hd := List.drop_eq_getElem_cons hk
  have hp : (l.drop k).Pairwise (· < ·) := List.Pairwise.sublist (List.drop_sublist _ _) h
  rw [show l.getD k 0 = l[k] by simp [List.getD_eq_getElem?_getD, List.getElem?_eq_getElem hk]]
  rw [hd] at hp ⊢
  have hp := List.pairwise_cons.1 hp
  simp only [remS, List.filter_cons, beq_self_eq_true, Bool.not_true, Bool.false_eq_true, if_false]
  refine List.filter_eq_self.2 fun x hx => ?_
  have := hp.1 x hx
  simp; omega
theorem drop_mem {l : List Int} {k : Nat} (hk : k < l.length) : l.getD k 0 ∈ l.drop k := by
  rw [List.drop_eq_getElem_cons hk, show l.getD k 0 = l[k] by simp [List.getD_eq_getElem?_getD, List.getElem?_eq_getElem hk]]
  exact List.mem_cons_self

/-- a row of the call's own, in a block from base on and below top -/
structure OwR (base top : Nat) (w : World) (v : Value) (n : Nat) (l : List Int) : Prop where
  own : w.ownsRow base 3 1 v n (l.map (Value.int .i64))
  top : ∀ g, v.ownBlock = some g → g < top
theorem OwR.of {base n : Nat} {w : World} {v : Value} {l : List Int} (h : w.ownsRow base 3 1 v n (l.map (Value.int .i64))) : OwR base w.heap.size w v n l := ⟨h, fun g hg => (h.lt g hg).2⟩
theorem OwR.fr {base top n : Nat} {w w' : World} {v : Value} {l : List Int} {S : Nat → Prop} (h : OwR base top w v n l) (hf : Fr S w w') (hS : ∀ k, base ≤ k → k < top → ¬ S k) : OwR base top w' v n l := by
  refine ⟨⟨h.own.1, h.own.2.imp id ?_⟩, h.top⟩
  rintro ⟨g, cap, cur, rfl, hb, hg, hr⟩
  exact ⟨g, cap, cur, rfl, hb, (hf.block g (lt_of_block hg) (hS g hb (h.top g rfl))).trans hg, hr⟩
theorem OwR.ext {base top n : Nat} {w w' : World} {v : Value} {l : List Int} (h : OwR base top w v n l) (hb : Below w.heap.size w w') : OwR base top w' v n l := h.fr (Fr.ext (S := fun _ => False) hb) fun _ _ _ e => e
theorem OwR.sl {base top n : Nat} {w : World} {v : Value} {l : List Int} (h : OwR base top w v n l) : Sl w 1 v n (l.map (Value.int .i64)) := Sl.of_owns h.own
theorem OwR.at {base top n : Nat} {w : World} {a : Option Addr} {c : Nat} {l : List Int} (h : OwR base top w (.slice a n c) n l) (hl : l.length = n) {k : Nat} (hk : k < n) : ∃ g, a = some ⟨g, 0, none⟩ ∧ w.cell? ⟨g, k, none⟩ = some (.int .i64 (l.getD k 0)) := by
  obtain ⟨g, cap, e1⟩ := row_some h.own (by omega)
  simp only [Value.slice.injEq] at e1
  obtain ⟨rfl, _, rfl⟩ := e1
  have hc : w.cell? ⟨g, k, none⟩ = _ := h.own.cellAt k (by omega)
  refine ⟨g, rfl, ?_⟩
  rw [hc, List.getElem?_map, List.getElem?_eq_getElem (by omega)]
  simp [List.getD_eq_getElem?_getD, List.getElem?_eq_getElem (show k < l.length by omega)]
theorem sl_two (w : World) (x y : Int) (t : TypeId) : Sl (w.alloc (.cells #[.int .i64 x, .int .i64 y] t)) 1 (.slice (some ⟨w.heap.size, 0, none⟩) 2 2) 2 ([x, y].map (Value.int .i64)) := by
  refine ⟨rfl, .inr ⟨w.heap.size, 0, 2, rfl, by simp, by omega, fun j hj => ?_⟩⟩
  obtain rfl | rfl : j = 0 ∨ j = 1 := by omega
  all_goals simp
theorem sl_three (w : World) (x y z : Int) (t : TypeId) : Sl (w.alloc (.cells #[.int .i64 x, .int .i64 y, .int .i64 z] t)) 1 (.slice (some ⟨w.heap.size, 0, none⟩) 3 3) 3 ([x, y, z].map (Value.int .i64)) := by
  refine ⟨rfl, .inr ⟨w.heap.size, 0, 3, rfl, by simp, by omega, fun j hj => ?_⟩⟩
  obtain rfl | rfl | rfl : j = 0 ∨ j = 1 ∨ j = 2 := by omega
  all_goals simp

set_option maxRecDepth 100000 in
set_option maxHeartbeats 4000000 in
theorem apart_law (a b : Int) (i j : Nat) (hi : i < 4) (hj : j < 4) (ea : bits .and .i64 a 3 = (i : Int)) (eb : bits .and .i64 b 3 = (j : Int)) (t1 : ((i : Int) == (j : Int)) = false) (t2 : (i == j) = false)
    (a1 : Option Addr) (n1 c1 : Nat) (l1 : List Int) (w : World) (h1 : RdI w a1 n1 l1) (b2 : n1 ≤ 40) :
    Calls Try.prog 4 #[.int .i64 a, .int .i64 b, .slice a1 n1 c1] w fun e w' => e = .returned (.bool true) ∧ Below w.heap.size w w' := by
  have H1 := Lib.hid h1
  have HJ : Hid (j ≠ i) := by intro e; subst e; simp at t2
  clear h1
  go_enter Try.func4, Try.ntmps4
  go_wp2_with fail
  refine (awake_any _).mono ?_
  rintro e w1 ⟨rfl, hb1⟩
  go_wp2_with fail
  refine (new_any _).mono ?_
  rintro e w2 ⟨rfl, hB2, hb2⟩
  have H3 := Lib.hid hB2
  clear hB2 ea eb t1 t2
  generalize hs : w1.heap.size = s at *
  have hsw : w.heap.size ≤ s := by have := hb1.size; omega
  have hb12 : Below w.heap.size w w2 := hb1.trans (hb2.mono (by omega))
  clear hb1 hb2 hs
  go_wp2
  go_loopw [9] (fun q wr => ∃ (k : Nat) (B : Brd), k ≤ n1 ∧ q = .int .i64 k ∧ InW s i k B ∧ IsB wr B ∧ Below w.heap.size w wr) (fun q _ => n1 - (intOf q).toNat)
  case atStart => exact ⟨0, newB s, Nat.zero_le _, rfl, InW.new s i, H3.out, hb12⟩
  case round =>
    obtain ⟨k, B, hk, rfl, hI, hB, hbr⟩ := hrel
    have HI := Lib.hid hI
    have HB := Lib.hid hB
    have hpb : Hid (B.pb = s + 1) := hI.pb
    clear hI hB
    by_cases hlt : k < n1
    · obtain ⟨b, off, rfl, hbl, hc⟩ := H1.out.cell k hlt
      have hcr := cellB hbr hbl hc
      generalize l1.getD k 0 = who at hcr
      clear hc
      go_wp2_with fail
      rw [← hpb.out]
      refine (watch_any B i who _ HB.out (fun i hi => by have := HI.out.wl i; omega)).mono ?_
      rintro e w3 ⟨rfl, hB3, hf3⟩
      rw [hpb.out]
      have HB3 := Lib.hid hB3
      have HF3 := Lib.hid hf3
      clear hB3 hf3
      go_wp2_with fail
      go_roundw
      case rel => exact ⟨k + 1, B.add i who, by omega, by go_num, HI.out.add hi who, HB3.out, hbr.trans (HF3.out.below hbr.size fun j hj hm => by rw [HI.out.fp] at hm; simp [newB, Brd.fp] at hm; omega)⟩
      case measure => simp [intOf]; omega
    · clear H1 H3 hb12
      obtain ⟨l, hl⟩ : ∃ l, B.wl i = l := ⟨_, rfl⟩
      have HL : Hid (l.length ≤ 40 ∧ (∀ x ∈ l, 0 ≤ x ∧ x < 8) ∧ l.Pairwise (· < ·)) := by
        rw [← hl]
        exact ⟨Nat.le_trans HI.out.len (by omega), fun x hx => ⟨HI.out.pos x hx, HI.out.lt x hx⟩, setV_nodup (HB.out.watch i hi)⟩
      have hrem : Hid (remS (-1) (B.wl i) = l) := by show _ = _; rw [remS_pos HI.out.pos]; exact hl
      have hrem2 : Hid (remS (-1) (B.wl j) = []) := by show _ = _; rw [HI.out.other j HJ.out]; rfl
      have hlst : Hid (B.last = 0) := HI.out.last
      have hns : Hid (B.ns = []) := HI.out.ns
      have hwl : Hid (∀ q, (B.wl q).length ≤ 100000) := fun q => by have := HI.out.wl q; omega
      have hfp : Hid (∀ q ∈ B.fp, w.heap.size ≤ q ∧ q < wr.heap.size) := fun q hm => by
        have := HB.out.lt q hm
        rw [HI.out.fp] at hm
        simp [newB, Brd.fp] at hm
        omega
      clear hl
      go_wp2_with fail
      rw [← hpb.out]
      refine (notify_yes B i (-1) 1 _ HB.out hi (okI_of (by omega) (by omega)) (hwl.out i) (by rw [hlst.out]; omega) (by rw [hlst.out]; omega) (by rw [hns.out]; simp) (by rw [hns.out]; simp)).mono ?_
      rintro e w3 ⟨v3, rfl, hv3, hn3, hB3, hf3⟩
      rw [hpb.out, hlst.out]
      rw [hrem.out] at hB3 hv3
      have V3 := Lib.hid (OwR.of hv3)
      obtain ⟨m3a, m3c, rfl⟩ := owns_shape hv3
      have HB3 : Hid (IsB w3 (B.note wr.heap.size 1 l)) := hB3
      have HF3 := Lib.hid hf3
      have hp3 : Hid ((B.note wr.heap.size 1 l).pb = s + 1) := hpb.out
      clear hB3 hv3 hn3 hf3
      go_wp2_with fail
      rw [← hp3.out]
      refine (notify_yes (B.note wr.heap.size 1 l) j (-1) 1 _ HB3.out hj (okI_of (by omega) (by omega)) (hwl.out j) (by simp [Brd.note, hlst.out]) (by simp [Brd.note, hlst.out]) (by simp [Brd.note, hlst.out, hns.out]) (by simp [Brd.note, hns.out])).mono ?_
      rintro e w4 ⟨v4, rfl, hv4, hn4, hB4, hf4⟩
      rw [hp3.out, show (B.note wr.heap.size 1 l).last = 1 by simp [Brd.note, hlst.out]]
      rw [show remS (-1) ((B.note wr.heap.size 1 l).wl j) = [] from hrem2.out] at hB4 hv4
      have V4 : Hid (w4.ownsRow (w3.heap.size + 2) 3 1 v4 0 []) := hv4
      obtain ⟨m4a, m4c, rfl⟩ := owns_shape V4.out
      have HB4 : Hid (IsB w4 ((B.note wr.heap.size 1 l).note w3.heap.size 1 [])) := hB4
      have HF4 := Lib.hid hf4
      have hp4 : Hid (((B.note wr.heap.size 1 l).note w3.heap.size 1 []).pb = s + 1) := hpb.out
      clear hB4 hv4 hn4 hf4
      go_wp2_with fail
      rw [← hp4.out]
      refine (notify_yes ((B.note wr.heap.size 1 l).note w3.heap.size 1 []) i (-1) 2 _ HB4.out hi (okI_of (by omega) (by omega)) (hwl.out i) (by simp [Brd.note, hlst.out]) (by simp [Brd.note, hlst.out]) (by simp [Brd.note, hlst.out, hns.out]) (by simp [Brd.note, hns.out])).mono ?_
      rintro e w5 ⟨v5, rfl, hv5, hn5, hB5, hf5⟩
      rw [hp4.out, show ((B.note wr.heap.size 1 l).note w3.heap.size 1 []).last = 2 by simp [Brd.note, hlst.out]]
      rw [show remS (-1) (((B.note wr.heap.size 1 l).note w3.heap.size 1 []).wl i) = l from hrem.out] at hB5 hv5
      have V5 := Lib.hid (OwR.of hv5)
      obtain ⟨m5a, m5c, rfl⟩ := owns_shape hv5
      have HB5 : Hid (IsB w5 (B.three wr.heap.size w3.heap.size w4.heap.size l l)) := by
        have : ((B.note wr.heap.size 1 l).note w3.heap.size 1 []).note w4.heap.size (clampT 2) l = B.three wr.heap.size w3.heap.size w4.heap.size l l := three_note HI.out _ _ _ _ _
        rw [this] at hB5
        exact hB5
      have hbel : Hid (Below w.heap.size w w5) ∧ Hid (OwR (wr.heap.size + 2) w3.heap.size w5 (.slice m3a l.length m3c) l.length l) ∧ Hid (w.heap.size ≤ wr.heap.size ∧ wr.heap.size ≤ w3.heap.size ∧ w3.heap.size ≤ w4.heap.size) := by
        have q0 := hbr.size
        have q3 := HF3.out.size
        have q4 := HF4.out.size
        have e1 : ∀ q, q ∈ (B.note wr.heap.size 1 l).fp → q ∈ B.fp ∨ q = wr.heap.size + 1 ∨ q = wr.heap.size := by
          intro q hq; simp [Brd.note, Brd.fp, hns.out] at hq ⊢; omega
        have e2 : ∀ q, q ∈ ((B.note wr.heap.size 1 l).note w3.heap.size 1 []).fp → q ∈ B.fp ∨ q = wr.heap.size + 1 ∨ q = wr.heap.size ∨ q = w3.heap.size + 1 ∨ q = w3.heap.size := by
          intro q hq; simp [Brd.note, Brd.fp, hns.out] at hq ⊢; omega
        have b3 : Below w.heap.size wr w3 := HF3.out.below q0 fun q hq hm => by have := hfp.out q hm; omega
        have b4 : Below w.heap.size w3 w4 := HF4.out.below (by omega) fun q hq hm => by
          rcases e1 q hm with hm | hm
          · have := hfp.out q hm; omega
          · omega
        have b5 : Below w.heap.size w4 w5 := hf5.below (by omega) fun q hq hm => by
          rcases e2 q hm with hm | hm
          · have := hfp.out q hm; omega
          · omega
        refine ⟨((hbr.trans b3).trans b4).trans b5, ?_, q0, q3, q4⟩
        refine (V3.out.fr HF4.out fun q h1 h2 hm => ?_).fr hf5 fun q h1 h2 hm => ?_
        · rcases e1 q hm with hm | hm
          · have := hfp.out q hm; omega
          · omega
        · rcases e2 q hm with hm | hm
          · have := hfp.out q hm; omega
          · omega
      obtain ⟨hb5, V35, hsz⟩ := hbel
      have hp5 : Hid (∀ m, (B.three wr.heap.size w3.heap.size w4.heap.size m l).pb = s + 1) := fun _ => hpb.out
      have hlow : Hid (∀ m, ∀ q ∈ (B.three wr.heap.size w3.heap.size w4.heap.size m l).fp, w.heap.size ≤ q ∧ ¬ (wr.heap.size + 2 ≤ q ∧ q < w3.heap.size)) := by
        intro m q hm
        have := hsz.out
        rw [three_fp B hns.out] at hm
        simp only [List.mem_append, List.mem_cons, List.not_mem_nil, or_false] at hm
        rcases hm with hm | hm
        · have := hfp.out q hm; omega
        · omega
      clear hB5 hv5 hn5 hf5 HF3 HF4 V3 V4 HB3 HB4 hp3 hp4 hpb hrem hrem2 hlst hwl hbr HI HB hfp hns
      generalize wr.heap.size = s1 at *
      generalize w3.heap.size = s2 at *
      generalize w4.heap.size = s3 at *
      go_wp2_with fail
      refine (ints_same _ _ l l.length _ rfl (by have := HL.out.1; omega) V35.out.sl V5.out.sl).mono ?_
      rintro e w6 ⟨rfl, hb6⟩
      have HB6 := Lib.hid (HB5.out.ext hb6)
      have V36 := Lib.hid (V35.out.ext hb6)
      have hb6' : Below w.heap.size w w6 := hb5.out.trans (hb6.mono hb5.out.size)
      clear HB5 V35 V5 hb6 hb5
      go_wp2
      go_loopw [16] (fun q wr => ∃ k : Nat, k ≤ l.length ∧ q = .int .i64 k ∧ IsB wr (B.three s1 s2 s3 (l.drop k) l) ∧ OwR (s1 + 2) s2 wr (.slice m3a l.length m3c) l.length l ∧ Below w.heap.size w wr) (fun q _ => l.length - (intOf q).toNat)
      case atStart => exact ⟨0, Nat.zero_le _, rfl, HB6.out, V36.out, hb6'⟩
      case round =>
        obtain ⟨k2, hk2, rfl, hB7, hV7, hb7⟩ := hrel
        have HB7 := Lib.hid hB7
        have HV7 := Lib.hid hV7
        have hmiss : Hid (∀ d : List Int, d.length ≤ 100000 → ∀ n ∈ (B.three s1 s2 s3 d l).ns, n.miss.length ≤ 100000) := by
          intro d hd n hn
          have := HL.out.1
          simp [Brd.three] at hn
          rcases hn with rfl | rfl | rfl <;> simp <;> omega
        clear hB7 hV7 HB6 V36 hb6'
        by_cases hlt2 : k2 < l.length
        · obtain ⟨g, rfl, hcr⟩ := HV7.out.at rfl hlt2
          have hmm := Lib.hid (drop_mem hlt2)
          have hok : Hid (okI (l.getD k2 0)) := by
            have := HL.out.2.1 _ (List.mem_of_mem_drop hmm.out)
            exact okI_of (by omega) (by omega)
          have hdec : Hid (decide (l.getD k2 0 ∈ l.drop k2) = true) := decide_eq_true hmm.out
          have hrem : Hid (remS (l.getD k2 0) (l.drop k2) = l.drop (k2 + 1)) := drop_rem HL.out.2.2 hlt2
          have hd : (l.drop (k2 + 1)).length = l.length - (k2 + 1) := List.length_drop
          have hd1 : (l.drop (k2 + 1)).length + k2 + 1 ≤ l.length := by omega
          have hd2 : l.length ≤ (l.drop (k2 + 1)).length + k2 + 1 := by omega
          clear hd
          generalize hx : l.getD k2 0 = x at *
          generalize hdd : l.drop (k2 + 1) = d at *
          have HD := Lib.hid hdd
          clear hx hdd
          have hl40 : l.length ≤ 40 := HL.out.1
          go_wp2_with fail
          rw [← hp5.out (l.drop k2)]
          refine (ack_any (B.three s1 s2 s3 (l.drop k2) l) 1 x _ HB7.out (okI_of (by omega) (by omega)) hok.out).mono ?_
          rintro e w8 ⟨rfl, hB8, hf8⟩
          rw [hp5.out, three_ackB, hdec.out]
          rw [three_ack _ _ _ _ _ _ _ hmm.out, hrem.out] at hB8
          have HB8 := Lib.hid hB8
          have hb8 : Below w.heap.size w w8 := hb7.trans (hf8.below hb7.size fun q hq hm => by have := (hlow.out _ q hm).1; omega)
          have HV8 := Lib.hid (HV7.out.fr hf8 fun q h1 h2 hm => (hlow.out _ q hm).2 ⟨h1, h2⟩)
          clear hB8 hf8 hcr hb7
          go_wp2_with fail
          rw [← hp5.out d]
          refine (missing_any (B.three s1 s2 s3 d l) 1 _ HB8.out (okI_of (by omega) (by omega)) (hmiss.out d (by omega))).mono ?_
          intro e w9 hfr
          obtain ⟨v9, rfl, hv9, hn9, hb9⟩ := hfr
          rw [hp5.out]
          rw [three_miss1] at hv9
          obtain ⟨a9, c9, rfl⟩ := owns_shape hv9
          have HB9 := Lib.hid (HB8.out.ext hb9)
          have HV9 := Lib.hid (HV8.out.ext hb9)
          have hb9' : Below w.heap.size w w9 := hb8.trans (hb9.mono hb8.size)
          clear hv9 hn9 hb9 hb8
          go_wp2_with fail
          rw [← hp5.out d]
          refine (missing_any (B.three s1 s2 s3 d l) 3 _ HB9.out (okI_of (by omega) (by omega)) (hmiss.out d (by omega))).mono ?_
          intro e w10 hfr
          obtain ⟨v10, rfl, hv10, hn10, hb10⟩ := hfr
          rw [hp5.out]
          rw [three_miss3] at hv10
          obtain ⟨a10, c10, rfl⟩ := owns_shape hv10
          have HB10 := Lib.hid (HB9.out.ext hb10)
          have HV10 := Lib.hid (HV9.out.ext hb10)
          have hb10' : Below w.heap.size w w10 := hb9'.trans (hb10.mono hb9'.size)
          clear hv10 hn10 hb10 hb9'
          go_wp2_with fail
          go_roundw
          case rel => exact ⟨k2 + 1, by omega, by go_num, by rw [HD.out]; exact HB10.out, HV10.out, hb10'⟩
          case measure => simp [intOf]; omega
        · obtain rfl : k2 = l.length := by omega
          have hdl : Hid (l.drop l.length = []) := List.drop_length
          rw [hdl.out] at HB7
          have hat : Hid (∀ x ∈ (B.three s1 s2 s3 [] l).ns, 0 ≤ x.at_ ∧ x.at_ ≤ 1099511627776) := fun x hx => by
            simp [Brd.three] at hx
            rcases hx with rfl | rfl | rfl <;> simp
          by_cases hp : 0 < l.length
          · obtain ⟨e1, e2⟩ := three_over B s1 s2 s3 l hp
            have E1 := Lib.hid e1
            have E2 := Lib.hid e2
            have t0 : ((l.length : Int) == 0) = false := by rw [beq_eq_false_iff_ne]; omega
            clear e1 e2
            go_wp2_with fail
            rw [← hp5.out []]
            refine (over_any (B.three s1 s2 s3 [] l) 3 _ HB7.out (by omega) (by omega) hat.out (by simp [Brd.three])).mono ?_
            rintro e w8 ⟨v8, rfl, hv8, hB8, hf8⟩
            have hp8 : Hid (((B.three s1 s2 s3 [] l).keep ((B.three s1 s2 s3 [] l).ns.filter fun n => !overB 3 n)).pb = s + 1) := hp5.out []
            rw [hp5.out]
            rw [E1.out] at hv8
            have V8 : Hid (w8.ownsRow _ 3 1 v8 2 [.int .i64 1, .int .i64 2]) := hv8
            obtain ⟨a8, c8, rfl⟩ := owns_shape V8.out
            have HB8 := Lib.hid hB8
            have hb8 : Below w.heap.size w w8 := hb7.trans (hf8.below hb7.size fun q hq hm => by have := (hlow.out _ q hm).1; omega)
            clear hv8 hB8 hf8 hb7
            go_wp2_with fail
            refine (ints_same _ _ [1, 2] 2 _ rfl (by omega) ((Sl.of_owns (xs := [1, 2].map (Value.int .i64)) V8.out).mono ((Below.refl _ _).alloc (Nat.le_refl _) _)) (sl_two _ _ _ _)).mono ?_
            rintro e w9 ⟨rfl, hb9⟩
            have hb9' : Below w8.heap.size w8 w9 := ((Below.refl _ w8).alloc (Nat.le_refl _) _).trans (hb9.mono (by simp))
            go_wp2_with fail
            rw [← hp8.out]
            refine (open_any _ w9 (HB8.out.ext hb9')).mono ?_
            rintro e w10 ⟨rfl, rfl⟩
            rw [E2.out]
            go_wp2_with fail
            go_ret
            exact ⟨rfl, hb8.trans (hb9'.mono hb8.size)⟩
          · have hl0 : l = [] := List.length_eq_zero_iff.1 (by omega)
            subst hl0
            have E1 := Lib.hid (three_over0 B s1 s2 s3)
            go_wp2_with fail
            rw [← hp5.out []]
            refine (over_any (B.three s1 s2 s3 [] []) 3 _ HB7.out (by omega) (by omega) hat.out (by simp [Brd.three])).mono ?_
            rintro e w8 ⟨v8, rfl, hv8, hB8, hf8⟩
            rw [hp5.out]
            rw [E1.out] at hv8
            have V8 : Hid (w8.ownsRow _ 3 1 v8 3 [.int .i64 1, .int .i64 2, .int .i64 3]) := hv8
            obtain ⟨a8, c8, rfl⟩ := owns_shape V8.out
            have hb8 : Below w.heap.size w w8 := hb7.trans (hf8.below hb7.size fun q hq hm => by have := (hlow.out _ q hm).1; omega)
            clear hv8 hB8 hf8 hb7
            go_wp2_with fail
            refine (ints_same _ _ [1, 2, 3] 3 _ rfl (by omega) ((Sl.of_owns (xs := [1, 2, 3].map (Value.int .i64)) V8.out).mono ((Below.refl _ _).alloc (Nat.le_refl _) _)) (sl_three _ _ _ _ _)).mono ?_
            rintro e w9 ⟨rfl, hb9⟩
            have hb9' : Below w8.heap.size w8 w9 := ((Below.refl _ w8).alloc (Nat.le_refl _) _).trans (hb9.mono (by simp))
            go_wp2_with fail
            go_ret
            exact ⟨rfl, hb8.trans (hb9'.mono hb8.size)⟩

set_option maxRecDepth 100000 in
set_option maxHeartbeats 4000000 in
theorem apart_out (a b : Int) (i j : Nat) (ea : bits .and .i64 a 3 = (i : Int)) (eb : bits .and .i64 b 3 = (j : Int)) 
    (a1 : Option Addr) (n1 c1 : Nat) (w : World) (h : i = j ∨ (i ≠ j ∧ 40 < n1)) :
    Calls Try.prog 4 #[.int .i64 a, .int .i64 b, .slice a1 n1 c1] w fun e w' => e = .returned (.bool true) ∧ Below w.heap.size w w' := by
  rcases h with rfl | ⟨h, hn⟩
  · go_enter Try.func4, Try.ntmps4
    go_wp2_with fail
    refine (awake_any _).mono ?_
    rintro e w1 ⟨rfl, hb1⟩
    go_wp2_with fail
    go_ret
    exact ⟨rfl, hb1⟩
  · have t1 : ((i : Int) == (j : Int)) = false := by rw [beq_eq_false_iff_ne]; omega
    have t2 : (i == j) = false := by rw [beq_eq_false_iff_ne]; omega
    clear h
    go_enter Try.func4, Try.ntmps4
    go_wp2_with fail
    refine (awake_any _).mono ?_
    rintro e w1 ⟨rfl, hb1⟩
    go_wp2_with fail
    go_ret
    exact ⟨rfl, hb1⟩
theorem watchApart_any (a b : Int) (a1 : Option Addr) (n1 c1 : Nat) (l1 : List Int) (w : World) (h1 : RdI w a1 n1 l1) :
    Calls Try.prog 4 #[.int .i64 a, .int .i64 b, .slice a1 n1 c1] w fun e w' => e = .returned (.bool true) ∧ Below w.heap.size w w' := by
  obtain ⟨i, hi, _, ea⟩ := and3 a
  obtain ⟨j, hj, _, eb⟩ := and3 b
  by_cases h : i = j ∨ (i ≠ j ∧ 40 < n1)
  · exact apart_out a b i j ea eb a1 n1 c1 w h
  · have hij : i ≠ j := fun e => h (.inl e)
    exact apart_law a b i j hi hj ea eb (by rw [beq_eq_false_iff_ne]; omega) (by rw [beq_eq_false_iff_ne]; omega) a1 n1 c1 l1 w h1 (by omega)
end Go.Proofs.Ytiikkglgoanpbaa
