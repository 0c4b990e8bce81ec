/- The reference's bytes: terrazzoref01.wide, most, Num, Blob. The walks of slices.Equal at bytes, frame.sealed, frame.Next. -/
import Derived.Test.YtfeonfihlleoeaaDoorGAL
import Derived.Test.YtfeonfihlleoeaaDoorGAG
import Derived.Test.YtfeonfihlleoeaaDoorPut
import Derived.Test.YtfeonfihlleoeaaDoorGAP
import Derived.Test.YtfeonfihlleoeaaDoorGAA
namespace Go.Proofs.YtfeonfihlleoeaaDoor
open Go.RowKit

theorem be_cons (k n : Nat) : be (k + 1) n = UInt8.ofNat (n / 256 ^ k) :: be k n := by
  induction k generalizing n with
  | zero => simp [be]
  | succ k ih =>
    rw [be, ih, Nat.div_div_eq_div_mul, ← Nat.pow_succ']
    rfl
theorem num_step (W k n : Nat) (h : k < W) : (List.replicate (W - k) (0 : UInt8) ++ be k n).set (W - 1 - k) (UInt8.ofNat (n / 256 ^ k)) = List.replicate (W - (k + 1)) 0 ++ be (k + 1) n := by
  have e : W - k = (W - (k + 1)) + 1 := by omega
  rw [List.set_append_left _ _ (by simp; omega), be_cons, e, List.replicate_succ', List.set_append_right _ _ (by simp; omega)]
  have e2 : W - 1 - k - (W - (k + 1)) = 0 := by omega
  simp [e2]
theorem rwide_any (W : Nat) (h1 : 1 ≤ W) (h7 : W ≤ 7) (w : World) : Calls Tryd.prog 56 #[.int .i64 W] w fun e w' => e = .returned (.int .i64 W) ∧ w = w' := by
  have e1 : max (W : Int) 1 = W := by omega
  have e2 : min (W : Int) 7 = W := by omega
  go_enter Tryd.func56, Tryd.ntmps56
  go_wp2
  go_ret
  exact ⟨rfl, rfl⟩
theorem pow_six {k W : Nat} (h : k < W) (h7 : W ≤ 7) : 256 ^ k ≤ 281474976710656 := Nat.le_trans (Nat.pow_le_pow_right (by decide) (by omega : k ≤ 6)) (by decide)
theorem rmost_any (W : Nat) (h7 : W ≤ 7) (w : World) : Calls Tryd.prog 57 #[.int .i64 W] w fun e w' => e = .returned (.int .i64 ((256 ^ W - 1 : Nat) : Int)) ∧ w = w' := by
  go_enter Tryd.func57, Tryd.ntmps57
  go_wp2
  go_loopw [3, 4] (fun q3 q4 wr => ∃ (k P : Nat), k ≤ W ∧ q3 = .int .i64 P ∧ q4 = .int .i64 k ∧ 256 ^ k = P ∧ w = wr) (fun _ q4 _ => W - (intOf q4).toNat)
  case atStart => exact ⟨0, 1, Nat.zero_le _, rfl, rfl, rfl, rfl⟩
  case round =>
    obtain ⟨k, P, hk, rfl, rfl, hP, rfl⟩ := hrel
    by_cases hlt : k < W
    · have hb := pow_six hlt h7
      rw [hP] at hb
      have HP : Hid (256 ^ (k + 1) = P * 256) := by
        show _ = _
        rw [Nat.pow_succ, hP]
      clear hP
      go_wp2
      go_roundw
      case rel => exact ⟨k + 1, P * 256, by omega, by go_num, by go_num, HP.out, trivial⟩
      case measure => simp [intOf]; omega
    · obtain rfl : k = W := by omega
      have h1 : 1 ≤ P := by rw [← hP]; exact Nat.pow_pos (by decide)
      have h2 : P ≤ 72057594037927936 := by rw [← hP]; exact Nat.le_trans (Nat.pow_le_pow_right (by decide) h7) (by decide)
      have HP : Hid (((256 ^ k - 1 : Nat) : Int) = (P : Int) - 1) := by
        show _ = _
        rw [hP]
        omega
      clear hP
      go_wp2
      go_ret
      exact ⟨by rw [HP.out]; rfl, rfl⟩
set_option maxRecDepth 100000 in
set_option maxHeartbeats 1600000 in
theorem bnum_any (W n : Nat) (h1 : 1 ≤ W) (h7 : W ≤ 7) (hn : n < 256 ^ W) (w : World) : Calls Tryd.prog 35 #[.int .i64 W, .int .i64 n] w (NewB w (be W n)) := by
  have e1 : max (n : Int) 0 = n := by omega
  have e2 : min (n : Int) ((256 ^ W - 1 : Nat) : Int) = n := by omega
  have hnb : n < 72057594037927936 := Nat.lt_of_lt_of_le hn (Nat.le_trans (Nat.pow_le_pow_right (by decide) h7) (by decide))
  have hmk := mk_bytes W (by omega)
  have HW7 := Lib.hid hn
  clear hn
  go_enter Tryd.func35, Tryd.ntmps35
  go_wp2_with fail
  refine (rwide_any W h1 h7 _).mono ?_
  rintro e w1 ⟨rfl, rfl⟩
  go_wp2_with fail
  refine (rmost_any W h7 _).mono ?_
  rintro e w1 ⟨rfl, rfl⟩
  generalize ((256 ^ W - 1 : Nat) : Int) = M at *
  go_wp2_with go_in
  go_loopw [1, 7] (fun q1 q7 wr => ∃ (k m : Nat), k ≤ W ∧ q1 = .int .i64 m ∧ q7 = .int .i64 ((W : Int) - 1 - k) ∧ n / 256 ^ k = m ∧ OB w.heap.size wr (.slice (some ⟨w.heap.size, 0, none⟩) W W) (List.replicate (W - k) 0 ++ be k n) ∧ Below w.heap.size w wr) (fun _ q7 _ => (intOf q7 + 1).toNat)
  case atStart =>
    refine ⟨0, n, Nat.zero_le _, rfl, by simp, by simp, ?_, ((Below.refl _ w).alloc (Nat.le_refl _) _)⟩
    refine OB.of_blk (t := []) ?_ (Nat.le_refl _) (by simp [be]) (by simp) (by omega)
    have e : (List.replicate (W - 0) (0 : UInt8) ++ be 0 n).map bv ++ [] = List.replicate W (Value.int .u8 0) := by simp [be, bv]
    rw [e]
    exact heap_alloc_new w _
  case round =>
    obtain ⟨k, m, hk, rfl, rfl, hm, ho, hb⟩ := hrel
    have HO := Lib.hid ho
    have hs := hb.size
    have HB := Lib.hid hb
    by_cases hlt : k < W
    · obtain ⟨j, hj⟩ : ∃ j : Nat, (W : Int) - 1 - k = j := ⟨W - 1 - k, by omega⟩
      have hjn : W - 1 - k = j := by omega
      have hmn : m ≤ n := by rw [← hm]; exact Nat.div_le_self _ _
      have HJ := Lib.hid hjn
      have HK : Hid (bv (UInt8.ofNat m) = .int .u8 ((m : Int) % 256)) := by show _ = _; simp [bv]
      have HS : Hid ((List.replicate (W - k) (0 : UInt8) ++ be k n).set j (UInt8.ofNat m) = List.replicate (W - (k + 1)) 0 ++ be (k + 1) n) := by
        show _ = _
        rw [← hm, ← hjn]
        exact num_step W k n hlt
      have HM : Hid (n / 256 ^ (k + 1) = m / 256) := by
        show _ = _
        rw [← hm, Nat.div_div_eq_div_mul, Nat.pow_succ]
      have hlen : (List.replicate (W - k) (0 : UInt8) ++ be k n).length = W := by simp [be_length]; omega
      have HJW : Hid ((W : Int) - 1 - ((k + 1 : Nat) : Int) = (j : Int) - 1) := by show _ = _; omega
      rw [hj]
      obtain ⟨g, c, hv, -, hg, hc, hcell, hfr⟩ := ho.lies (by rw [hlen]; omega)
      simp only [Value.slice.injEq, Option.some.injEq, Addr.mk.injEq] at hv
      obtain ⟨⟨rfl, -, -⟩, -, rfl⟩ := hv
      have hcj := hcell j (by rw [hlen]; omega)
      obtain ⟨u, hu⟩ : ∃ u, ((List.replicate (W - k) (0 : UInt8) ++ be k n).map bv)[j]? = some u := ⟨_, List.getElem?_eq_getElem (by simp [be_length]; omega)⟩
      rw [hu] at hcj
      have hfj := hfr j
      have hjW : j < W := by omega
      clear hcell hfr hu hlen hm hb ho hc hj hjn
      go_wp2
      go_roundw
      case rel =>
        refine ⟨k + 1, m / 256, by omega, by go_num, by rw [HJW.out], HM.out, ?_, ?_⟩
        · rw [← HS.out, ← HK.out]
          exact HO.out.set j _
        · refine Below.setCell HB.out ?_ _
          exact Nat.le_refl _
      case measure => simp [intOf]
    · obtain rfl : k = W := by omega
      have HS : Hid (List.replicate (k - k) (0 : UInt8) ++ be k n = be k n) := by show _ = _; simp
      go_wp2
      go_ret
      exact ⟨_, rfl, by rw [← HS.out]; exact HO.out, HB.out⟩
set_option maxRecDepth 100000 in
set_option maxHeartbeats 800000 in
theorem bblob_any (A : Nat → Prop) (x : Value) (m : List UInt8) (w : World) (hx : RB A w x m) (hm : m.length ≤ 65535) : Calls Tryd.prog 36 #[x] w (NewB w (be 2 m.length ++ m)) := by
  obtain ⟨xa, xc, rfl⟩ := hx.shape
  have HX := Lib.hid hx
  clear hx
  go_enter Tryd.func36, Tryd.ntmps36
  go_wp2_with fail
  refine (bnum_any 2 m.length (by omega) (by omega) (by omega) _).mono ?_
  rintro e w1 ⟨v1, rfl, ho, hb⟩
  have HO := Lib.hid ho
  have HB := Lib.hid hb
  have hs := hb.size
  clear ho hb
  go_wp2_with (first | (at_builtin; refine wpList_appB _ rfl _ _ rfl w.heap.size _ _ rfl HO.out A _ m rfl (HX.out.ext HB.out) (by simp [be_length]; omega) hs ?_) | go_in)
  intro v2 w2 ho hb2
  have HO2 := Lib.hid ho
  have HB2 := Lib.hid hb2
  clear ho hb2
  go_wp2
  go_ret
  exact ⟨_, rfl, HO2.out, HB.out.trans HB2.out⟩
end Go.Proofs.YtfeonfihlleoeaaDoor
namespace Go.Proofs.YtfeonfihlleoeaaDoor
open Go.RowKit

theorem RB.cell {A : Nat → Prop} {w : World} {a : Option Addr} {c : Nat} {l : List UInt8} (h : RB A w (.slice a l.length c) l) {k : Nat} (hk : k < l.length) : ∃ b off, a = some ⟨b, off, none⟩ ∧ b < w.heap.size ∧ A b ∧ w.cell? ⟨b, off + k, none⟩ = some (.int .u8 (l[k].toNat : Int)) := by
  obtain ⟨b, off, rfl, h1, h2, h3, h4⟩ := SlA.at h (by omega)
  refine ⟨b, off, rfl, h1, h2, ?_⟩
  rw [h4 k (by omega), List.getElem?_map, List.getElem?_eq_getElem hk]
  rfl
theorem take_ext {l m : List UInt8} {k : Nat} (hl : k < l.length) (hm : k < m.length) (h : l.take k = m.take k) (e : l[k] = m[k]) : l.take (k + 1) = m.take (k + 1) := by
  rw [List.take_succ_eq_append_getElem hl, List.take_succ_eq_append_getElem hm, h, e]
theorem ne_at {l m : List UInt8} {k : Nat} (hl : k < l.length) (hm : k < m.length) (e : l[k] ≠ m[k]) : decide (l = m) = false := by
  rw [decide_eq_false_iff_not]
  rintro rfl
  exact e rfl
set_option maxRecDepth 100000 in
set_option maxHeartbeats 800000 in
theorem eqB_any (A B : Nat → Prop) (x y : Value) (l m : List UInt8) (w : World) (hx : RB A w x l) (hy : RB B w y m) (hl : l.length ≤ 1000000) (hm : m.length ≤ 1000000) :
    Calls Tryd.prog 96 #[x, y] w fun e w' => e = .returned (.bool (decide (l = m))) ∧ Below w.heap.size w w' := by
  obtain ⟨xa, xc, rfl⟩ := hx.shape
  obtain ⟨ya, yc, rfl⟩ := hy.shape
  have HX := Lib.hid hx
  have HY := Lib.hid hy
  clear hx hy
  by_cases hn : l.length = m.length
  · have HN := Lib.hid hn
    have t1 : ((l.length : Int) != (m.length : Int)) = false := by rw [hn]; simp
    have hle : l.length ≤ m.length := by omega
    clear hn
    go_enter Tryd.func96, Tryd.ntmps96
    go_wp2
    go_loopw [13] (fun q wr => ∃ k : Nat, k ≤ l.length ∧ q = .int .i64 k ∧ Hid (l.take k = m.take k) ∧ Below w.heap.size w wr) (fun q _ => l.length - (intOf q).toNat)
    case atStart => exact ⟨0, by omega, rfl, rfl, Below.refl _ _⟩
    case round =>
      obtain ⟨k, hk, rfl, hh, hb⟩ := hrel
      by_cases hlt : k < l.length
      · obtain ⟨b1, o1, rfl, hb1, -, c1⟩ := HX.out.cell hlt
        obtain ⟨b2, o2, rfl, hb2, -, c2⟩ := HY.out.cell (k := k) (by omega)
        replace c1 := cellB hb hb1 c1
        replace c2 := cellB hb hb2 c2
        have HE : Hid (l[k] = m[k]'(by omega) → l.take (k + 1) = m.take (k + 1)) := take_ext hlt _ hh.out
        have HF : Hid (l[k] ≠ m[k]'(by omega) → decide (l = m) = false) := ne_at hlt _
        have HU : Hid ((l[k].toNat : Int) = (m[k]'(by omega)).toNat ↔ l[k] = m[k]'(by omega)) := ⟨fun h => UInt8.toNat_inj.1 (by omega), fun h => by rw [h]⟩
        generalize l[k] = u1 at *
        generalize m[k]'(by omega) = u2 at *
        have h1 := u1.toNat_lt
        have h2 := u2.toNat_lt
        generalize (u1.toNat : Int) = n1 at *
        generalize (u2.toNat : Int) = n2 at *
        by_cases he : n1 = n2
        · have t2 : (n1 != n2) = false := by simp [he]
          have HE' := Lib.hid (HE.out (HU.out.1 he))
          clear he
          go_wp2
          go_quiet (fail)
          go_wp2
          go_roundw
          case rel => exact ⟨k + 1, by omega, by go_num, HE'.out, below_drewN hb _⟩
          case measure => simp [intOf]; omega
        · have t2 : (n1 != n2) = true := by simp [he]
          have HF' := Lib.hid (HF.out fun h => he (HU.out.2 h))
          clear he
          go_wp2
          go_quiet (fail)
          go_wp2
          go_ret
          exact ⟨congrArg (fun b => Ending.returned (.bool b)) HF'.out.symm, below_drewN hb _⟩
      · have HD : Hid (decide (l = m) = true) := by
          have h := hh.out
          rw [List.take_of_length_le (by omega), List.take_of_length_le (by have := HN.out; omega)] at h
          exact decide_eq_true h
        go_wp2
        go_ret
        exact ⟨congrArg (fun b => Ending.returned (.bool b)) HD.out.symm, hb⟩
  · have t1 : ((l.length : Int) != (m.length : Int)) = true := by simp; omega
    have HD : Hid (decide (l = m) = false) := decide_eq_false fun h => hn (by rw [h])
    clear hn
    go_enter Tryd.func96, Tryd.ntmps96
    go_wp2
    go_ret
    exact ⟨congrArg (fun b => Ending.returned (.bool b)) HD.out.symm, Below.refl _ _⟩
theorem RB.take {A : Nat → Prop} {w : World} {b off c n : Nat} {l : List UInt8} (h : RB A w (.slice (some ⟨b, off, none⟩) l.length c) l) (hn : n ≤ l.length) (c' : Nat) (hc : n ≤ c') (hz : 0 < l.length := by first | omega | (simp; omega)) : RB A w (.slice (some ⟨b, off, none⟩) n c') (l.take n) := by
  have hl : (l.take n).length = n := by simp; omega
  rcases h.2 with ⟨⟨a0, e⟩, h0⟩ | ⟨b1, o1, c1, e, hb, hA, h1, hx⟩
  · simp only [Value.slice.injEq] at e
    omega
  · simp only [Value.slice.injEq, Option.some.injEq, Addr.mk.injEq] at e
    obtain ⟨⟨rfl, rfl, -⟩, -, rfl⟩ := e
    refine ⟨by simp, .inr ⟨b, off, c', by rw [hl], hb, hA, by rw [hl]; exact hc, fun j hj => ?_⟩⟩
    rw [hl] at hj
    rw [hx j (by omega), List.map_take, List.getElem?_take, if_pos (by omega)]
theorem RB.drop {A : Nat → Prop} {w : World} {b off c n : Nat} {l : List UInt8} (h : RB A w (.slice (some ⟨b, off, none⟩) l.length c) l) (hn : n ≤ l.length) (c' : Nat) (hc : l.length - n ≤ c') (hz : 0 < l.length := by first | omega | (simp; omega)) : RB A w (.slice (some ⟨b, off + n, none⟩) (l.length - n) c') (l.drop n) := by
  have hl : (l.drop n).length = l.length - n := by simp
  rcases h.2 with ⟨⟨a0, e⟩, h0⟩ | ⟨b1, o1, c1, e, hb, hA, h1, hx⟩
  · simp only [Value.slice.injEq] at e
    omega
  · simp only [Value.slice.injEq, Option.some.injEq, Addr.mk.injEq] at e
    obtain ⟨⟨rfl, rfl, -⟩, -, rfl⟩ := e
    refine ⟨by simp, .inr ⟨b, off + n, c', by rw [hl], hb, hA, by rw [hl]; exact hc, fun j hj => ?_⟩⟩
    rw [hl] at hj
    rw [Nat.add_assoc, hx (n + j) (by omega), List.map_drop, List.getElem?_drop]
theorem RB.empty_at {A : Nat → Prop} {w : World} {b off c : Nat} (hb : b < w.heap.size) (hA : A b) : RB A w (.slice (some ⟨b, off, none⟩) 0 c) [] :=
  ⟨by simp, .inr ⟨b, off, c, rfl, hb, hA, by simp, fun j hj => by simp at hj⟩⟩
theorem RB.drop' {A : Nat → Prop} {w : World} {b off c n : Nat} {l : List UInt8} (h : RB A w (.slice (some ⟨b, off, none⟩) l.length c) l) (hn : n ≤ l.length) (c' : Nat) (hc : l.length - n ≤ c') (hb : b < w.heap.size) (hA : A b) : RB A w (.slice (some ⟨b, off + n, none⟩) (l.length - n) c') (l.drop n) := by
  rcases Nat.eq_zero_or_pos l.length with h0 | h0
  · obtain rfl := List.eq_nil_of_length_eq_zero h0
    simp only [List.length_nil, List.drop_nil, Nat.zero_sub]
    exact RB.empty_at hb hA
  · exact RB.drop h hn c' hc h0
theorem RB.len {A : Nat → Prop} {w : World} {a : Option Addr} {c n : Nat} {l : List UInt8} (h : RB A w (.slice a n c) l) : l.length = n := by
  obtain ⟨a', c', e⟩ := h.shape
  simp only [Value.slice.injEq] at e
  exact e.2.1.symm
theorem RB.in_ {A : Nat → Prop} {w : World} {b off c n : Nat} {l : List UInt8} (h : RB A w (.slice (some ⟨b, off, none⟩) n c) l) (hz : 0 < n := by omega) : b < w.heap.size ∧ A b ∧ l.length = n ∧ n ≤ c := by
  rcases h.2 with ⟨⟨a0, e⟩, h0⟩ | ⟨b1, o1, c1, e, hb, hA, h1, hx⟩
  · simp only [Value.slice.injEq] at e
    omega
  · simp only [Value.slice.injEq, Option.some.injEq, Addr.mk.injEq] at e
    obtain ⟨⟨rfl, rfl, -⟩, rfl, rfl⟩ := e
    exact ⟨hb, hA, rfl, h1⟩
set_option maxRecDepth 100000 in
set_option maxHeartbeats 1600000 in
theorem sealed_any (A : Nat → Prop) (b off n cap : Nat) (l : List UInt8) (w : World) (hx : RB A w (.slice (some ⟨b, off, none⟩) (n + 4) cap) l) (hl : n ≤ 100000) (hT : TabW w) (hg0 : 1 < w.heap.size) :
    Calls Tryd.prog 85 #[.slice (some ⟨b, off, none⟩) (n + 4) cap] w fun e w' => e = .returned (.bool (decide (tailB (l.take n) = l.drop n))) ∧ Below w.heap.size w w' := by
  obtain ⟨hbl, hA, hn, hcap⟩ := hx.in_
  have hS : ∀ W, Below w.heap.size w W → Calls Tryd.prog 55 #[.slice none 0 0, .slice (some ⟨b, off, none⟩) n cap] W fun e w' => ∃ a c, e = .returned (.slice a 4 c) ∧ RB (fun b => W.heap.size ≤ b) w' (.slice a 4 c) (tailB (l.take n)) ∧ Below W.heap.size W w' := fun W hW => by
    have hx1 : RB A W (.slice (some ⟨b, off, none⟩) n cap) (l.take n) := RB.ext (RB.take (by rw [hn]; exact hx) (by omega) cap (by omega)) hW
    refine (tail_any A W.heap.size _ _ [] (l.take n) W (OB.nil _ _) hx1 (tab_below hT hW hg0) (Nat.le_refl _) (by simp) (by simp; omega)).mono ?_
    rintro e w' ⟨v, rfl, ho, hb⟩
    obtain ⟨a, c, rfl⟩ := ho.rb.shape
    exact ⟨a, c, rfl, ho.rb, hb⟩
  have hE : ∀ W W' a c, Below w.heap.size w W → RB (fun b => W.heap.size ≤ b) W' (.slice a 4 c) (tailB (l.take n)) → Below w.heap.size w W' → Calls Tryd.prog 96 #[.slice a 4 c, .slice (some ⟨b, off + n, none⟩) 4 (cap - n)] W' fun e w' => e = .returned (.bool (decide (tailB (l.take n) = l.drop n))) ∧ Below W'.heap.size W' w' := fun W W' a c hW hv hb => by
    have hx1 : RB A W' (.slice (some ⟨b, off + n, none⟩) (l.length - n) (cap - n)) (l.drop n) := RB.ext (RB.drop (by rw [hn]; exact hx) (by omega) (cap - n) (by omega)) hb
    rw [hn, show n + 4 - n = 4 by omega] at hx1
    exact eqB_any _ A _ _ _ _ W' hv hx1 (by simp [tailB_length]) (by simp; omega)
  have HS := Lib.hid hS
  have HE := Lib.hid hE
  clear hS hE hT
  generalize decide (tailB (l.take n) = l.drop n) = R at *
  have i0 : (0 : Int) ≤ (n : Int) := by omega
  have i1 : (n : Int) ≤ (cap : Int) := by omega
  have i2 : (n : Int) ≤ (n : Int) + 4 := by omega
  have i3 : ¬ cap = n := by omega
  have i4 : n + 4 - n = 4 := by omega
  have i5 : n ≤ cap := by omega
  have i6 : n ≤ n + 4 := by omega
  have i7 : ¬ cap = 0 := by omega
  clear hx hn
  go_enter Tryd.func85, Tryd.ntmps85
  go_wp2
  go_region_held3 (fun w' => Below w.heap.size w w')
    (first | exact (Below.refl _ _).drew | exact (Below.refl _ _).trans (by assumption) | exact Below.trans (by assumption) (Below.mono (by assumption) (Below.size (by assumption))))
    (first | (go_at_call 55; refine (HS.out _ (by first | assumption | exact (Below.refl _ _).drew)).mono ?_; rintro e w1 ⟨a1, c1, rfl, hv1, hb1⟩) | (go_at_call 96; refine (HE.out _ _ _ _ (by first | assumption | exact (Below.refl _ _).drew) hv1 (by assumption)).mono ?_; rintro e w2 ⟨rfl, hb2⟩))
  go_wp2
  go_ret
  exact ⟨rfl, by assumption⟩
end Go.Proofs.YtfeonfihlleoeaaDoor
