/- The reference's bytes: terrazzoref01.wide, most, Num, Blob. The walks of the reference's reader: terrazzoref01.R's Fail, take, Num, Blob, End. -/
import Derived.Test.YtgdilkhaopnhaaaGreatDoorMA
import Derived.Test.YtgdilkhaopnhaaaGreatDoorMC
namespace Go.Proofs.YtgdilkhaopnhaaaGreatDoor
open Go.RowKit

theorem be_cons (k n : Nat) : be (k + 1) n = UInt8.ofNat (n / 256 ^ k) :: be k n := by
  induction k generalizing n with
  | zero => simp [be]
  | succ k ih =>
    rw [be, ih, Nat.div_div_eq_div_mul, ← Nat.pow_succ']
    rfl
theorem num_step (W k n : Nat) (h : k < W) : (List.replicate (W - k) (0 : UInt8) ++ be k n).set (W - 1 - k) (UInt8.ofNat (n / 256 ^ k)) = List.replicate (W - (k + 1)) 0 ++ be (k + 1) n := by
  have e : W - k = (W - (k + 1)) + 1 := by omega
  rw [List.set_append_left _ _ (by simp; omega), be_cons, e, List.replicate_succ', List.set_append_right _ _ (by simp; omega)]
  have e2 : W - 1 - k - (W - (k + 1)) = 0 := by omega
  simp [e2]
theorem rwide_any (W : Nat) (h1 : 1 ≤ W) (h7 : W ≤ 7) (w : World) : Calls Tryz.prog 66 #[.int .i64 W] w fun e w' => e = .returned (.int .i64 W) ∧ w = w' := by
  have e1 : max (W : Int) 1 = W := by omega
  have e2 : min (W : Int) 7 = W := by omega
  go_enter Tryz.func66, Tryz.ntmps66
  go_wp2
  go_ret
  exact ⟨rfl, rfl⟩
theorem pow_six {k W : Nat} (h : k < W) (h7 : W ≤ 7) : 256 ^ k ≤ 281474976710656 := Nat.le_trans (Nat.pow_le_pow_right (by decide) (by omega : k ≤ 6)) (by decide)
theorem rmost_any (W : Nat) (h7 : W ≤ 7) (w : World) : Calls Tryz.prog 68 #[.int .i64 W] w fun e w' => e = .returned (.int .i64 ((256 ^ W - 1 : Nat) : Int)) ∧ w = w' := by
  go_enter Tryz.func68, Tryz.ntmps68
  go_wp2
  go_loopw [3, 4] (fun q3 q4 wr => ∃ (k P : Nat), k ≤ W ∧ q3 = .int .i64 P ∧ q4 = .int .i64 k ∧ 256 ^ k = P ∧ w = wr) (fun _ q4 _ => W - (intOf q4).toNat)
  case atStart => exact ⟨0, 1, Nat.zero_le _, rfl, rfl, rfl, rfl⟩
  case round =>
    obtain ⟨k, P, hk, rfl, rfl, hP, rfl⟩ := hrel
    by_cases hlt : k < W
    · have hb := pow_six hlt h7
      rw [hP] at hb
      have HP : Hid (256 ^ (k + 1) = P * 256) := by
        show _ = _
        rw [Nat.pow_succ, hP]
      clear hP
      go_wp2
      go_roundw
      case rel => exact ⟨k + 1, P * 256, by omega, by go_num, by go_num, HP.out, trivial⟩
      case measure => simp [intOf]; omega
    · obtain rfl : k = W := by omega
      have h1 : 1 ≤ P := by rw [← hP]; exact Nat.pow_pos (by decide)
      have h2 : P ≤ 72057594037927936 := by rw [← hP]; exact Nat.le_trans (Nat.pow_le_pow_right (by decide) h7) (by decide)
      have HP : Hid (((256 ^ k - 1 : Nat) : Int) = (P : Int) - 1) := by
        show _ = _
        rw [hP]
        omega
      clear hP
      go_wp2
      go_ret
      exact ⟨by rw [HP.out]; rfl, rfl⟩
set_option maxRecDepth 100000 in
set_option maxHeartbeats 1600000 in
theorem bnum_any (W n : Nat) (h1 : 1 ≤ W) (h7 : W ≤ 7) (hn : n < 256 ^ W) (w : World) : Calls Tryz.prog 45 #[.int .i64 W, .int .i64 n] w (NewB w (be W n)) := by
  have e1 : max (n : Int) 0 = n := by omega
  have e2 : min (n : Int) ((256 ^ W - 1 : Nat) : Int) = n := by omega
  have hnb : n < 72057594037927936 := Nat.lt_of_lt_of_le hn (Nat.le_trans (Nat.pow_le_pow_right (by decide) h7) (by decide))
  have hmk := mk_bytes W (by omega)
  have HW7 := Lib.hid hn
  clear hn
  go_enter Tryz.func45, Tryz.ntmps45
  go_wp2_with fail
  refine (rwide_any W h1 h7 _).mono ?_
  rintro e w1 ⟨rfl, rfl⟩
  go_wp2_with fail
  refine (rmost_any W h7 _).mono ?_
  rintro e w1 ⟨rfl, rfl⟩
  generalize ((256 ^ W - 1 : Nat) : Int) = M at *
  go_wp2_with go_in
  go_loopw [1, 7] (fun q1 q7 wr => ∃ (k m : Nat), k ≤ W ∧ q1 = .int .i64 m ∧ q7 = .int .i64 ((W : Int) - 1 - k) ∧ n / 256 ^ k = m ∧ OB w.heap.size wr (.slice (some ⟨w.heap.size, 0, none⟩) W W) (List.replicate (W - k) 0 ++ be k n) ∧ Below w.heap.size w wr) (fun _ q7 _ => (intOf q7 + 1).toNat)
  case atStart =>
    refine ⟨0, n, Nat.zero_le _, rfl, by simp, by simp, ?_, ((Below.refl _ w).alloc (Nat.le_refl _) _)⟩
    refine OB.of_blk (t := []) ?_ (Nat.le_refl _) (by simp [be]) (by simp) (by omega)
    have e : (List.replicate (W - 0) (0 : UInt8) ++ be 0 n).map bv ++ [] = List.replicate W (Value.int .u8 0) := by simp [be, bv]
    rw [e]
    exact heap_alloc_new w _
  case round =>
    obtain ⟨k, m, hk, rfl, rfl, hm, ho, hb⟩ := hrel
    have HO := Lib.hid ho
    have hs := hb.size
    have HB := Lib.hid hb
    by_cases hlt : k < W
    · obtain ⟨j, hj⟩ : ∃ j : Nat, (W : Int) - 1 - k = j := ⟨W - 1 - k, by omega⟩
      have hjn : W - 1 - k = j := by omega
      have hmn : m ≤ n := by rw [← hm]; exact Nat.div_le_self _ _
      have HJ := Lib.hid hjn
      have HK : Hid (bv (UInt8.ofNat m) = .int .u8 ((m : Int) % 256)) := by show _ = _; simp [bv]
      have HS : Hid ((List.replicate (W - k) (0 : UInt8) ++ be k n).set j (UInt8.ofNat m) = List.replicate (W - (k + 1)) 0 ++ be (k + 1) n) := by
        show _ = _
        rw [← hm, ← hjn]
        exact num_step W k n hlt
      have HM : Hid (n / 256 ^ (k + 1) = m / 256) := by
        show _ = _
        rw [← hm, Nat.div_div_eq_div_mul, Nat.pow_succ]
      have hlen : (List.replicate (W - k) (0 : UInt8) ++ be k n).length = W := by simp [be_length]; omega
      have HJW : Hid ((W : Int) - 1 - ((k + 1 : Nat) : Int) = (j : Int) - 1) := by show _ = _; omega
      rw [hj]
      obtain ⟨g, c, hv, -, hg, hc, hcell, hfr⟩ := ho.lies (by rw [hlen]; omega)
      simp only [Value.slice.injEq, Option.some.injEq, Addr.mk.injEq] at hv
      obtain ⟨⟨rfl, -, -⟩, -, rfl⟩ := hv
      have hcj := hcell j (by rw [hlen]; omega)
      obtain ⟨u, hu⟩ : ∃ u, ((List.replicate (W - k) (0 : UInt8) ++ be k n).map bv)[j]? = some u := ⟨_, List.getElem?_eq_getElem (by simp [be_length]; omega)⟩
      rw [hu] at hcj
      have hfj := hfr j
      have hjW : j < W := by omega
      clear hcell hfr hu hlen hm hb ho hc hj hjn
      go_wp2
      go_roundw
      case rel =>
        refine ⟨k + 1, m / 256, by omega, by go_num, by rw [HJW.out], HM.out, ?_, ?_⟩
        · rw [← HS.out, ← HK.out]
          exact HO.out.set j _
        · refine Below.setCell HB.out ?_ _
          exact Nat.le_refl _
      case measure => simp [intOf]
    · obtain rfl : k = W := by omega
      have HS : Hid (List.replicate (k - k) (0 : UInt8) ++ be k n = be k n) := by show _ = _; simp
      go_wp2
      go_ret
      exact ⟨_, rfl, by rw [← HS.out]; exact HO.out, HB.out⟩
set_option maxRecDepth 100000 in
set_option maxHeartbeats 800000 in
theorem bblob_any (A : Nat → Prop) (x : Value) (m : List UInt8) (w : World) (hx : RB A w x m) (hm : m.length ≤ 65535) : Calls Tryz.prog 44 #[x] w (NewB w (be 2 m.length ++ m)) := by
  obtain ⟨xa, xc, rfl⟩ := hx.shape
  have HX := Lib.hid hx
  clear hx
  go_enter Tryz.func44, Tryz.ntmps44
  go_wp2_with fail
  refine (bnum_any 2 m.length (by omega) (by omega) (by omega) _).mono ?_
  rintro e w1 ⟨v1, rfl, ho, hb⟩
  have HO := Lib.hid ho
  have HB := Lib.hid hb
  have hs := hb.size
  clear ho hb
  go_wp2_with (first | (at_builtin; refine wpList_appB _ rfl _ _ rfl w.heap.size _ _ rfl HO.out A _ m rfl (HX.out.ext HB.out) (by simp [be_length]; omega) hs ?_) | go_in)
  intro v2 w2 ho hb2
  have HO2 := Lib.hid ho
  have HB2 := Lib.hid hb2
  clear ho hb2
  go_wp2
  go_ret
  exact ⟨_, rfl, HO2.out, HB.out.trans HB2.out⟩
end Go.Proofs.YtgdilkhaopnhaaaGreatDoor
namespace Go.Proofs.YtgdilkhaopnhaaaGreatDoor
open Go.RowKit Go.WideShapes

/-- the reference's reader behind a pointer: its bytes lie in blocks of A -/
structure IsRq (A : Nat → Prop) (w : World) (p : Nat) (r : Rd) : Prop where
  mk ::
  ex : ∃ v, w.heap[p]? = some (.cells #[v, .int .i64 (r.e : Nat)] 75 (0, 0)) ∧ RB A w v r.l
  apart : ¬ A p
theorem IsRq.lt {A : Nat → Prop} {w : World} {p : Nat} {r : Rd} (h : IsRq A w p r) : p < w.heap.size := by
  obtain ⟨v, hb, _⟩ := h.ex
  exact (Array.getElem?_eq_some_iff.1 hb).1
theorem IsRq.ext {A : Nat → Prop} {w w' : World} {p : Nat} {r : Rd} (h : IsRq A w p r) (hb : Below w.heap.size w w') : IsRq A w' p r := by
  obtain ⟨v, h1, h2⟩ := h.ex
  exact ⟨⟨v, (hb.block _ h.lt).trans h1, h2.ext hb⟩, h.apart⟩
theorem IsRq.same {A B : Nat → Prop} {w w' : World} {p : Nat} {r : Rd} (h : IsRq A w p r) (hs : Same B w w') (hB : B p) (hA : ∀ b, A b → B b) : IsRq A w' p r := by
  obtain ⟨v, h1, h2⟩ := h.ex
  exact ⟨⟨v, (hs.block _ hB h.lt).trans h1, SlA.mono h2 (hs.weak hA)⟩, h.apart⟩
set_option maxRecDepth 100000 in
set_option maxHeartbeats 800000 in
theorem qfail_any (A : Nat → Prop) (p : Nat) (r : Rd) (x : Nat) (w : World) (h : IsRq A w p r) (_hx : x < 1000) (_he : r.e < 1000) :
    Calls Tryz.prog 40 #[.pointer (some ⟨p, 0, none⟩), .int .i64 x] w fun e w' => e = .returned (.tuple #[]) ∧ IsRq A w' p (r.fail x) ∧ Fr (fun k => k = p) w w' := by
  obtain ⟨v, hb, hv⟩ := h.ex
  have HA := Lib.hid h.apart
  have hpl := h.lt
  have HV := Lib.hid hv
  obtain ⟨c0, f0⟩ := blk_cell (i := 0) hb
  obtain ⟨c1, f1⟩ := blk_cell (i := 1) hb
  simp at c0 c1
  have HB := Lib.hid hb
  clear h hv hb
  by_cases h0 : r.e = 0
  · by_cases h1 : x = 0
    · have HF : Hid (r.fail x = r) := if_neg (fun h => h.2 h1)
      have t1 : ((r.e : Int) == 0) = true := by simp [h0]
      have t2 : ((x : Int) != 0) = false := by simp [h1]
      clear h0 h1
      go_enter Tryz.func40, Tryz.ntmps40
      go_wp2
      go_end0
      rw [HF.out]
      exact ⟨rfl, ⟨⟨v, HB.out, HV.out⟩, HA.out⟩, Fr.refl _ _⟩
    · have HF : Hid (r.fail x = ⟨[], x⟩) := if_pos ⟨h0, h1⟩
      have t1 : ((r.e : Int) == 0) = true := by simp [h0]
      have t2 : ((x : Int) != 0) = true := by simp [h1]
      clear h0 h1
      go_enter Tryz.func40, Tryz.ntmps40
      go_wp2
      go_end0
      rw [HF.out]
      refine ⟨rfl, ⟨⟨.slice none 0 0, ?_, RB.nil _ _⟩, HA.out⟩, ?_⟩
      · have := HB.out
        simp [World.setCell, Array.getElem?_modify, this]
      · exact Fr.setCell (S := fun k => k = p) (a := ⟨p, 0, none⟩) (Fr.setCell (S := fun k => k = p) (a := ⟨p, 1, none⟩) (Fr.refl _ _) (fun _ => rfl) _) (fun _ => rfl) _
  · have HF : Hid (r.fail x = r) := if_neg (fun h => h0 h.1)
    have t1 : ((r.e : Int) == 0) = false := by simp [h0]
    clear h0
    go_enter Tryz.func40, Tryz.ntmps40
    go_wp2
    go_end0
    rw [HF.out]
    exact ⟨rfl, ⟨⟨v, HB.out, HV.out⟩, HA.out⟩, Fr.refl _ _⟩

/-- what a method that takes bytes leaves: they lie where the reader's lie -/
def TakeQ (A : Nat → Prop) (p : Nat) (w : World) (x : List UInt8 × Rd) (e : Ending) (w' : World) : Prop :=
  ∃ v, e = .returned v ∧ RB A w' v x.1 ∧ IsRq A w' p x.2 ∧ Fr (fun k => k = p) w w'
theorem RB.takeN {A : Nat → Prop} {w : World} {a : Option Addr} {c n : Nat} {l : List UInt8} (h : RB A w (.slice a l.length c) l) (hn : n ≤ l.length) : RB A w (.slice a n c) (l.take n) := by
  rcases h.2 with ⟨⟨a', e⟩, h0⟩ | ⟨b, off, cap, e, hb, hA, hc, hx⟩
  · simp only [Value.slice.injEq] at e
    obtain ⟨-, -, rfl⟩ := e
    obtain rfl := List.eq_nil_of_length_eq_zero h0
    obtain rfl : n = 0 := by simpa using hn
    exact RB.zero _ _ _
  · simp only [Value.slice.injEq] at e
    obtain ⟨rfl, -, rfl⟩ := e
    rcases Nat.eq_zero_or_pos l.length with h0 | h0
    · obtain rfl := List.eq_nil_of_length_eq_zero h0
      obtain rfl : n = 0 := by simpa using hn
      exact RB.empty_at hb hA
    · exact RB.take h hn _ (by omega) h0
theorem setCell_blk' {w : World} {p : Nat} {t : TypeId} {a b v : Value} (h : w.heap[p]? = some (.cells #[a, b] t (0, 0))) : (w.setCell ⟨p, 0, none⟩ v).heap[p]? = some (.cells #[v, b] t (0, 0)) := setCell_blk h
set_option maxRecDepth 100000 in
set_option maxHeartbeats 1600000 in
theorem qtake_any (A : Nat → Prop) (p n : Nat) (r : Rd) (w : World) (h : IsRq A w p r) (hn : n ≤ 100000) (_hl : r.l.length ≤ 100000) (he : r.e < 1000) :
    Calls Tryz.prog 65 #[.pointer (some ⟨p, 0, none⟩), .int .i64 n] w (TakeQ A p w (r.take n)) := by
  obtain ⟨v, hb, hv⟩ := h.ex
  have HA := Lib.hid h.apart
  have hpl := h.lt
  have HH := Lib.hid h
  obtain ⟨a, c, rfl⟩ := hv.shape
  have HV := Lib.hid hv
  have hcap := hv.cutAll
  obtain ⟨c0, f0⟩ := blk_cell (i := 0) hb
  obtain ⟨c1, f1⟩ := blk_cell (i := 1) hb
  simp at c0 c1
  have HB := Lib.hid hb
  clear h hv hb
  by_cases h0 : r.e = 0
  · have t1 : ((r.e : Int) != 0) = false := by simp [h0]
    rcases Nat.lt_or_ge r.l.length n with h1 | h1
    · have HF : Hid (r.take n = ([], r.fail 10)) := by
        show r.take n = _
        unfold Rd.take Rd.fail
        rw [if_neg (fun h => h h0), if_pos h1, if_pos ⟨h0, by decide⟩]
      clear h0
      go_enter Tryz.func65, Tryz.ntmps65
      go_wp2_with fail
      refine (qfail_any A p r 10 _ HH.out (by omega) he).mono ?_
      rintro e w1 ⟨rfl, hr1, hf1⟩
      have HR1 := Lib.hid hr1
      have HF1 := Lib.hid hf1
      clear hr1 hf1 c0 c1 f0 f1
      go_wp2
      go_ret
      rw [HF.out]
      exact ⟨_, rfl, RB.nil _ _, HR1.out, HF1.out⟩
    · have HF : Hid (r.take n = (r.l.take n, ⟨r.l.drop n, 0⟩)) := by
        show r.take n = _
        unfold Rd.take
        rw [if_neg (fun h => h h0), if_neg (by omega)]
      have HVT : Hid (∀ u, RB A (w.setCell ⟨p, 0, none⟩ u) (.slice a n c) (r.l.take n)) := Lib.hid fun u => (HV.out.takeN h1).mono (Same.setCell (Same.refl _ _) HA.out _)
      have HBB : Hid (∀ u, (w.setCell ⟨p, 0, none⟩ u).heap[p]? = some (.cells #[u, .int .i64 ((0 : Nat) : Int)] 75 (0, 0))) := Lib.hid fun u => by
        have := HB.out
        rw [h0] at this
        exact setCell_blk this
      have HFr : Hid (∀ u, Fr (fun k => k = p) w (w.setCell ⟨p, 0, none⟩ u)) := Lib.hid fun u => Fr.setCell (S := fun k => k = p) (a := ⟨p, 0, none⟩) (Fr.refl _ _) (fun _ => rfl) _
      have HAA : Hid (∀ u v l, RB A w v l → RB A (w.setCell ⟨p, 0, none⟩ u) v l) := Lib.hid fun u v l h => h.mono (Same.setCell (Same.refl _ _) HA.out _)
      clear h0
      by_cases hcn : c = n
      · obtain rfl : c = r.l.length := by omega
        have HD : Hid (r.l.drop n = []) := List.drop_of_length_le (by omega)
        obtain rfl := hcn
        go_enter Tryz.func65, Tryz.ntmps65
        go_wp2
        go_ret
        rw [HF.out, HD.out]
        exact ⟨_, rfl, HVT.out _, ⟨⟨_, HBB.out _, HAA.out _ _ _ (RB.zero _ _ _)⟩, HA.out⟩, HFr.out _⟩
      · obtain ⟨b, off, rfl, hbl, hA, -⟩ : ∃ b off, a = some ⟨b, off, none⟩ ∧ b < w.heap.size ∧ A b ∧ True := by
          rcases HV.out.2 with ⟨⟨a0, e⟩, h0⟩ | ⟨b, off, c2, e, hbl, hA, -, -⟩
          · simp only [Value.slice.injEq] at e
            omega
          · simp only [Value.slice.injEq] at e
            exact ⟨b, off, e.1, hbl, hA, trivial⟩
        have HVd : Hid (RB A w (.slice (some ⟨b, off + n, none⟩) (r.l.length - n) (c - n)) (r.l.drop n)) := RB.drop' HV.out h1 _ (by omega) hbl hA
        go_enter Tryz.func65, Tryz.ntmps65
        go_wp2
        go_ret
        rw [HF.out]
        exact ⟨_, rfl, HVT.out _, ⟨⟨_, HBB.out _, HAA.out _ _ _ HVd.out⟩, HA.out⟩, HFr.out _⟩
  · have HF : Hid (r.take n = ([], r)) := if_pos h0
    have t1 : ((r.e : Int) != 0) = true := by simp [h0]
    clear h0
    go_enter Tryz.func65, Tryz.ntmps65
    go_wp2
    go_ret
    rw [HF.out]
    exact ⟨_, rfl, RB.nil _ _, HH.out, Fr.refl _ _⟩
def NumQ (A : Nat → Prop) (p : Nat) (w : World) (x : Nat × Rd) (e : Ending) (w' : World) : Prop :=
  e = .returned (.int .i64 (x.1 : Nat)) ∧ IsRq A w' p x.2 ∧ Fr (fun k => k = p) w w'
set_option maxRecDepth 100000 in
set_option maxHeartbeats 1600000 in
theorem qnum_any (A : Nat → Prop) (p W : Nat) (r : Rd) (w : World) (h : IsRq A w p r) (h1 : 1 ≤ W) (h7 : W ≤ 7) (hl : r.l.length ≤ 100000) (he : r.e < 1000) :
    Calls Tryz.prog 39 #[.pointer (some ⟨p, 0, none⟩), .int .i64 W] w (NumQ A p w (r.num W)) := by
  have HH := Lib.hid h
  have hpl := h.lt
  have HT : Hid (r.num W = (nb (r.take W).1, (r.take W).2)) := rfl
  have ht : (r.take W).1.length ≤ 7 := Nat.le_trans (Rd.take_len r W).2.1 h7
  clear h
  go_enter Tryz.func39, Tryz.ntmps39
  go_wp2_with fail
  refine (rwide_any W h1 h7 _).mono ?_
  rintro e w1 ⟨rfl, rfl⟩
  go_wp2_with fail
  refine (qtake_any A p W r _ HH.out (by omega) hl he).mono ?_
  rintro e w2 ⟨v, rfl, hv, hr, hf⟩
  have HR := Lib.hid hr
  have HF := Lib.hid hf
  clear hr hf
  generalize r.take W = t at *
  obtain ⟨t, r2⟩ := t
  simp only at hv HR ht HT
  obtain ⟨a, c, rfl⟩ := hv.shape
  have HV := Lib.hid hv
  clear hv
  go_wp2
  go_loop [6, 7] (fun n q => ∃ k : Nat, k ≤ t.length ∧ q = .int .i64 k ∧ n = .int .i64 (nb (t.take k) : Nat)) (fun _ q => t.length - (intOf q).toNat)
  case atStart => exact ⟨0, by omega, rfl, rfl⟩
  case round =>
    obtain ⟨k, hk, rfl, rfl⟩ := hrel
    by_cases hlt : k < t.length
    · obtain ⟨b, off, rfl, hbl, -, hc⟩ := HV.out.cell hlt
      have HS := Lib.hid (nb_take_succ t k hlt)
      have hnb := nb_lt (t.take k)
      have hp : 256 ^ (t.take k).length ≤ 256 ^ 6 := Nat.pow_le_pow_right (by decide) (by simp; omega)
      have hnb2 : nb (t.take k) < 281474976710656 := Nat.lt_of_lt_of_le hnb hp
      have hb := (t[k]).toNat_lt
      have HO : Hid (((nb (t.take k) * 256 + (t[k]).toNat : Nat) : Int) = (nb (t.take (k + 1)) : Nat)) := by
        show _ = _
        rw [HS.out]
      generalize nb (t.take k) = N at *
      generalize (t[k]).toNat = B at *
      clear hnb hp
      go_wp2
      go_round
      case rel => exact ⟨k + 1, by omega, by go_num, by rw [← HO.out]; go_num⟩
      case measure => simp [intOf]; omega
    · obtain rfl : k = t.length := by omega
      have HTT : Hid (t.take t.length = t) := Lib.hid (List.take_length ..)
      go_wp2
      go_ret
      rw [HT.out]
      refine ⟨?_, HR.out, HF.out⟩
      simp
set_option maxRecDepth 100000 in
set_option maxHeartbeats 1600000 in
theorem qblob_any (A : Nat → Prop) (p m : Nat) (r : Rd) (w : World) (h : IsRq A w p r) (hm : m ≤ 10000) (hl : r.l.length ≤ 100000) (he : r.e < 1000) (he2 : (r.num 2).2.e < 1000) :
    Calls Tryz.prog 38 #[.pointer (some ⟨p, 0, none⟩), .int .i64 m] w (TakeQ A p w (r.blob m)) := by
  have HH := Lib.hid h
  have hpl := h.lt
  have hk := Rd.num_lt r 2
  have hl2 := Rd.num_len r 2
  have hbl : r.blob m = if m < (r.num 2).1 then ([], (r.num 2).2.fail 11) else (r.num 2).2.take (r.num 2).1 := rfl
  have HBL0 := Lib.hid hbl
  have hmx : max (m : Int) 0 = m := by omega
  clear h hbl
  go_enter Tryz.func38, Tryz.ntmps38
  go_wp2_with fail
  refine (qnum_any A p 2 r _ HH.out (by omega) (by omega) hl he).mono ?_
  rintro e w1 ⟨rfl, hr, hf⟩
  have HR := Lib.hid hr
  have HF := Lib.hid hf
  clear hr hf
  generalize r.num 2 = t at *
  obtain ⟨n, r2⟩ := t
  simp only at HR hk hl2 HBL0 he2
  have HBL : Hid (r.blob m = if m < n then ([], r2.fail 11) else r2.take n) := HBL0
  clear HBL0
  have hs1 := HF.out.size
  by_cases hlt : m < n
  · have HB2 := Lib.hid (HBL.out.trans (if_pos hlt))
    clear HBL
    go_wp2_with fail
    refine (qfail_any A p r2 11 _ HR.out (by omega) he2).mono ?_
    rintro e w2 ⟨rfl, hr, hf⟩
    have HR2 := Lib.hid hr
    have HF2 := Lib.hid hf
    clear hr hf
    go_wp2
    go_ret
    rw [HB2.out]
    exact ⟨_, rfl, RB.nil _ _, HR2.out, HF.out.trans HF2.out fun _ _ h => h⟩
  · have HB2 := Lib.hid (HBL.out.trans (if_neg hlt))
    clear HBL
    go_wp2_with fail
    refine (qtake_any A p n r2 _ HR.out (by omega) (by omega) he2).mono ?_
    rintro e w3 ⟨v, rfl, hv, hr, hf⟩
    have HR3 := Lib.hid hr
    have HF3 := Lib.hid hf
    have HV := Lib.hid hv
    clear hr hf hv
    go_wp2
    go_ret
    rw [HB2.out]
    exact ⟨_, rfl, HV.out, HR3.out, HF.out.trans HF3.out fun _ _ h => h⟩
set_option maxRecDepth 100000 in
set_option maxHeartbeats 800000 in
theorem qend_any (A : Nat → Prop) (p : Nat) (r : Rd) (w : World) (h : IsRq A w p r) (hl : r.l.length ≤ 100000) (he : r.e < 1000) :
    Calls Tryz.prog 41 #[.pointer (some ⟨p, 0, none⟩)] w fun e w' => e = .returned (.int .i64 (r.fin.e : Nat)) ∧ IsRq A w' p r.fin ∧ Fr (fun k => k = p) w w' := by
  obtain ⟨v, hb, hv⟩ := h.ex
  obtain ⟨a, c, rfl⟩ := hv.shape
  obtain ⟨c0, f0⟩ := blk_cell (i := 0) hb
  obtain ⟨c1, f1⟩ := blk_cell (i := 1) hb
  simp at c0 c1
  have HH := Lib.hid h
  clear h hb hv
  rcases Nat.eq_zero_or_pos r.l.length with h0 | h0
  · have HF : Hid (r.fin = r) := if_neg (by omega)
    have hle : (r.l.length : Int) ≤ 0 := by omega
    clear h0
    go_enter Tryz.func41, Tryz.ntmps41
    go_wp2
    go_ret
    rw [HF.out]
    exact ⟨rfl, HH.out, Fr.refl _ _⟩
  · have HF : Hid (r.fin = r.fail 11) := if_pos h0
    go_enter Tryz.func41, Tryz.ntmps41
    go_wp2_with fail
    refine (qfail_any A p r 11 _ HH.out (by omega) he).mono ?_
    rintro e w2 ⟨rfl, hr, hf⟩
    obtain ⟨v2, hb2, -⟩ := hr.ex
    have HR := Lib.hid hr
    have HFR := Lib.hid hf
    clear c0 f0 c1 f1 hr hf
    obtain ⟨c1, f1⟩ := blk_cell (i := 1) hb2
    simp at c1
    clear hb2
    go_wp2
    go_ret
    rw [HF.out]
    exact ⟨rfl, HR.out, HFR.out⟩
end Go.Proofs.YtgdilkhaopnhaaaGreatDoor
