/- The walks of the reference's reader: terrazzoref01.R's Fail, take, Num, Blob, End. The walk of terrazzoref02.Next. -/
import Derived.Test.YtlgefkaafoidmaaGreatDoorGE
import Derived.Test.YtlgefkaafoidmaaGreatDoorGN
import Derived.Test.YtlgefkaafoidmaaGreatDoorGM
import Derived.Deep.RegionHeldLaw
namespace Go.Proofs.YtlgefkaafoidmaaGreatDoor
open Go.RowKit Go.WideShapes

/-- the reference's reader behind a pointer: its bytes lie in blocks of A -/
structure IsRq (A : Nat → Prop) (w : World) (p : Nat) (r : Rd) : Prop where
  mk ::
  ex : ∃ v, w.heap[p]? = some (.cells #[v, .int .i64 (r.e : Nat)] 75 (0, 0)) ∧ RB A w v r.l
  apart : ¬ A p
theorem IsRq.lt {A : Nat → Prop} {w : World} {p : Nat} {r : Rd} (h : IsRq A w p r) : p < w.heap.size := by
  obtain ⟨v, hb, _⟩ := h.ex
  exact (Array.getElem?_eq_some_iff.1 hb).1
theorem IsRq.ext {A : Nat → Prop} {w w' : World} {p : Nat} {r : Rd} (h : IsRq A w p r) (hb : Below w.heap.size w w') : IsRq A w' p r := by
  obtain ⟨v, h1, h2⟩ := h.ex
  exact ⟨⟨v, (hb.block _ h.lt).trans h1, h2.ext hb⟩, h.apart⟩
theorem IsRq.same {A B : Nat → Prop} {w w' : World} {p : Nat} {r : Rd} (h : IsRq A w p r) (hs : Same B w w') (hB : B p) (hA : ∀ b, A b → B b) : IsRq A w' p r := by
  obtain ⟨v, h1, h2⟩ := h.ex
  exact ⟨⟨v, (hs.block _ hB h.lt).trans h1, SlA.mono h2 (hs.weak hA)⟩, h.apart⟩
set_option maxRecDepth 100000 in
set_option maxHeartbeats 800000 in
theorem qfail_any (A : Nat → Prop) (p : Nat) (r : Rd) (x : Nat) (w : World) (h : IsRq A w p r) (_hx : x < 1000) (_he : r.e < 1000) :
    Calls Tryz.prog 50 #[.pointer (some ⟨p, 0, none⟩), .int .i64 x] w fun e w' => e = .returned (.tuple #[]) ∧ IsRq A w' p (r.fail x) ∧ Fr (fun k => k = p) w w' := by
  obtain ⟨v, hb, hv⟩ := h.ex
  have HA := Lib.hid h.apart
  have hpl := h.lt
  have HV := Lib.hid hv
  obtain ⟨c0, f0⟩ := blk_cell (i := 0) hb
  obtain ⟨c1, f1⟩ := blk_cell (i := 1) hb
  simp at c0 c1
  have HB := Lib.hid hb
  clear h hv hb
  by_cases h0 : r.e = 0
  · by_cases h1 : x = 0
    · have HF : Hid (r.fail x = r) := if_neg (fun h => h.2 h1)
      have t1 : ((r.e : Int) == 0) = true := by simp [h0]
      have t2 : ((x : Int) != 0) = false := by simp [h1]
      clear h0 h1
      go_enter Tryz.func50, Tryz.ntmps50
      go_wp2
      go_end0
      rw [HF.out]
      exact ⟨rfl, ⟨⟨v, HB.out, HV.out⟩, HA.out⟩, Fr.refl _ _⟩
    · have HF : Hid (r.fail x = ⟨[], x⟩) := if_pos ⟨h0, h1⟩
      have t1 : ((r.e : Int) == 0) = true := by simp [h0]
      have t2 : ((x : Int) != 0) = true := by simp [h1]
      clear h0 h1
      go_enter Tryz.func50, Tryz.ntmps50
      go_wp2
      go_end0
      rw [HF.out]
      refine ⟨rfl, ⟨⟨.slice none 0 0, ?_, RB.nil _ _⟩, HA.out⟩, ?_⟩
      · have := HB.out
        simp [World.setCell, Array.getElem?_modify, this]
      · exact Fr.setCell (S := fun k => k = p) (a := ⟨p, 0, none⟩) (Fr.setCell (S := fun k => k = p) (a := ⟨p, 1, none⟩) (Fr.refl _ _) (fun _ => rfl) _) (fun _ => rfl) _
  · have HF : Hid (r.fail x = r) := if_neg (fun h => h0 h.1)
    have t1 : ((r.e : Int) == 0) = false := by simp [h0]
    clear h0
    go_enter Tryz.func50, Tryz.ntmps50
    go_wp2
    go_end0
    rw [HF.out]
    exact ⟨rfl, ⟨⟨v, HB.out, HV.out⟩, HA.out⟩, Fr.refl _ _⟩

/-- what a method that takes bytes leaves: they lie where the reader's lie -/
def TakeQ (A : Nat → Prop) (p : Nat) (w : World) (x : List UInt8 × Rd) (e : Ending) (w' : World) : Prop :=
  ∃ v, e = .returned v ∧ RB A w' v x.1 ∧ IsRq A w' p x.2 ∧ Fr (fun k => k = p) w w'
theorem RB.takeN {A : Nat → Prop} {w : World} {a : Option Addr} {c n : Nat} {l : List UInt8} (h : RB A w (.slice a l.length c) l) (hn : n ≤ l.length) : RB A w (.slice a n c) (l.take n) := by
  rcases h.2 with ⟨⟨a', e⟩, h0⟩ | ⟨b, off, cap, e, hb, hA, hc, hx⟩
  · simp only [Value.slice.injEq] at e
    obtain ⟨-, -, rfl⟩ := e
    obtain rfl := List.eq_nil_of_length_eq_zero h0
    obtain rfl : n = 0 := by simpa using hn
    exact RB.zero _ _ _
  · simp only [Value.slice.injEq] at e
    obtain ⟨rfl, -, rfl⟩ := e
    rcases Nat.eq_zero_or_pos l.length with h0 | h0
    · obtain rfl := List.eq_nil_of_length_eq_zero h0
      obtain rfl : n = 0 := by simpa using hn
      exact RB.empty_at hb hA
    · exact RB.take h hn _ (by omega) h0
theorem setCell_blk' {w : World} {p : Nat} {t : TypeId} {a b v : Value} (h : w.heap[p]? = some (.cells #[a, b] t (0, 0))) : (w.setCell ⟨p, 0, none⟩ v).heap[p]? = some (.cells #[v, b] t (0, 0)) := setCell_blk h
set_option maxRecDepth 100000 in
set_option maxHeartbeats 1600000 in
theorem qtake_any (A : Nat → Prop) (p n : Nat) (r : Rd) (w : World) (h : IsRq A w p r) (hn : n ≤ 100000) (_hl : r.l.length ≤ 100000) (he : r.e < 1000) :
    Calls Tryz.prog 64 #[.pointer (some ⟨p, 0, none⟩), .int .i64 n] w (TakeQ A p w (r.take n)) := by
  obtain ⟨v, hb, hv⟩ := h.ex
  have HA := Lib.hid h.apart
  have hpl := h.lt
  have HH := Lib.hid h
  obtain ⟨a, c, rfl⟩ := hv.shape
  have HV := Lib.hid hv
  have hcap := hv.cutAll
  obtain ⟨c0, f0⟩ := blk_cell (i := 0) hb
  obtain ⟨c1, f1⟩ := blk_cell (i := 1) hb
  simp at c0 c1
  have HB := Lib.hid hb
  clear h hv hb
  by_cases h0 : r.e = 0
  · have t1 : ((r.e : Int) != 0) = false := by simp [h0]
    rcases Nat.lt_or_ge r.l.length n with h1 | h1
    · have HF : Hid (r.take n = ([], r.fail 10)) := by
        show r.take n = _
        unfold Rd.take Rd.fail
        rw [if_neg (fun h => h h0), if_pos h1, if_pos ⟨h0, by decide⟩]
      clear h0
      go_enter Tryz.func64, Tryz.ntmps64
      go_wp2_with fail
      refine (qfail_any A p r 10 _ HH.out (by omega) he).mono ?_
      rintro e w1 ⟨rfl, hr1, hf1⟩
      have HR1 := Lib.hid hr1
      have HF1 := Lib.hid hf1
      clear hr1 hf1 c0 c1 f0 f1
      go_wp2
      go_ret
      rw [HF.out]
      exact ⟨_, rfl, RB.nil _ _, HR1.out, HF1.out⟩
    · have HF : Hid (r.take n = (r.l.take n, ⟨r.l.drop n, 0⟩)) := by
        show r.take n = _
        unfold Rd.take
        rw [if_neg (fun h => h h0), if_neg (by omega)]
      have HVT : Hid (∀ u, RB A (w.setCell ⟨p, 0, none⟩ u) (.slice a n c) (r.l.take n)) := Lib.hid fun u => (HV.out.takeN h1).mono (Same.setCell (Same.refl _ _) HA.out _)
      have HBB : Hid (∀ u, (w.setCell ⟨p, 0, none⟩ u).heap[p]? = some (.cells #[u, .int .i64 ((0 : Nat) : Int)] 75 (0, 0))) := Lib.hid fun u => by
        have := HB.out
        rw [h0] at this
        exact setCell_blk this
      have HFr : Hid (∀ u, Fr (fun k => k = p) w (w.setCell ⟨p, 0, none⟩ u)) := Lib.hid fun u => Fr.setCell (S := fun k => k = p) (a := ⟨p, 0, none⟩) (Fr.refl _ _) (fun _ => rfl) _
      have HAA : Hid (∀ u v l, RB A w v l → RB A (w.setCell ⟨p, 0, none⟩ u) v l) := Lib.hid fun u v l h => h.mono (Same.setCell (Same.refl _ _) HA.out _)
      clear h0
      by_cases hcn : c = n
      · obtain rfl : c = r.l.length := by omega
        have HD : Hid (r.l.drop n = []) := List.drop_of_length_le (by omega)
        obtain rfl := hcn
        go_enter Tryz.func64, Tryz.ntmps64
        go_wp2
        go_ret
        rw [HF.out, HD.out]
        exact ⟨_, rfl, HVT.out _, ⟨⟨_, HBB.out _, HAA.out _ _ _ (RB.zero _ _ _)⟩, HA.out⟩, HFr.out _⟩
      · obtain ⟨b, off, rfl, hbl, hA, -⟩ : ∃ b off, a = some ⟨b, off, none⟩ ∧ b < w.heap.size ∧ A b ∧ True := by
          rcases HV.out.2 with ⟨⟨a0, e⟩, h0⟩ | ⟨b, off, c2, e, hbl, hA, -, -⟩
          · simp only [Value.slice.injEq] at e
            omega
          · simp only [Value.slice.injEq] at e
            exact ⟨b, off, e.1, hbl, hA, trivial⟩
        have HVd : Hid (RB A w (.slice (some ⟨b, off + n, none⟩) (r.l.length - n) (c - n)) (r.l.drop n)) := RB.drop' HV.out h1 _ (by omega) hbl hA
        go_enter Tryz.func64, Tryz.ntmps64
        go_wp2
        go_ret
        rw [HF.out]
        exact ⟨_, rfl, HVT.out _, ⟨⟨_, HBB.out _, HAA.out _ _ _ HVd.out⟩, HA.out⟩, HFr.out _⟩
  · have HF : Hid (r.take n = ([], r)) := if_pos h0
    have t1 : ((r.e : Int) != 0) = true := by simp [h0]
    clear h0
    go_enter Tryz.func64, Tryz.ntmps64
    go_wp2
    go_ret
    rw [HF.out]
    exact ⟨_, rfl, RB.nil _ _, HH.out, Fr.refl _ _⟩
def NumQ (A : Nat → Prop) (p : Nat) (w : World) (x : Nat × Rd) (e : Ending) (w' : World) : Prop :=
  e = .returned (.int .i64 (x.1 : Nat)) ∧ IsRq A w' p x.2 ∧ Fr (fun k => k = p) w w'
set_option maxRecDepth 100000 in
set_option maxHeartbeats 1600000 in
theorem qnum_any (A : Nat → Prop) (p W : Nat) (r : Rd) (w : World) (h : IsRq A w p r) (h1 : 1 ≤ W) (h7 : W ≤ 7) (hl : r.l.length ≤ 100000) (he : r.e < 1000) :
    Calls Tryz.prog 32 #[.pointer (some ⟨p, 0, none⟩), .int .i64 W] w (NumQ A p w (r.num W)) := by
  have HH := Lib.hid h
  have hpl := h.lt
  have HT : Hid (r.num W = (nb (r.take W).1, (r.take W).2)) := rfl
  have ht : (r.take W).1.length ≤ 7 := Nat.le_trans (Rd.take_len r W).2.1 h7
  clear h
  go_enter Tryz.func32, Tryz.ntmps32
  go_wp2_with fail
  refine (rwide_any W h1 h7 _).mono ?_
  rintro e w1 ⟨rfl, rfl⟩
  go_wp2_with fail
  refine (qtake_any A p W r _ HH.out (by omega) hl he).mono ?_
  rintro e w2 ⟨v, rfl, hv, hr, hf⟩
  have HR := Lib.hid hr
  have HF := Lib.hid hf
  clear hr hf
  generalize r.take W = t at *
  obtain ⟨t, r2⟩ := t
  simp only at hv HR ht HT
  obtain ⟨a, c, rfl⟩ := hv.shape
  have HV := Lib.hid hv
  clear hv
  go_wp2
  go_loop [6, 7] (fun n q => ∃ k : Nat, k ≤ t.length ∧ q = .int .i64 k ∧ n = .int .i64 (nb (t.take k) : Nat)) (fun _ q => t.length - (intOf q).toNat)
  case atStart => exact ⟨0, by omega, rfl, rfl⟩
  case round =>
    obtain ⟨k, hk, rfl, rfl⟩ := hrel
    by_cases hlt : k < t.length
    · obtain ⟨b, off, rfl, hbl, -, hc⟩ := HV.out.cell hlt
      have HS := Lib.hid (nb_take_succ t k hlt)
      have hnb := nb_lt (t.take k)
      have hp : 256 ^ (t.take k).length ≤ 256 ^ 6 := Nat.pow_le_pow_right (by decide) (by simp; omega)
      have hnb2 : nb (t.take k) < 281474976710656 := Nat.lt_of_lt_of_le hnb hp
      have hb := (t[k]).toNat_lt
      have HO : Hid (((nb (t.take k) * 256 + (t[k]).toNat : Nat) : Int) = (nb (t.take (k + 1)) : Nat)) := by
        show _ = _
        rw [HS.out]
      generalize nb (t.take k) = N at *
      generalize (t[k]).toNat = B at *
      clear hnb hp
      go_wp2
      go_round
      case rel => exact ⟨k + 1, by omega, by go_num, by rw [← HO.out]; go_num⟩
      case measure => simp [intOf]; omega
    · obtain rfl : k = t.length := by omega
      have HTT : Hid (t.take t.length = t) := Lib.hid (List.take_length ..)
      go_wp2
      go_ret
      rw [HT.out]
      refine ⟨?_, HR.out, HF.out⟩
      simp
set_option maxRecDepth 100000 in
set_option maxHeartbeats 1600000 in
theorem qblob_any (A : Nat → Prop) (p m : Nat) (r : Rd) (w : World) (h : IsRq A w p r) (hm : m ≤ 10000) (hl : r.l.length ≤ 100000) (he : r.e < 1000) (he2 : (r.num 2).2.e < 1000) :
    Calls Tryz.prog 33 #[.pointer (some ⟨p, 0, none⟩), .int .i64 m] w (TakeQ A p w (r.blob m)) := by
  have HH := Lib.hid h
  have hpl := h.lt
  have hk := Rd.num_lt r 2
  have hl2 := Rd.num_len r 2
  have hbl : r.blob m = if m < (r.num 2).1 then ([], (r.num 2).2.fail 11) else (r.num 2).2.take (r.num 2).1 := rfl
  have HBL0 := Lib.hid hbl
  have hmx : max (m : Int) 0 = m := by omega
  clear h hbl
  go_enter Tryz.func33, Tryz.ntmps33
  go_wp2_with fail
  refine (qnum_any A p 2 r _ HH.out (by omega) (by omega) hl he).mono ?_
  rintro e w1 ⟨rfl, hr, hf⟩
  have HR := Lib.hid hr
  have HF := Lib.hid hf
  clear hr hf
  generalize r.num 2 = t at *
  obtain ⟨n, r2⟩ := t
  simp only at HR hk hl2 HBL0 he2
  have HBL : Hid (r.blob m = if m < n then ([], r2.fail 11) else r2.take n) := HBL0
  clear HBL0
  have hs1 := HF.out.size
  by_cases hlt : m < n
  · have HB2 := Lib.hid (HBL.out.trans (if_pos hlt))
    clear HBL
    go_wp2_with fail
    refine (qfail_any A p r2 11 _ HR.out (by omega) he2).mono ?_
    rintro e w2 ⟨rfl, hr, hf⟩
    have HR2 := Lib.hid hr
    have HF2 := Lib.hid hf
    clear hr hf
    go_wp2
    go_ret
    rw [HB2.out]
    exact ⟨_, rfl, RB.nil _ _, HR2.out, HF.out.trans HF2.out fun _ _ h => h⟩
  · have HB2 := Lib.hid (HBL.out.trans (if_neg hlt))
    clear HBL
    go_wp2_with fail
    refine (qtake_any A p n r2 _ HR.out (by omega) (by omega) he2).mono ?_
    rintro e w3 ⟨v, rfl, hv, hr, hf⟩
    have HR3 := Lib.hid hr
    have HF3 := Lib.hid hf
    have HV := Lib.hid hv
    clear hr hf hv
    go_wp2
    go_ret
    rw [HB2.out]
    exact ⟨_, rfl, HV.out, HR3.out, HF.out.trans HF3.out fun _ _ h => h⟩
set_option maxRecDepth 100000 in
set_option maxHeartbeats 800000 in
theorem qend_any (A : Nat → Prop) (p : Nat) (r : Rd) (w : World) (h : IsRq A w p r) (hl : r.l.length ≤ 100000) (he : r.e < 1000) :
    Calls Tryz.prog 34 #[.pointer (some ⟨p, 0, none⟩)] w fun e w' => e = .returned (.int .i64 (r.fin.e : Nat)) ∧ IsRq A w' p r.fin ∧ Fr (fun k => k = p) w w' := by
  obtain ⟨v, hb, hv⟩ := h.ex
  obtain ⟨a, c, rfl⟩ := hv.shape
  obtain ⟨c0, f0⟩ := blk_cell (i := 0) hb
  obtain ⟨c1, f1⟩ := blk_cell (i := 1) hb
  simp at c0 c1
  have HH := Lib.hid h
  clear h hb hv
  rcases Nat.eq_zero_or_pos r.l.length with h0 | h0
  · have HF : Hid (r.fin = r) := if_neg (by omega)
    have hle : (r.l.length : Int) ≤ 0 := by omega
    clear h0
    go_enter Tryz.func34, Tryz.ntmps34
    go_wp2
    go_ret
    rw [HF.out]
    exact ⟨rfl, HH.out, Fr.refl _ _⟩
  · have HF : Hid (r.fin = r.fail 11) := if_pos h0
    go_enter Tryz.func34, Tryz.ntmps34
    go_wp2_with fail
    refine (qfail_any A p r 11 _ HH.out (by omega) he).mono ?_
    rintro e w2 ⟨rfl, hr, hf⟩
    obtain ⟨v2, hb2, -⟩ := hr.ex
    have HR := Lib.hid hr
    have HFR := Lib.hid hf
    clear c0 f0 c1 f1 hr hf
    obtain ⟨c1, f1⟩ := blk_cell (i := 1) hb2
    simp at c1
    clear hb2
    go_wp2
    go_ret
    rw [HF.out]
    exact ⟨rfl, HR.out, HFR.out⟩
end Go.Proofs.YtlgefkaafoidmaaGreatDoor
namespace Go.Proofs.YtlgefkaafoidmaaGreatDoor
open Go.RowKit Go.WideShapes

/-- what Next leaves -/
def NxR (A : Nat → Prop) (l : List UInt8) (w : World) (e : Ending) (w' : World) : Prop :=
  ∃ (v : Value) (n : Nat), e = .returned (.tuple #[.int .i64 ((nextB l).kind : Nat), v, .int .i64 (n : Nat), .int .i64 ((nextB l).e : Nat)]) ∧ RB A w' v (nextB l).body ∧ ((nextB l).e = 0 → n + (nextB l).rest.length = l.length) ∧ Below w.heap.size w w'
theorem NxR.no {A : Nat → Prop} {l : List UInt8} {w w' : World} {x : Nat} (h : nextB l = ⟨0, [], [], x⟩) (hx : x ≠ 0) (hb : Below w.heap.size w w') : NxR A l w (.returned (.tuple #[.int .i64 0, .slice none 0 0, .int .i64 0, .int .i64 (x : Nat)])) w' := by
  refine ⟨.slice none 0 0, 0, by rw [h]; rfl, by rw [h]; exact RB.nil _ _, by rw [h]; exact fun h => absurd h hx, hb⟩
theorem str_ne {l m : List UInt8} (h : l ≠ m) : ((⟨l.toArray⟩ : ByteArray).toList == (⟨m.toArray⟩ : ByteArray).toList) = false := by rw [eqBL]; exact decide_eq_false h
set_option maxRecDepth 100000 in
set_option maxHeartbeats 4000000 in
theorem rnx_any (A : Nat → Prop) (v : Value) (l : List UInt8) (w : World) (hv : RB A w v l) (hl : l.length ≤ 100000) : Calls Tryz.prog 63 #[v] w (NxR A l w) := by
  obtain ⟨xa, xc, rfl⟩ := hv.shape
  have HV := Lib.hid hv
  by_cases h8 : l.length < 8
  · have hn : nextB l = ⟨0, [], [], 10⟩ := by unfold nextB; rw [if_pos h8]
    have HN := Lib.hid hn
    have h8' : (l.length : Int) < 8 := by omega
    clear hv hn
    go_enter Tryz.func63, Tryz.ntmps63
    go_wp2
    refine bodyPost_ret (results_tmp4 rfl _ _ _) rfl ?_
    exact NxR.no HN.out (by decide) (Below.refl _ _)
  · obtain ⟨b, off, rfl, hbl, hAb, hcap, hc⟩ := SlA.at hv (by omega)
    have hb0 : w.cell? ⟨b, off, none⟩ = some (.int .u8 (byteAt l 0 : Nat)) := by have := RB.byte HV.out (k := 0) (by omega); simpa using this
    have hb1 : w.cell? ⟨b, off + 1, none⟩ = some (.int .u8 (byteAt l 1 : Nat)) := RB.byte HV.out (by omega)
    have hb2 : w.cell? ⟨b, off + 2, none⟩ = some (.int .u8 (byteAt l 2 : Nat)) := RB.byte HV.out (by omega)
    have hb3 : w.cell? ⟨b, off + 3, none⟩ = some (.int .u8 (byteAt l 3 : Nat)) := RB.byte HV.out (by omega)
    have l0 := byteAt_lt l 0
    have l1 := byteAt_lt l 1
    have l2 := byteAt_lt l 2
    have l3 := byteAt_lt l 3
    clear hv hc
    by_cases h90 : byteAt l 0 = 90
    · have hq : ((byteAt l 0 : Int) != 90) = false := by simp [h90]
      have HS1 : Hid (RB A w (.slice (some ⟨b, off, none⟩) 4 xc) (l.take 4)) := Lib.hid (HV.out.takeN (by omega))
      have HS2 : Hid (RB A w (.slice (some ⟨b, off + 4, none⟩) 4 (xc - 4)) ((l.drop 4).take 4)) := Lib.hid (RB.takeN (l := l.drop 4) (by rw [List.length_drop]; exact RB.drop' HV.out (by omega) _ (by omega) hbl hAb) (by rw [List.length_drop]; omega))
      have HCV : Hid (∀ W, Below w.heap.size w W → Below w.heap.size w W ∧ (Go.convert 27 9 (.slice (some ⟨b, off + 4, none⟩) 4 (xc - 4))).run Tryz.prog W = .ok (.string ⟨((l.drop 4).take 4).toArray⟩) W) := Lib.hid fun W h => ⟨h, cnv_bytes HS2.out W h⟩
      have h4c : 4 ≤ xc := by omega
      have h8c : 8 ≤ xc := by omega
      have h4i : (4 : Int) ≤ xc := by omega
      have h8i : (8 : Int) ≤ xc := by omega
      by_cases ht : tailB (l.take 4) = (l.drop 4).take 4
      · obtain ⟨s1, hs1⟩ : ∃ x, x = (l.drop 4).take 4 := ⟨_, rfl⟩
        rw [← hs1] at ht HCV HS2
        have HT2 := Lib.hid ht
        obtain ⟨M, hM⟩ : ∃ M, M = byteAt l 2 * 256 + byteAt l 3 := ⟨_, rfl⟩
        have HM := Lib.hid hM
        have hMM : (256 * (byteAt l 2 : Int) + (byteAt l 3 : Int)) = (M : Int) := by omega
        have HNX : Hid (nextB l = if 8192 < M then ⟨0, [], [], 11⟩ else if l.length < M + 12 then ⟨0, [], [], 10⟩ else if tailB ((l.drop 8).take M) ≠ (l.drop (8 + M)).take 4 then ⟨0, [], [], 20⟩ else ⟨byteAt l 1, (l.drop 8).take M, l.drop (8 + M + 4), 0⟩) := Lib.hid (by
          rw [hM]
          conv => lhs; unfold nextB
          rw [if_neg h8, if_neg (fun h => h h90), if_neg (fun h => h (by rw [ht, hs1]))])
        clear hM ht hs1
        go_enter Tryz.func63, Tryz.ntmps63
        go_upto_region 5 with fail
        go_cut [22] (fun s22 wx => s22 = .bool false ∧ Below w.heap.size w wx)
        case first =>
          go_region_held_law (fun W => Below w.heap.size w W ∧ (Go.convert 27 9 (.slice (some ⟨b, off + 4, none⟩) 4 (xc - 4))).run Tryz.prog W = .ok (.string ⟨s1.toArray⟩) W)
            ((refine HCV.out _ ?_; first | (with_reducible exact Below.drew (Below.refl _ _)) | (with_reducible exact hz)))
            (first
              | (go_at_call 86; refine (rtail_any A _ (l.take 4) _ (by simp; omega) (HS1.out.ext (Below.drew (Below.refl _ _)))).mono ?_; rintro e w2 ⟨v2, rfl, h2, hb2⟩; rw [HT2.out] at h2; obtain ⟨a2, c2, rfl⟩ := h2.rb.shape; have hz : Below w.heap.size w w2 := below_call (Below.drew (Below.refl _ _)) hb2; have s2 := cnv_bytes h2.rb w2 (Below.refl _ _)))
          all_goals
            go_wp2_with fail
            go_meet
            exact ⟨rfl, hz⟩
        case rest =>
          obtain ⟨rfl, hbc⟩ := hcut
          have W1 := Lib.hid hbc
          have V1 := Lib.hid (HV.out.ext hbc)
          have e1 := cellExt hbc hb1
          have e2 := cellExt hbc hb2
          have e3 := cellExt hbc hb3
          have hbl1 : b < wc.heap.size := by have := hbc.size; omega
          clear hbc hb0 hb1 hb2 hb3 HCV HS1 HS2 HV hq HT2
          by_cases hM1 : 8192 < M
          · have HN := Lib.hid (HNX.out.trans (if_pos hM1))
            have hM1' : (8192 : Int) < M := by omega
            clear hM1
            go_upto_region 7 with fail
            go_quiet (fail)
            go_wp2
            refine bodyPost_ret (results_tmp4 rfl _ _ _) rfl ?_
            exact NxR.no HN.out (by decide) (by first | exact Below.drew W1.out | exact below_drewN W1.out _)
          · by_cases hM2 : l.length < M + 12
            · have HN := Lib.hid (HNX.out.trans ((if_neg hM1).trans (if_pos hM2)))
              have hM1' : (M : Int) ≤ 8192 := by omega
              have hM2' : (l.length : Int) < (M : Int) + 12 := by omega
              clear hM1 hM2
              go_upto_region 7 with fail
              go_quiet (fail)
              go_wp2
              refine bodyPost_ret (results_tmp4 rfl _ _ _) rfl ?_
              exact NxR.no HN.out (by decide) (by first | exact Below.drew W1.out | exact below_drewN W1.out _)
            · have HNY := Lib.hid (HNX.out.trans ((if_neg hM1).trans (if_neg hM2)))
              have hM1' : (M : Int) ≤ 8192 := by omega
              have hM2' : (M : Int) + 12 ≤ (l.length : Int) := by omega
              have hM3 : M + 12 ≤ l.length := by omega
              clear hM1 hM2
              go_upto_region 7 with fail
              go_quiet (fail)
              go_upto_region 13 with fail
              obtain ⟨wd, hwd⟩ : ∃ wd, wd = wc.drewN nq := ⟨_, rfl⟩
              rw [← hwd]
              have hbd : Below wc.heap.size wc wd := by rw [hwd]; exact below_drewN (Below.refl _ _) _
              have WD := Lib.hid (below_call W1.out hbd)
              have VD := Lib.hid (V1.out.ext hbd)
              have e1 := cellExt hbd e1
              have hbld : b < wd.heap.size := by have := hbd.size; omega
              have h88 : 8 + M - 8 = M := by omega
              obtain ⟨P, hP⟩ : ∃ P, P = 8 + M := ⟨_, rfl⟩
              obtain ⟨R, hR⟩ : ∃ R, R = 12 + M := ⟨_, rfl⟩
              have hw1 : IntKind.i64.wrap (8 + (M : Int)) = (P : Int) := by rw [IntKind.wrap_i64]; omega
              have hw2 : IntKind.i64.wrap (12 + (M : Int)) = (R : Int) := by rw [IntKind.wrap_i64]; omega
              have hx1 : (R : Int) ≤ (xc : Int) := by omega
              have hx2 : ¬ xc = P := by omega
              have hx3 : (P : Int) ≤ (R : Int) := by omega
              have hx4 : max (R : Int) 0 = (R : Int) := by omega
              have h48 : R - P = 4 := by omega
              rw [h88]
              have HS1 : Hid (RB A wd (.slice (some ⟨b, off + 8, none⟩) M (xc - 8)) ((l.drop 8).take M)) := Lib.hid (RB.takeN (l := l.drop 8) (by rw [List.length_drop]; exact RB.drop' VD.out (by omega) _ (by omega) hbld hAb) (by rw [List.length_drop]; omega))
              obtain ⟨s1, hs1⟩ : ∃ x, x = (l.drop (8 + M)).take 4 := ⟨_, rfl⟩
              have HS2 : Hid (RB A wd (.slice (some ⟨b, off + P, none⟩) (R - P) (xc - P)) s1) := Lib.hid (by
                rw [h48, hs1, ← hP]
                exact RB.takeN (l := l.drop P) (by rw [List.length_drop]; exact RB.drop' VD.out (by omega) _ (by omega) hbld hAb) (by rw [List.length_drop]; omega))
              have HCV : Hid (∀ W, Below wd.heap.size wd W → Below wd.heap.size wd W ∧ (Go.convert 27 9 (.slice (some ⟨b, off + P, none⟩) (R - P) (xc - P))).run Tryz.prog W = .ok (.string ⟨s1.toArray⟩) W) := Lib.hid fun W h => ⟨h, by have := cnv_bytes HS2.out W h; exact this⟩
              clear hwd hbd hbl1 V1 W1 e2 e3 h88 h48 hP hR
              by_cases ht : tailB ((l.drop 8).take M) = s1
              · have HN := Lib.hid (HNY.out.trans (if_neg (fun h => h (by rw [ht, hs1]))))
                have HT2 := Lib.hid ht
                clear ht hs1
                go_region_held_law (fun W => Below wd.heap.size wd W ∧ (Go.convert 27 9 (.slice (some ⟨b, off + P, none⟩) (R - P) (xc - P))).run Tryz.prog W = .ok (.string ⟨s1.toArray⟩) W)
                  ((refine HCV.out _ ?_; first | (with_reducible exact Below.drew (Below.refl _ _)) | (with_reducible exact hz)))
                  (first
                    | (go_at_call 86; refine (rtail_any A _ ((l.drop 8).take M) _ (by simp; omega) (HS1.out.ext (Below.drew (Below.refl _ _)))).mono ?_; rintro e w2 ⟨v2, rfl, h2, hb2⟩; rw [HT2.out] at h2; obtain ⟨a2, c2, rfl⟩ := h2.rb.shape; have hz : Below wd.heap.size wd w2 := below_call (Below.drew (Below.refl _ _)) hb2; have s3 := cnv_bytes h2.rb w2 (Below.refl _ _); have e1' := cellExt hz e1))
                all_goals
                  go_wp2
                  refine bodyPost_ret (results_tmp4 rfl _ _ _) rfl ?_
                  refine ⟨.slice (some ⟨b, off + 8, none⟩) M (xc - 8), M + 12, by rw [HN.out]; rfl, by rw [HN.out]; exact HS1.out.ext hz, by rw [HN.out]; simp; omega, below_call WD.out hz⟩
              · have HN := Lib.hid (HNY.out.trans (if_pos (by rw [← hs1]; exact ht)))
                obtain ⟨s2, hs2⟩ : ∃ x, x = tailB ((l.drop 8).take M) := ⟨_, rfl⟩
                rw [← hs2] at ht
                have hnea : ¬ s1 = s2 := fun e => ht e.symm
                have hneb : (s1 == s2) = false := by simp [hnea]
                have HT2 := Lib.hid hs2
                clear ht hs1 hs2 hnea
                go_region_held_law (fun W => Below wd.heap.size wd W ∧ (Go.convert 27 9 (.slice (some ⟨b, off + P, none⟩) (R - P) (xc - P))).run Tryz.prog W = .ok (.string ⟨s1.toArray⟩) W)
                  ((refine HCV.out _ ?_; first | (with_reducible exact Below.drew (Below.refl _ _)) | (with_reducible exact hz)))
                  (first
                    | (go_at_call 86; refine (rtail_any A _ ((l.drop 8).take M) _ (by simp; omega) (HS1.out.ext (Below.drew (Below.refl _ _)))).mono ?_; rintro e w2 ⟨v2, rfl, h2, hb2⟩; rw [← HT2.out] at h2; obtain ⟨a2, c2, rfl⟩ := h2.rb.shape; have hz : Below wd.heap.size wd w2 := below_call (Below.drew (Below.refl _ _)) hb2; have s3 := cnv_bytes h2.rb w2 (Below.refl _ _); have e1' := cellExt hz e1))
                all_goals
                  go_wp2
                  refine bodyPost_ret (results_tmp4 rfl _ _ _) rfl ?_
                  exact NxR.no HN.out (by decide) (below_call WD.out hz)
      · have hn : nextB l = ⟨0, [], [], 20⟩ := by unfold nextB; rw [if_neg h8, if_neg (fun h => h h90), if_pos ht]
        have HN := Lib.hid hn
        obtain ⟨s1, hs1⟩ : ∃ x, x = (l.drop 4).take 4 := ⟨_, rfl⟩
        obtain ⟨s2, hs2⟩ : ∃ x, x = tailB (l.take 4) := ⟨_, rfl⟩
        rw [← hs1] at ht HCV HS2
        rw [← hs2] at ht
        have hnea : ¬ s1 = s2 := fun e => ht e.symm
        have hneb : (s1 == s2) = false := by simp [hnea]
        clear hnea
        have HT2 := Lib.hid hs2
        clear hn ht hs1 hs2
        go_enter Tryz.func63, Tryz.ntmps63
        go_upto_region 5 with fail
        go_region_held_law (fun W => Below w.heap.size w W ∧ (Go.convert 27 9 (.slice (some ⟨b, off + 4, none⟩) 4 (xc - 4))).run Tryz.prog W = .ok (.string ⟨s1.toArray⟩) W)
          ((refine HCV.out _ ?_; first | (with_reducible exact Below.drew (Below.refl _ _)) | (with_reducible exact hz)))
          (first
            | (go_at_call 86; refine (rtail_any A _ (l.take 4) _ (by simp; omega) (HS1.out.ext (Below.drew (Below.refl _ _)))).mono ?_; rintro e w2 ⟨v2, rfl, h2, hb2⟩; rw [← HT2.out] at h2; obtain ⟨a2, c2, rfl⟩ := h2.rb.shape; have hz : Below w.heap.size w w2 := below_call (Below.drew (Below.refl _ _)) hb2; have s3 := cnv_bytes h2.rb w2 (Below.refl _ _)))
        all_goals
          go_wp2
          refine bodyPost_ret (results_tmp4 rfl _ _ _) rfl ?_
          exact NxR.no HN.out (by decide) hz
    · have hn : nextB l = ⟨0, [], [], 11⟩ := by unfold nextB; rw [if_neg h8, if_pos h90]
      have HN := Lib.hid hn
      have hq : ((byteAt l 0 : Int) != 90) = true := by simp; omega
      clear hn h90
      go_enter Tryz.func63, Tryz.ntmps63
      go_wp2
      refine bodyPost_ret (results_tmp4 rfl _ _ _) rfl ?_
      exact NxR.no HN.out (by decide) (Below.refl _ _)
end Go.Proofs.YtlgefkaafoidmaaGreatDoor
