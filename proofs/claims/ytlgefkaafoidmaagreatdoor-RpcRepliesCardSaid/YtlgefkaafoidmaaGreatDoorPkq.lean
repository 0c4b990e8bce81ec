/- The walk of rpc.PackRequest at a request without a transaction. -/
import Derived.Test.YtlgefkaafoidmaaGreatDoorGH
import Derived.Laws.IdiomStrings
import Derived.Deep.DrawnRows
namespace Go.Proofs.YtlgefkaafoidmaaGreatDoor
open Go.RowKit Go.WideShapes
attribute [local go_sem ↓] Go.wp_at_zero Go.wp_at_succ

theorem one_cell (w : World) (n : Nat) (t : TypeId) : ∀ (i : Nat) (hi : i < [n].length), (w.alloc (.cells #[.int .i64 (n : Nat)] t)).cell? ⟨w.heap.size, 0 + i, none⟩ = some (.int .i64 ([n][i] : Nat)) := by
  intro i hi
  obtain rfl : i = 0 := by simpa using hi
  simp
theorem three_cell (w : World) (a b c : Nat) (t : TypeId) : ∀ (i : Nat) (hi : i < [a, b, c].length), (w.alloc (.cells #[.int .i64 (a : Nat), .int .i64 (b : Nat), .int .i64 (c : Nat)] t)).cell? ⟨w.heap.size, 0 + i, none⟩ = some (.int .i64 ([a, b, c][i] : Nat)) := by
  intro i hi
  have : i < 3 := hi
  obtain rfl | rfl | rfl : i = 0 ∨ i = 1 ∨ i = 2 := by omega
  all_goals simp
theorem all_one {P : Nat → Prop} {a : Nat} (h : P a) : ∀ n ∈ [a], P n := by
  intro n hn
  simp at hn
  rwa [hn]
theorem all_three {P : Nat → Prop} {a b c : Nat} (h : P a) (h1 : P b) (h2 : P c) : ∀ n ∈ [a, b, c], P n := by
  intro n hn
  simp at hn
  rcases hn with rfl | rfl | rfl <;> assumption
/-- what stays while the writer writes -/
structure Wst (w0 : World) (p s1 s2 s3 s4 : Nat) (c l s k i wh n : Nat) (ov : Value) (w : World) (L : List UInt8) : Prop where
  mk ::
  wr : IsWr p w p L
  q : w.heap[w0.heap.size]? = some (.cells (rqC ⟨c, l, s, k, i, wh, n, TxD.none⟩ ov) 26 (0, 0))
  c1 : w.cell? ⟨s1, 0, none⟩ = some (.pointer (some ⟨p, 0, none⟩))
  c2 : w.cell? ⟨s2, 0, none⟩ = some (.int .i64 1)
  c3 : w.cell? ⟨s3, 0, none⟩ = some (.pointer (some ⟨p, 0, none⟩))
  c4 : w.cell? ⟨s4, 0, none⟩ = some (.int .i64 6)
  bw : Below w0.heap.size w0 w
structure Wfx (w0 : World) (p s1 s2 s3 s4 : Nat) : Prop where
  n1 : s1 ≠ p
  n2 : s2 ≠ p
  n3 : s3 ≠ p
  n4 : s4 ≠ p
  lo : w0.heap.size < p
theorem Wst.ext {w0 : World} {p s1 s2 s3 s4 c l s k i wh n : Nat} {ov : Value} {w w' : World} {L : List UInt8} (h : Wst w0 p s1 s2 s3 s4 c l s k i wh n ov w L) (hb : Below w.heap.size w w') : Wst w0 p s1 s2 s3 s4 c l s k i wh n ov w' L :=
  ⟨h.wr.ext hb, (hb.block _ (Array.getElem?_eq_some_iff.1 h.q).1).trans h.q, cellExt hb h.c1, cellExt hb h.c2, cellExt hb h.c3, cellExt hb h.c4, h.bw.trans (hb.mono h.bw.size)⟩
theorem fr_cell {p s : Nat} {w w' : World} {v : Value} (hf : Fr (fun k => k = p) w w') (hn : s ≠ p) (h : w.cell? ⟨s, 0, none⟩ = some v) : w'.cell? ⟨s, 0, none⟩ = some v := (hf.cell (p := ⟨s, 0, none⟩) (World.block_lt_of_cell? w _ h) hn).trans h
/-- the writer has written -/
theorem Wst.step {w0 : World} {p s1 s2 s3 s4 c l s k i wh n : Nat} {ov : Value} {w w' : World} {L L' : List UInt8} (h : Wst w0 p s1 s2 s3 s4 c l s k i wh n ov w L) (x : Wfx w0 p s1 s2 s3 s4) (hf : Fr (fun k => k = p) w w') (hr : IsWr p w' p L') : Wst w0 p s1 s2 s3 s4 c l s k i wh n ov w' L' :=
  ⟨hr, (hf.block _ (Array.getElem?_eq_some_iff.1 h.q).1 (by show ¬ (w0.heap.size = p); have := x.lo; omega)).trans h.q, fr_cell hf x.n1 h.c1, fr_cell hf x.n2 h.c2, fr_cell hf x.n3 h.c3, fr_cell hf x.n4 h.c4, h.bw.trans (hf.below h.bw.size fun j hj e => by have e : j = p := e; have := x.lo; omega)⟩
set_option maxRecDepth 100000 in
set_option maxHeartbeats 4000000 in
theorem pkq_plain (c l s k i wh n : Nat) (a : Option Addr) (cap : Nat) (w : World) (hT : TabW w) (hg0 : 0 < w.heap.size) (hq : PlainQ ⟨c, l, s, k, i, wh, n, TxD.none⟩) :
    Calls Tryz.prog 9 #[rqV ⟨c, l, s, k, i, wh, n, TxD.none⟩ (.slice a 0 cap)] w (NewB w (frm 1 (bodyQ c l s k i wh n []))) := by
  have HT := Lib.hid hT
  have HG := Lib.hid hg0
  have HQ := Lib.hid hq
  have hnum : Hid ((c < 256 ^ 1 ∧ l < 256 ^ 4 ∧ s < 256 ^ 6) ∧ (k < 256 ^ 1 ∧ i < 256 ^ 1 ∧ wh < 256 ^ 1) ∧ n < 256 ^ 6 ∧ 3 ≤ k) := by
    obtain ⟨hc, hl, hs, hk, hi, hw, hn, ht⟩ := hq
    simp only at hc hl hs hk hi hw hn
    show _ ∧ _
    omega
  clear hT hg0 hq
  simp only [rqV, TxD.none]
  go_enter Tryz.func9, Tryz.ntmps9
  go_wp2_with fail
  refine (mayq_plain ⟨c, l, s, k, i, wh, n, TxD.none⟩ a cap HQ.out _).mono ?_
  rintro e w1 ⟨rfl, hb1⟩
  have B1 : w1.heap[w.heap.size]? = some (.cells (rqC ⟨c, l, s, k, i, wh, n, TxD.none⟩ (.slice a 0 cap)) 26 (0, 0)) := (hb1.block _ (by simp)).trans (heap_alloc_new _ _)
  have hbw1 : Below w.heap.size w w1 := by ((repeat' (first | exact Below.refl _ _ | refine below_drewN ?_ _ | refine Below.drew ?_ | refine Below.alloc ?_ ?_ _ | refine Below.trans ?_ (Below.mono (by assumption) ?_))); all_goals (first | exact Nat.le_refl _ | exact Below.size (by assumption) | omega | (simp; done) | (simp; omega)))
  have hs1 := hb1.size
  simp only [World.size_alloc] at hs1
  have HB1 := Lib.hid B1
  have HW1 := Lib.hid hbw1
  clear B1 hb1 hbw1
  go_wp2_with fail
  refine (num_mk w1.heap.size 1 _ (by simp)).mono ?_
  rintro e w2 ⟨s1, s2, rfl, d1, d2, n1, n2, l1, l2, hb2⟩
  have hs2 := hb2.size
  simp only [World.size_alloc] at hs2
  go_wp2_with fail
  refine (num_mk w1.heap.size 6 _ (by omega)).mono ?_
  rintro e w3 ⟨s3, s4, rfl, d3, d4, n3, n4, l3, l4, hb3⟩
  have HX : Hid (Wfx w w1.heap.size s1 s2 s3 s4) := ⟨n1, n2, n3, n4, by omega⟩
  have hst : Wst w w1.heap.size s1 s2 s3 s4 c l s k i wh n (.slice a 0 cap) w3 [] := by
    have hP : w2.heap[w1.heap.size]? = some (.cells #[.slice none 0 0] 78 (0, 0)) := (hb2.block _ (by simp)).trans (heap_alloc_new _ _)
    have hA : Below w1.heap.size w1 w3 := (((Below.refl _ w1).alloc (Nat.le_refl _) _).trans (hb2.mono (by simp))).trans (hb3.mono (by omega))
    refine ⟨⟨⟨.slice none 0 0, (hb3.block _ (by omega)).trans hP, RB.nil _ _⟩, Nat.le_refl _⟩, (hA.block _ (by omega)).trans HB1.out, cellExt hb3 d1, cellExt hb3 d2, d3, d4, HW1.out.trans (hA.mono (by omega))⟩
  have HST := Lib.hid hst
  clear hst d1 d2 d3 d4 hb2 hb3
  obtain ⟨y1, z1⟩ : w3.cell? ⟨s1, 0, none⟩ = _ ∧ w3.cell? ⟨s2, 0, none⟩ = _ := ⟨HST.out.c1, HST.out.c2⟩
  obtain ⟨x0, f0⟩ := blk_cell (i := 0) HST.out.q
  simp [rqC] at x0
  have hlq : w.heap.size < w3.heap.size := (Array.getElem?_eq_some_iff.1 HST.out.q).1
  have hlp : w1.heap.size < w3.heap.size := HST.out.wr.lt
  go_wp2_with fail
  refine (wnum_any w1.heap.size w1.heap.size s1 s2 1 _ 0 1 [c] ([]) _ (by omega) (by omega) (all_one (P := fun x => x < 256 ^ 1) (by first | exact hnum.out.1.1 | exact hnum.out.1.2.1 | exact hnum.out.1.2.2 | exact hnum.out.2.2.1)) (by simp) (by simp [catB_length, be_length]) (HST.out.wr.ext ((Below.refl _ _).alloc (Nat.le_refl _) _)) (cellExt ((Below.refl _ _).alloc (Nat.le_refl _) _) HST.out.c1) (cellExt ((Below.refl _ _).alloc (Nat.le_refl _) _) HST.out.c2) HX.out.n1 HX.out.n2 (by omega) (one_cell _ _ _)).mono ?_
  rintro e w4 ⟨rfl, hr, hf⟩
  replace HST := Lib.hid ((HST.out.ext ((Below.refl _ _).alloc (Nat.le_refl _) _)).step HX.out hf hr)
  clear hr hf y1 z1 hlq hlp x0 f0
  obtain ⟨x1, f1⟩ := blk_cell (i := 1) HST.out.q
  simp [rqC] at x1
  have hlq : w.heap.size < w4.heap.size := (Array.getElem?_eq_some_iff.1 HST.out.q).1
  have hlp : w1.heap.size < w4.heap.size := HST.out.wr.lt
  go_wp2
  go_region_with (first
    | (go_at_call 37; refine (num_mk w1.heap.size 4 _ (by first | exact hlp | (simp; omega))).mono ?_; rintro e w5 ⟨s5, s6, rfl, d5, d6, n5, n6, l5, l6, hb5⟩; have hbx : Below w4.heap.size w4 w5 := (by first | exact ((Below.refl _ w4).drew).trans hb5 | exact (((Below.refl _ w4).drew).alloc (Nat.le_refl _) _).trans (hb5.mono (by simp)) | exact (((Below.refl _ w4).alloc (Nat.le_refl _) _).drew).trans (hb5.mono (by simp))); have x1' := cellExt hbx x1; have hs5 := hbx.size; have hlq5 : w.heap.size < w5.heap.size := Nat.lt_of_lt_of_le hlq hs5; have hlp5 : w1.heap.size < w5.heap.size := Nat.lt_of_lt_of_le hlp hs5)
    | (go_at_call 69; refine (wnum_any w1.heap.size w1.heap.size s5 s6 4 _ 0 1 [l] _ _ (by omega) (by omega) (all_one (P := fun x => x < 256 ^ 4) hnum.out.1.2.1) (by simp) (by simp [catB_length, be_length]) (HST.out.wr.ext (by ((repeat' (first | exact Below.refl _ _ | refine below_drewN ?_ _ | refine Below.drew ?_ | refine Below.alloc ?_ ?_ _ | refine Below.trans ?_ (Below.mono (by assumption) ?_))); all_goals (first | exact Nat.le_refl _ | exact Below.size (by assumption) | omega | (simp; done) | (simp; omega))))) (by first | exact d5 | exact (World.cell?_alloc_lt _ _ _ l5).trans d5) (by first | exact d6 | exact (World.cell?_alloc_lt _ _ _ l6).trans d6) n5 n6 (by first | exact Nat.ne_of_gt hlp5 | exact Nat.ne_of_gt hlp | omega) (by first | exact one_cell _ _ _ | exact fun i hi => cellExt hb5 (one_cell _ _ _ i hi))).mono ?_; rintro e w6 ⟨rfl, hr6, hf6⟩; have HST6 := Lib.hid ((HST.out.ext (by ((repeat' (first | exact Below.refl _ _ | refine below_drewN ?_ _ | refine Below.drew ?_ | refine Below.alloc ?_ ?_ _ | refine Below.trans ?_ (Below.mono (by assumption) ?_))); all_goals (first | exact Nat.le_refl _ | exact Below.size (by assumption) | omega | (simp; done) | (simp; omega))))).step HX.out hf6 hr6)))
  all_goals
    replace HST := HST6
    clear HST6 hr6 hf6 x1 f1 x1' hlq hlp hlq5 hlp5 hs5 hbx hb5
    obtain ⟨y1, z1⟩ : w6.cell? ⟨s3, 0, none⟩ = _ ∧ w6.cell? ⟨s4, 0, none⟩ = _ := ⟨HST.out.c3, HST.out.c4⟩
    obtain ⟨x2, f2⟩ := blk_cell (i := 2) HST.out.q
    simp [rqC] at x2
    have hlq : w.heap.size < w6.heap.size := (Array.getElem?_eq_some_iff.1 HST.out.q).1
    have hlp : w1.heap.size < w6.heap.size := HST.out.wr.lt
    go_wp2_with fail
    refine (wnum_any w1.heap.size w1.heap.size s3 s4 6 _ 0 1 [s] _ _ (by omega) (by omega) (all_one (P := fun x => x < 256 ^ 6) (by first | exact hnum.out.1.1 | exact hnum.out.1.2.1 | exact hnum.out.1.2.2 | exact hnum.out.2.2.1)) (by simp) (by simp [catB_length, be_length]) (HST.out.wr.ext ((Below.refl _ _).alloc (Nat.le_refl _) _)) (cellExt ((Below.refl _ _).alloc (Nat.le_refl _) _) HST.out.c3) (cellExt ((Below.refl _ _).alloc (Nat.le_refl _) _) HST.out.c4) HX.out.n3 HX.out.n4 (by omega) (one_cell _ _ _)).mono ?_
    rintro e w7 ⟨rfl, hr, hf⟩
    replace HST := Lib.hid ((HST.out.ext ((Below.refl _ _).alloc (Nat.le_refl _) _)).step HX.out hf hr)
    clear hr hf y1 z1 hlq hlp x2 f2
    obtain ⟨y1, z1⟩ : w7.cell? ⟨s1, 0, none⟩ = _ ∧ w7.cell? ⟨s2, 0, none⟩ = _ := ⟨HST.out.c1, HST.out.c2⟩
    obtain ⟨x3, f3⟩ := blk_cell (i := 3) HST.out.q
    obtain ⟨x4, f4⟩ := blk_cell (i := 4) HST.out.q
    obtain ⟨x5, f5⟩ := blk_cell (i := 5) HST.out.q
    simp [rqC] at x3 x4 x5
    have hlq : w.heap.size < w7.heap.size := (Array.getElem?_eq_some_iff.1 HST.out.q).1
    have hlp : w1.heap.size < w7.heap.size := HST.out.wr.lt
    go_wp2_with fail
    refine (wnum_any w1.heap.size w1.heap.size s1 s2 1 _ 0 3 [k, i, wh] _ _ (by omega) (by omega) (all_three (P := fun x => x < 256 ^ 1) hnum.out.2.1.1 hnum.out.2.1.2.1 hnum.out.2.1.2.2) (by simp) (by simp [catB_length, be_length]) (HST.out.wr.ext ((Below.refl _ _).alloc (Nat.le_refl _) _)) (cellExt ((Below.refl _ _).alloc (Nat.le_refl _) _) HST.out.c1) (cellExt ((Below.refl _ _).alloc (Nat.le_refl _) _) HST.out.c2) HX.out.n1 HX.out.n2 (by omega) (three_cell _ _ _ _ _)).mono ?_
    rintro e w8 ⟨rfl, hr, hf⟩
    replace HST := Lib.hid ((HST.out.ext ((Below.refl _ _).alloc (Nat.le_refl _) _)).step HX.out hf hr)
    clear hr hf y1 z1 hlq hlp x3 f3 x4 f4 x5 f5
    obtain ⟨y1, z1⟩ : w8.cell? ⟨s3, 0, none⟩ = _ ∧ w8.cell? ⟨s4, 0, none⟩ = _ := ⟨HST.out.c3, HST.out.c4⟩
    obtain ⟨x6, f6⟩ := blk_cell (i := 6) HST.out.q
    simp [rqC] at x6
    have hlq : w.heap.size < w8.heap.size := (Array.getElem?_eq_some_iff.1 HST.out.q).1
    have hlp : w1.heap.size < w8.heap.size := HST.out.wr.lt
    go_wp2_with fail
    refine (wnum_any w1.heap.size w1.heap.size s3 s4 6 _ 0 1 [n] _ _ (by omega) (by omega) (all_one (P := fun x => x < 256 ^ 6) (by first | exact hnum.out.1.1 | exact hnum.out.1.2.1 | exact hnum.out.1.2.2 | exact hnum.out.2.2.1)) (by simp) (by simp [catB_length, be_length]) (HST.out.wr.ext ((Below.refl _ _).alloc (Nat.le_refl _) _)) (cellExt ((Below.refl _ _).alloc (Nat.le_refl _) _) HST.out.c3) (cellExt ((Below.refl _ _).alloc (Nat.le_refl _) _) HST.out.c4) HX.out.n3 HX.out.n4 (by omega) (one_cell _ _ _)).mono ?_
    rintro e w9 ⟨rfl, hr, hf⟩
    replace HST := Lib.hid ((HST.out.ext ((Below.refl _ _).alloc (Nat.le_refl _) _)).step HX.out hf hr)
    clear hr hf y1 z1 hlq hlp x6 f6
    obtain ⟨x7, f7⟩ := blk_cell (i := 7) HST.out.q
    obtain ⟨x3, f3⟩ := blk_cell (i := 3) HST.out.q
    simp [rqC, TxD.none] at x7 x3
    have hlq : w.heap.size < w9.heap.size := (Array.getElem?_eq_some_iff.1 HST.out.q).1
    have hk1 : ((k : Int) == 1) = false := by have := hnum.out.2.2.2; simp; omega
    have hcs := fun W : World => run_bytes_of_string (P := Tryz.prog) W 9 27 5 ByteArray.empty Tryz.underlying9 Tryz.underlying27 Tryz.underlying5
    go_wp2_with fail
    generalize grownCap w9 0 0 5 = G
    refine (wblob_any w1.heap.size w1.heap.size (fun _ => True) _ _ [] _ (HST.out.wr.ext (((Below.refl _ _).alloc (Nat.le_refl _) _).drew)) ⟨by simp, .inr ⟨w9.heap.size, 0, G, rfl, by simp, trivial, Nat.zero_le _, fun j hj => absurd hj (by simp)⟩⟩ (by simp [catB_length, be_length]) (by simp)).mono ?_
    rintro e w10 ⟨rfl, hr, hf⟩
    replace HST := Lib.hid ((HST.out.ext (((Below.refl _ _).alloc (Nat.le_refl _) _).drew)).step HX.out hf hr)
    have hg10 : 0 < w10.heap.size := Nat.lt_of_lt_of_le HG.out HST.out.bw.size
    clear hr hf x7 f7 x3 f3
    go_wp2_with fail
    refine (framed_any w1.heap.size w1.heap.size 1 _ _ HST.out.wr (by omega) (tab_below HT.out HST.out.bw HG.out) hg10 (by simp [catB_length, be_length])).mono ?_
    rintro e w11 ⟨v11, rfl, ho, hb11⟩
    have HO := Lib.hid ho
    have HB11 := Lib.hid hb11
    clear ho hb11
    go_wp2
    go_ret
    exact ⟨v11, rfl, HO.out.base_le HST.out.bw.size, HST.out.bw.trans (HB11.out.mono HST.out.bw.size)⟩
end Go.Proofs.YtlgefkaafoidmaaGreatDoor
