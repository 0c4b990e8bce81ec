/- The walk of rpc.PackRequest at any request, to the sign. -/
import Derived.Test.YtlgefkaafoidmaaDoorPkqA
import Derived.Test.YtlgefkaafoidmaaDoorMayE
namespace Go.Proofs.YtlgefkaafoidmaaDoor
open Go.RowKit Go.WideShapes

set_option maxRecDepth 100000 in
set_option maxHeartbeats 8000000 in
theorem pkq_exact (A : Nat → Prop) (q : RqD) (ov : Value) (w : World) (hT : TabW w) (hg0 : 0 < w.heap.size) (h : SlE Enc.op A w ov q.txn.ops) (hsz : q.txn.obj.size ≤ 50) :
    Calls Tryd.prog 7 #[rqV q ov] w (NewB w (pkqL q)) := by
  obtain ⟨oa, oc, rfl⟩ := h.shape
  obtain ⟨qc, ql, qs, qk, qi, qw, qn, tx⟩ := q
  simp only at *
  have HS := Lib.hid h
  have HT := Lib.hid hT
  have HG := Lib.hid hg0
  have HEND : Hid (∀ v W l, OB w.heap.size W v l → Below w.heap.size w W → pkqL ⟨qc, ql, qs, qk, qi, qw, qn, tx⟩ = l → NewB w (pkqL ⟨qc, ql, qs, qk, qi, qw, qn, tx⟩) (.returned v) W) := Lib.hid fun v W l h1 h2 h3 => ⟨v, rfl, by rw [h3]; exact h1, h2⟩
  clear hT hg0 h
  simp only [rqV]
  go_enter Tryd.func7, Tryd.ntmps7
  go_wp2_with fail
  refine (mayq_exact A ⟨qc, ql, qs, qk, qi, qw, qn, tx⟩ _ _ (HS.out.ext ((Below.refl _ _).alloc (Nat.le_refl _) _))).mono ?_
  rintro e w1 ⟨rfl, hb1⟩
  cases hmay : mayQ ⟨qc, ql, qs, qk, qi, qw, qn, tx⟩ with
  | false =>
    have HB := Lib.hid (((Below.refl _ w).alloc (Nat.le_refl _) _).trans (hb1.mono (by simp)))
    have HP := Lib.hid (pkqL_no hmay)
    clear hb1 hmay
    go_wp2
    go_ret
    exact HEND.out _ _ [] (OB.nil _ _) HB.out HP.out
  | true =>
  have HMQ := Lib.hid hmay
  have HTX : Hid (qk = 1 → txE tx = 0) := Lib.hid fun h => mayQ_tx hmay h
  obtain ⟨⟨⟨i1, i2⟩, ⟨i3, i4⟩, ⟨i5, i6⟩⟩, ⟨i7, i8⟩, ⟨i9, i10⟩, ⟨i11, i12⟩, ⟨i13, i14⟩⟩ := mayQ_N hmay
  simp only at i1 i2 i3 i4 i5 i6 i7 i8 i9 i10 i11 i12 i13 i14
  clear hmay
  obtain ⟨c, rfl⟩ := Int.eq_ofNat_of_zero_le i1
  obtain ⟨l, rfl⟩ := Int.eq_ofNat_of_zero_le i3
  obtain ⟨s, rfl⟩ := Int.eq_ofNat_of_zero_le i5
  obtain ⟨k, rfl⟩ := Int.eq_ofNat_of_zero_le (by omega : 0 ≤ qk)
  obtain ⟨i, rfl⟩ := Int.eq_ofNat_of_zero_le i9
  obtain ⟨wh, rfl⟩ := Int.eq_ofNat_of_zero_le i11
  obtain ⟨n, rfl⟩ := Int.eq_ofNat_of_zero_le i13
  have hnum : Hid ((c < 256 ^ 1 ∧ l < 256 ^ 4 ∧ s < 256 ^ 6) ∧ (k < 256 ^ 1 ∧ i < 256 ^ 1 ∧ wh < 256 ^ 1) ∧ n < 256 ^ 6 ∧ 1 ≤ k) := by
    show _ ∧ _
    omega
  clear i1 i2 i3 i4 i5 i6 i7 i8 i9 i10 i11 i12 i13 i14
  have B1 : w1.heap[w.heap.size]? = some (.cells (rqC ⟨c, l, s, k, i, wh, n, tx⟩ (.slice oa tx.ops.length oc)) 26 (0, 0)) := (hb1.block _ (by simp)).trans (heap_alloc_new _ _)
  have hbw1 : Below w.heap.size w w1 := by ((repeat' (first | exact Below.refl _ _ | refine below_drewN ?_ _ | refine Below.drew ?_ | refine Below.alloc ?_ ?_ _ | refine Below.trans ?_ (Below.mono (by assumption) ?_))); all_goals (first | exact Nat.le_refl _ | exact Below.size (by assumption) | omega | (simp; done) | (simp; omega)))
  have hs1 := hb1.size
  simp only [World.size_alloc] at hs1
  have HB1 := Lib.hid B1
  have HW1 := Lib.hid hbw1
  clear B1 hb1 hbw1
  go_wp2_with fail
  refine (num_mk w1.heap.size 1 _ (by simp)).mono ?_
  rintro e w2 ⟨s1, s2, rfl, d1, d2, n1, n2, l1, l2, hb2⟩
  have hs2 := hb2.size
  simp only [World.size_alloc] at hs2
  go_wp2_with fail
  refine (num_mk w1.heap.size 6 _ (by omega)).mono ?_
  rintro e w3 ⟨s3, s4, rfl, d3, d4, n3, n4, l3, l4, hb3⟩
  have HX : Hid (Wfx w w1.heap.size s1 s2 s3 s4) := ⟨n1, n2, n3, n4, by omega⟩
  have hst : WsA tx w w1.heap.size s1 s2 s3 s4 c l s k i wh n (.slice oa tx.ops.length oc) w3 [] := by
    have hP : w2.heap[w1.heap.size]? = some (.cells #[.slice none 0 0] 63 (0, 0)) := (hb2.block _ (by simp)).trans (heap_alloc_new _ _)
    have hA : Below w1.heap.size w1 w3 := (((Below.refl _ w1).alloc (Nat.le_refl _) _).trans (hb2.mono (by simp))).trans (hb3.mono (by omega))
    refine ⟨⟨⟨.slice none 0 0, (hb3.block _ (by omega)).trans hP, RB.nil _ _⟩, Nat.le_refl _⟩, (hA.block _ (by omega)).trans HB1.out, cellExt hb3 d1, cellExt hb3 d2, d3, d4, HW1.out.trans (hA.mono (by omega))⟩
  have HST := Lib.hid hst
  clear hst d1 d2 d3 d4 hb2 hb3
  obtain ⟨y1, z1⟩ : w3.cell? ⟨s1, 0, none⟩ = _ ∧ w3.cell? ⟨s2, 0, none⟩ = _ := ⟨HST.out.c1, HST.out.c2⟩
  obtain ⟨x0, f0⟩ := blk_cell (i := 0) HST.out.q
  simp [rqC] at x0
  have hlq : w.heap.size < w3.heap.size := (Array.getElem?_eq_some_iff.1 HST.out.q).1
  have hlp : w1.heap.size < w3.heap.size := HST.out.wr.lt
  go_wp2_with fail
  refine (wnum_any w1.heap.size w1.heap.size s1 s2 1 _ 0 1 [c] ([]) _ (by omega) (by omega) (all_one (P := fun x => x < 256 ^ 1) (by first | exact hnum.out.1.1 | exact hnum.out.1.2.1 | exact hnum.out.1.2.2 | exact hnum.out.2.2.1)) (by simp) (by simp) (HST.out.wr.ext ((Below.refl _ _).alloc (Nat.le_refl _) _)) (cellExt ((Below.refl _ _).alloc (Nat.le_refl _) _) HST.out.c1) (cellExt ((Below.refl _ _).alloc (Nat.le_refl _) _) HST.out.c2) HX.out.n1 HX.out.n2 (by omega) (one_cell _ _ _)).mono ?_
  rintro e w4 ⟨rfl, hr, hf⟩
  replace HST := Lib.hid ((HST.out.ext ((Below.refl _ _).alloc (Nat.le_refl _) _)).step HX.out hf hr)
  clear hr hf y1 z1 hlq hlp x0 f0
  obtain ⟨x1, f1⟩ := blk_cell (i := 1) HST.out.q
  simp [rqC] at x1
  have hlq : w.heap.size < w4.heap.size := (Array.getElem?_eq_some_iff.1 HST.out.q).1
  have hlp : w1.heap.size < w4.heap.size := HST.out.wr.lt
  go_wp2
  go_region_with (first
    | (go_at_call 21; refine (num_mk w1.heap.size 4 _ (by first | exact hlp | (simp; omega))).mono ?_; rintro e w5 ⟨s5, s6, rfl, d5, d6, n5, n6, l5, l6, hb5⟩; have hbx : Below w4.heap.size w4 w5 := (by first | exact ((Below.refl _ w4).drew).trans hb5 | exact (((Below.refl _ w4).drew).alloc (Nat.le_refl _) _).trans (hb5.mono (by simp)) | exact (((Below.refl _ w4).alloc (Nat.le_refl _) _).drew).trans (hb5.mono (by simp))); have x1' := cellExt hbx x1; have hs5 := hbx.size; have hlq5 : w.heap.size < w5.heap.size := Nat.lt_of_lt_of_le hlq hs5; have hlp5 : w1.heap.size < w5.heap.size := Nat.lt_of_lt_of_le hlp hs5)
    | (go_at_call 40; refine (wnum_any w1.heap.size w1.heap.size s5 s6 4 _ 0 1 [l] _ _ (by omega) (by omega) (all_one (P := fun x => x < 256 ^ 4) hnum.out.1.2.1) (by simp) (by simp [catB_length]) (HST.out.wr.ext (by ((repeat' (first | exact Below.refl _ _ | refine below_drewN ?_ _ | refine Below.drew ?_ | refine Below.alloc ?_ ?_ _ | refine Below.trans ?_ (Below.mono (by assumption) ?_))); all_goals (first | exact Nat.le_refl _ | exact Below.size (by assumption) | omega | (simp; done) | (simp; omega))))) (by first | exact d5 | exact (World.cell?_alloc_lt _ _ _ l5).trans d5) (by first | exact d6 | exact (World.cell?_alloc_lt _ _ _ l6).trans d6) n5 n6 (by first | exact Nat.ne_of_gt hlp5 | exact Nat.ne_of_gt hlp | omega) (by first | exact one_cell _ _ _ | exact fun i hi => cellExt hb5 (one_cell _ _ _ i hi))).mono ?_; rintro e w6 ⟨rfl, hr6, hf6⟩; have HST6 := Lib.hid ((HST.out.ext (by ((repeat' (first | exact Below.refl _ _ | refine below_drewN ?_ _ | refine Below.drew ?_ | refine Below.alloc ?_ ?_ _ | refine Below.trans ?_ (Below.mono (by assumption) ?_))); all_goals (first | exact Nat.le_refl _ | exact Below.size (by assumption) | omega | (simp; done) | (simp; omega))))).step HX.out hf6 hr6)))
  all_goals
    replace HST := HST6
    clear HST6 hr6 hf6 x1 f1 x1' hlq hlp hlq5 hlp5 hs5 hbx hb5
    obtain ⟨y1, z1⟩ : w6.cell? ⟨s3, 0, none⟩ = _ ∧ w6.cell? ⟨s4, 0, none⟩ = _ := ⟨HST.out.c3, HST.out.c4⟩
    obtain ⟨x2, f2⟩ := blk_cell (i := 2) HST.out.q
    simp [rqC] at x2
    have hlq : w.heap.size < w6.heap.size := (Array.getElem?_eq_some_iff.1 HST.out.q).1
    have hlp : w1.heap.size < w6.heap.size := HST.out.wr.lt
    go_wp2_with fail
    refine (wnum_any w1.heap.size w1.heap.size s3 s4 6 _ 0 1 [s] _ _ (by omega) (by omega) (all_one (P := fun x => x < 256 ^ 6) (by first | exact hnum.out.1.1 | exact hnum.out.1.2.1 | exact hnum.out.1.2.2 | exact hnum.out.2.2.1)) (by simp) (by simp [catB_length]) (HST.out.wr.ext ((Below.refl _ _).alloc (Nat.le_refl _) _)) (cellExt ((Below.refl _ _).alloc (Nat.le_refl _) _) HST.out.c3) (cellExt ((Below.refl _ _).alloc (Nat.le_refl _) _) HST.out.c4) HX.out.n3 HX.out.n4 (by omega) (one_cell _ _ _)).mono ?_
    rintro e w7 ⟨rfl, hr, hf⟩
    replace HST := Lib.hid ((HST.out.ext ((Below.refl _ _).alloc (Nat.le_refl _) _)).step HX.out hf hr)
    clear hr hf y1 z1 hlq hlp x2 f2
    obtain ⟨y1, z1⟩ : w7.cell? ⟨s1, 0, none⟩ = _ ∧ w7.cell? ⟨s2, 0, none⟩ = _ := ⟨HST.out.c1, HST.out.c2⟩
    obtain ⟨x3, f3⟩ := blk_cell (i := 3) HST.out.q
    obtain ⟨x4, f4⟩ := blk_cell (i := 4) HST.out.q
    obtain ⟨x5, f5⟩ := blk_cell (i := 5) HST.out.q
    simp [rqC] at x3 x4 x5
    have hlq : w.heap.size < w7.heap.size := (Array.getElem?_eq_some_iff.1 HST.out.q).1
    have hlp : w1.heap.size < w7.heap.size := HST.out.wr.lt
    go_wp2_with fail
    refine (wnum_any w1.heap.size w1.heap.size s1 s2 1 _ 0 3 [k, i, wh] _ _ (by omega) (by omega) (all_three (P := fun x => x < 256 ^ 1) hnum.out.2.1.1 hnum.out.2.1.2.1 hnum.out.2.1.2.2) (by simp) (by simp [catB_length]) (HST.out.wr.ext ((Below.refl _ _).alloc (Nat.le_refl _) _)) (cellExt ((Below.refl _ _).alloc (Nat.le_refl _) _) HST.out.c1) (cellExt ((Below.refl _ _).alloc (Nat.le_refl _) _) HST.out.c2) HX.out.n1 HX.out.n2 (by omega) (three_cell _ _ _ _ _)).mono ?_
    rintro e w8 ⟨rfl, hr, hf⟩
    replace HST := Lib.hid ((HST.out.ext ((Below.refl _ _).alloc (Nat.le_refl _) _)).step HX.out hf hr)
    clear hr hf y1 z1 hlq hlp x3 f3 x4 f4 x5 f5
    obtain ⟨y1, z1⟩ : w8.cell? ⟨s3, 0, none⟩ = _ ∧ w8.cell? ⟨s4, 0, none⟩ = _ := ⟨HST.out.c3, HST.out.c4⟩
    obtain ⟨x6, f6⟩ := blk_cell (i := 6) HST.out.q
    simp [rqC] at x6
    have hlq : w.heap.size < w8.heap.size := (Array.getElem?_eq_some_iff.1 HST.out.q).1
    have hlp : w1.heap.size < w8.heap.size := HST.out.wr.lt
    go_wp2_with fail
    refine (wnum_any w1.heap.size w1.heap.size s3 s4 6 _ 0 1 [n] _ _ (by omega) (by omega) (all_one (P := fun x => x < 256 ^ 6) (by first | exact hnum.out.1.1 | exact hnum.out.1.2.1 | exact hnum.out.1.2.2 | exact hnum.out.2.2.1)) (by simp) (by simp [catB_length]) (HST.out.wr.ext ((Below.refl _ _).alloc (Nat.le_refl _) _)) (cellExt ((Below.refl _ _).alloc (Nat.le_refl _) _) HST.out.c3) (cellExt ((Below.refl _ _).alloc (Nat.le_refl _) _) HST.out.c4) HX.out.n3 HX.out.n4 (by omega) (one_cell _ _ _)).mono ?_
    rintro e w9 ⟨rfl, hr, hf⟩
    replace HST := Lib.hid ((HST.out.ext ((Below.refl _ _).alloc (Nat.le_refl _) _)).step HX.out hf hr)
    clear hr hf y1 z1 hlq hlp x6 f6
    obtain ⟨x7, f7⟩ := blk_cell (i := 7) HST.out.q
    obtain ⟨x8, f8⟩ := blk_cell (i := 8) HST.out.q
    obtain ⟨x3, f3⟩ := blk_cell (i := 3) HST.out.q
    simp [rqC] at x7 x8 x3
    have hlq : w.heap.size < w9.heap.size := (Array.getElem?_eq_some_iff.1 HST.out.q).1
    have hcs := fun W : World => run_bytes_of_string (P := Tryd.prog) W 9 28 5 tx.obj Tryd.underlying9 Tryd.underlying28 Tryd.underlying5
    have hol : tx.obj.data.toList.length = tx.obj.size := by simp
    have HOL := Lib.hid hol
    clear hol
    by_cases hk1 : k = 1
    · subst hk1
      have HBQ : Hid (blobQ ⟨(c : Int), (l : Int), (s : Int), ((1 : Nat) : Int), (i : Int), (wh : Int), (n : Int), tx⟩ = txL tx tx.ops.length) := Lib.hid (blobQ_1 rfl)
      go_wp2_with fail
      refine (tpack_ok A tx _ _ (HS.out.ext (below_call HST.out.bw (str_below w9 tx.obj))) (HTX.out rfl)).mono ?_
      rintro e w10 ⟨v10, rfl, ho10, hb10⟩
      obtain ⟨a10, n10, c10, rfl⟩ := ho10.shape3
      have hn10 := RB.len ho10.rb
      have hA : Below w9.heap.size w9 w10 := (str_below w9 tx.obj).trans (hb10.mono (str_below w9 tx.obj).size)
      have HA := Lib.hid hA
      have HO10 := Lib.hid ho10
      have HN10 := Lib.hid hn10
      have hg10 : 0 < w10.heap.size := Nat.lt_of_lt_of_le HG.out (below_call HST.out.bw hA).size
      clear ho10 hb10 hA hn10 x7 f7 x8 f8 x3 f3 hcs
      generalize txL tx tx.ops.length = X at *
      by_cases h8 : 8192 < n10
      · have h8' : (8192 : Int) < n10 := by omega
        go_wp2
        go_ret
        exact HEND.out _ _ [] (OB.nil _ _) (below_call HST.out.bw HA.out) (pkqL_long HBQ.out (by have := HN10.out; omega))
      · have h8' : ¬ (8192 : Int) < n10 := by omega
        go_wp2_with fail
        refine (wblob_any w1.heap.size w1.heap.size _ _ _ X _ (HST.out.wr.ext HA.out) HO10.out.rb (by simp [catB_length]) (by rw [HN10.out]; omega)).mono ?_
        rintro e w11 ⟨rfl, hr, hf⟩
        replace HST := Lib.hid ((HST.out.ext HA.out).step HX.out hf hr)
        have hg11 : 0 < w11.heap.size := Nat.lt_of_lt_of_le HG.out HST.out.bw.size
        clear hr hf
        by_cases h9 : n10 + 22 ≤ 8192
        · go_wp2_with fail
          have hlen : ([] ++ catB 1 [c] ++ catB 4 [l] ++ catB 6 [s] ++ catB 1 [1, i, wh] ++ catB 6 [n] ++ be 2 X.length ++ X).length ≤ 8192 := by
            have := HN10.out
            simp [catB_length, be_length]
            omega
          refine (framed_any w1.heap.size w1.heap.size 1 _ _ HST.out.wr (by omega) (tab_below HT.out HST.out.bw HG.out) hg11 hlen).mono ?_
          rintro e w12 ⟨v12, rfl, ho, hb12⟩
          have HO := Lib.hid ho
          have HB12 := Lib.hid hb12
          have HLEN := Lib.hid hlen
          clear ho hb12 hlen
          go_wp2
          go_ret
          exact HEND.out _ _ _ (HO.out.base_le HST.out.bw.size) (HST.out.bw.trans (HB12.out.mono HST.out.bw.size)) (pkqL_ok HMQ.out HBQ.out (by have := HN10.out; omega))
        · go_wp2_with fail
          have hlen : 8192 < ([] ++ catB 1 [c] ++ catB 4 [l] ++ catB 6 [s] ++ catB 1 [1, i, wh] ++ catB 6 [n] ++ be 2 X.length ++ X).length := by
            have := HN10.out
            simp [catB_length, be_length]
            omega
          refine (framed_long w1.heap.size w1.heap.size 1 _ _ HST.out.wr (by omega) hlen).mono ?_
          rintro e w12 ⟨v12, rfl, ho, hb12⟩
          have HO := Lib.hid ho
          have HB12 := Lib.hid hb12
          clear ho hb12 hlen
          go_wp2
          go_ret
          exact HEND.out _ _ [] (HO.out.base_le HST.out.bw.size) (HST.out.bw.trans (HB12.out.mono HST.out.bw.size)) (pkqL_long HBQ.out (by have := HN10.out; omega))
    · have HBQ : Hid (blobQ ⟨(c : Int), (l : Int), (s : Int), (k : Int), (i : Int), (wh : Int), (n : Int), tx⟩ = tx.obj.data.toList) := Lib.hid (blobQ_n (by show ¬ (k : Int) = 1; omega))
      have hk1' : ((k : Int) == 1) = false := by simp; omega
      clear hk1
      have h8 : ¬ (8192 : Int) < (tx.obj.size : Int) := by omega
      go_wp2_with fail
      refine (wblob_any w1.heap.size w1.heap.size (fun b => w9.heap.size ≤ b) _ _ tx.obj.data.toList _ (HST.out.wr.ext (str_below w9 tx.obj)) (str_row w9 tx.obj) (by simp [catB_length]) (by rw [HOL.out]; omega)).mono ?_
      rintro e w10 ⟨rfl, hr, hf⟩
      replace HST := Lib.hid ((HST.out.ext (str_below w9 tx.obj)).step HX.out hf hr)
      have hg10 : 0 < w10.heap.size := Nat.lt_of_lt_of_le HG.out HST.out.bw.size
      clear hr hf x7 f7 x8 f8 x3 f3 hcs
      go_wp2_with fail
      have hlen : ([] ++ catB 1 [c] ++ catB 4 [l] ++ catB 6 [s] ++ catB 1 [k, i, wh] ++ catB 6 [n] ++ be 2 tx.obj.data.toList.length ++ tx.obj.data.toList).length ≤ 8192 := by
        have := HOL.out
        simp only [List.length_append, catB_length, be_length, List.length_nil, List.length_cons]
        omega
      refine (framed_any w1.heap.size w1.heap.size 1 _ _ HST.out.wr (by omega) (tab_below HT.out HST.out.bw HG.out) hg10 hlen).mono ?_
      rintro e w11 ⟨v11, rfl, ho, hb11⟩
      have HO := Lib.hid ho
      have HB11 := Lib.hid hb11
      have HLEN := Lib.hid hlen
      clear ho hb11 hlen
      go_wp2
      go_ret
      exact HEND.out _ _ _ (HO.out.base_le HST.out.bw.size) (HST.out.bw.trans (HB11.out.mono HST.out.bw.size)) (pkqL_ok HMQ.out HBQ.out (by have := HOL.out; omega))
end Go.Proofs.YtlgefkaafoidmaaDoor
