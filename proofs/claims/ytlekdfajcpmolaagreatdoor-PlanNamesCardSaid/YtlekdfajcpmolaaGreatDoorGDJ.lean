/- The walk of terrazzoref06.May. The walk of terrazzoref06.Pack. Printed by gen_hq19.py. -/
import Derived.Test.YtlekdfajcpmolaaGreatDoorGCI
import Derived.Test.YtlekdfajcpmolaaGreatDoorGCA
import Derived.Test.YtlekdfajcpmolaaGreatDoorGCJ
import Derived.Test.YtlekdfajcpmolaaGreatDoorGCG
import Derived.Test.YtlekdfajcpmolaaGreatDoorGDI
namespace Go.Proofs.YtlekdfajcpmolaaGreatDoor
open Go.RowKit Go.WideShapes

set_option maxRecDepth 100000 in
set_option maxHeartbeats 4000000 in
theorem rmayH_any (A : Nat → Prop) (h : HeD) (v : Value) (w : World) (hv : HeV A w v h) (hl : h.okl) : Calls Tryz.prog 16 #[v] w fun e w' => e = .returned (.bool (mayD h)) ∧ Below w.heap.size w w' := by
  obtain ⟨mv, sv, rfl, h1, h2⟩ := hv
  obtain ⟨ma, mc, rfl⟩ := h1.shape
  obtain ⟨sa, sc, rfl⟩ := h2.shape
  have hm := hl.map
  have hsn := hl.snaps
  have HMS := Lib.hid hl.maps
  obtain ⟨u, c, o, sz, m, ss, la, sq⟩ := h
  simp only at *
  unfold hdV
  simp only
  obtain ⟨W1, hW1⟩ : ∃ W1, W1 = w.alloc (.cells #[.int .i64 u, .int .i64 c, .int .i64 o, .int .i64 sz, .slice ma m.length mc, .slice sa ss.length sc, .int .i64 la, .int .i64 sq] 27) := ⟨_, rfl⟩
  have hb1 : Below w.heap.size w W1 := by rw [hW1]; exact (Below.refl _ w).alloc (Nat.le_refl _) _
  have HB := Lib.hid (by rw [hW1]; exact heap_alloc_new w _ : W1.heap[w.heap.size]? = some (.cells #[.int .i64 u, .int .i64 c, .int .i64 o, .int .i64 sz, .slice ma m.length mc, .slice sa ss.length sc, .int .i64 la, .int .i64 sq] 27 (0, 0)))
  have HM := Lib.hid (SlE.ext h1 hb1)
  have HS := Lib.hid (SlE.ext h2 hb1)
  have HB1 := Lib.hid hb1
  have HW1 := Lib.hid hW1
  have hs1 : w.heap.size < W1.heap.size := by rw [hW1]; simp
  clear h1 h2 hb1 hW1 hl
  have HL := Lib.hid (refMay_any u c o W1)
  obtain ⟨x0, -⟩ := blk_cell (i := 0) HB.out
  obtain ⟨x1, -⟩ := blk_cell (i := 1) HB.out
  obtain ⟨x2, -⟩ := blk_cell (i := 2) HB.out
  obtain ⟨x3, -⟩ := blk_cell (i := 3) HB.out
  obtain ⟨x4, -⟩ := blk_cell (i := 4) HB.out
  obtain ⟨x5, -⟩ := blk_cell (i := 5) HB.out
  obtain ⟨x6, -⟩ := blk_cell (i := 6) HB.out
  obtain ⟨x7, -⟩ := blk_cell (i := 7) HB.out
  simp at x0 x1 x2 x3 x4 x5 x6 x7
  go_enter Tryz.func16, Tryz.ntmps16
  go_wp2_with fail
  rw [← HW1.out]
  refine HL.out.mono ?_
  rintro e w2 ⟨rfl, hb2⟩
  replace x0 := cellExt hb2 x0
  replace x1 := cellExt hb2 x1
  replace x2 := cellExt hb2 x2
  replace x3 := cellExt hb2 x3
  replace x4 := cellExt hb2 x4
  replace x5 := cellExt hb2 x5
  replace x6 := cellExt hb2 x6
  replace x7 := cellExt hb2 x7
  have HB2 := Lib.hid hb2
  clear hb2 HL
  have HP2 := Lib.hid (rsized_any A u c o sz ma mc m _ (SlE.ext HM.out HB2.out) (by omega))
  cases hok : okB u c o
  · have HX := Lib.hid (mayD_no (h := ⟨u, c, o, sz, m, ss, la, sq⟩) (.inl hok))
    clear hok
    go_wp2
    go_ret
    exact ⟨(by first | (rw [HX.out]; done) | (rw [HX.out]; rfl)), HB1.out.trans (HB2.out.mono (by omega))⟩
  cases hsz : sizedD u c o sz m
  · have HX := Lib.hid (mayD_no (h := ⟨u, c, o, sz, m, ss, la, sq⟩) (.inr (.inl hsz)))
    have HZ := Lib.hid hsz
    clear hok hsz
    go_wp2_with fail
    refine HP2.out.mono ?_
    rw [HZ.out]
    rintro e w3 ⟨rfl, hb3⟩
    have HB3 := Lib.hid (HB2.out.trans (hb3.mono HB2.out.size))
    clear hb3
    go_wp2
    go_ret
    exact ⟨(by first | (rw [HX.out]; done) | (rw [HX.out]; rfl)), HB1.out.trans (HB3.out.mono (by omega))⟩
  have HZ := Lib.hid hsz
  have hways : ((4 : Int) < ss.length ∨ ((ss.length : Int) ≤ 4 ∧ la < 0) ∨ ((ss.length : Int) ≤ 4 ∧ 0 ≤ la ∧ 100 < la) ∨ ((ss.length : Int) ≤ 4 ∧ 0 ≤ la ∧ la ≤ 100 ∧ sq < 0) ∨ ((ss.length : Int) ≤ 4 ∧ 0 ≤ la ∧ la ≤ 100 ∧ 0 ≤ sq ∧ 1099511627776 < sq)) ∨ ((ss.length : Int) ≤ 4 ∧ 0 ≤ la ∧ la ≤ 100 ∧ 0 ≤ sq ∧ sq ≤ 1099511627776) := by omega
  rcases hways with hways | ⟨h4i, l0, l1, s0, s1⟩
  · have HX := Lib.hid (mayD_no (h := ⟨u, c, o, sz, m, ss, la, sq⟩) (show okB u c o = false ∨ sizedD u c o sz m = false ∨ 4 < ss.length ∨ la < 0 ∨ 100 < la ∨ sq < 0 ∨ 1099511627776 < sq from .inr (.inr (by omega))))
    clear hok hsz
    rcases hways with h4i | ⟨h4i, l0⟩ | ⟨h4i, l0, l1⟩ | ⟨h4i, l0, l1, s0⟩ | ⟨h4i, l0, l1, s0, s1⟩
    all_goals
      go_wp2_with fail
      refine HP2.out.mono ?_
      rw [HZ.out]
      rintro e w3 ⟨rfl, hb3⟩
      replace x0 := cellExt hb3 x0
      replace x1 := cellExt hb3 x1
      replace x2 := cellExt hb3 x2
      replace x3 := cellExt hb3 x3
      replace x4 := cellExt hb3 x4
      replace x5 := cellExt hb3 x5
      replace x6 := cellExt hb3 x6
      replace x7 := cellExt hb3 x7
      have HB3 := Lib.hid (HB2.out.trans (hb3.mono HB2.out.size))
      clear hb3
      go_wp2
      go_ret
      exact ⟨(by first | (rw [HX.out]; done) | (rw [HX.out]; rfl)), HB1.out.trans (HB3.out.mono (by omega))⟩
  · have HI := Lib.hid (mayD_is (h := ⟨u, c, o, sz, m, ss, la, sq⟩) hok hsz (show ss.length ≤ 4 by omega) ⟨l0, l1⟩ ⟨s0, s1⟩)
    clear hok hsz
    go_wp2_with fail
    refine HP2.out.mono ?_
    rw [HZ.out]
    rintro e w3 ⟨rfl, hb3⟩
    replace x0 := cellExt hb3 x0
    replace x1 := cellExt hb3 x1
    replace x2 := cellExt hb3 x2
    replace x3 := cellExt hb3 x3
    replace x4 := cellExt hb3 x4
    replace x5 := cellExt hb3 x5
    replace x6 := cellExt hb3 x6
    replace x7 := cellExt hb3 x7
    have HB3 := Lib.hid (HB2.out.trans (hb3.mono HB2.out.size))
    clear hb3 HP2
    go_wp2
    clear x0 x1 x2 x3 x4 x5 x6 x7
    have HB3B := Lib.hid ((HB3.out.block _ hs1).trans HB.out)
    have hs3 : w.heap.size < w3.heap.size := Nat.lt_of_lt_of_le hs1 HB3.out.size
    go_loopw [4, 5] (fun ah q wr => ∃ (k : Nat) (x : Int), k ≤ ss.length ∧ q = .int .i64 k ∧ ah = .int .i64 x ∧ mayD ⟨u, c, o, sz, m, ss, la, sq⟩ = snapsD u c o la x (ss.drop k) ∧ Below w3.heap.size w3 wr) (fun _ q _ => ss.length - (intOf q).toNat)
    case atStart => exact ⟨0, 0, Nat.zero_le _, rfl, rfl, HI.out, Below.refl _ _⟩
    case round =>
      obtain ⟨k, x, hk, rfl, rfl, hmay, hbr⟩ := hrel
      have HMAY := Lib.hid hmay
      have HBR := Lib.hid hbr
      have HBLK := (hbr.block _ hs3).trans HB3B.out
      obtain ⟨x0, -⟩ := blk_cell (i := 0) HBLK
      obtain ⟨x1, -⟩ := blk_cell (i := 1) HBLK
      obtain ⟨x2, -⟩ := blk_cell (i := 2) HBLK
      obtain ⟨x5, -⟩ := blk_cell (i := 5) HBLK
      obtain ⟨x6, -⟩ := blk_cell (i := 6) HBLK
      simp at x0 x1 x2 x5 x6
      have hsr : w.heap.size < wr.heap.size := Nat.lt_of_lt_of_le hs3 hbr.size
      by_cases hlt : k < ss.length
      · have hki : (k : Int) < ss.length := by omega
        obtain ⟨b, off, v, rfl, hb, -, c0, c1, c2, hv⟩ := Snaps.at (SlE.ext HS.out (HB3.out.trans (hbr.mono HB3.out.size))) hlt
        obtain ⟨va, vc, rfl⟩ := hv.shape
        have HV := Lib.hid hv
        have hml : (ss[k]).map.length ≤ 100000 := HMS.out _ (List.getElem_mem hlt)
        have HAT := Lib.hid (snapsD_at u c o la x hlt)
        clear hv hmay hbr HBLK
        generalize ss[k] = s at *
        obtain ⟨si, sz', sm⟩ := s
        simp only at *
        by_cases g1 : si ≤ x
        · have HX : Hid (mayD ⟨u, c, o, sz, m, ss, la, sq⟩ = false) := Lib.hid (by rw [HMAY.out, HAT.out]; exact anB (.inl (by simpa using g1)))
          go_wp2
          go_ret
          exact ⟨(by first | (rw [HX.out]; done) | (rw [HX.out]; rfl)), (HB1.out.trans ((HB3.out.trans (HBR.out.mono HB3.out.size)).mono (by omega))).alloc (by omega) _⟩
        · have g1' : x < si := by omega
          clear g1
          by_cases g2 : la < si
          · have HX : Hid (mayD ⟨u, c, o, sz, m, ss, la, sq⟩ = false) := Lib.hid (by rw [HMAY.out, HAT.out]; exact anB (.inr (.inl (by simpa using g2))))
            go_wp2
            go_ret
            exact ⟨(by first | (rw [HX.out]; done) | (rw [HX.out]; rfl)), (HB1.out.trans ((HB3.out.trans (HBR.out.mono HB3.out.size)).mono (by omega))).alloc (by omega) _⟩
          · have g2' : si ≤ la := by omega
            clear g2
            have hal : Below wr.heap.size wr (wr.alloc (.cells #[.int .i64 si, .int .i64 sz', .slice va sm.length vc] 102)) := (Below.refl _ wr).alloc (Nat.le_refl _) _
            have HP := Lib.hid (rsized_any A u c o sz' va vc sm _ (SlE.ext HV.out hal) (by omega))
            have HAL := Lib.hid hal
            have hal' := hal
            replace x0 := cellExt hal' x0
            replace x1 := cellExt hal' x1
            replace x2 := cellExt hal' x2
            replace x6 := cellExt hal' x6
            clear hal hal'
            cases hz : sizedD u c o sz' sm
            · have HX : Hid (mayD ⟨u, c, o, sz, m, ss, la, sq⟩ = false) := Lib.hid (by rw [HMAY.out, HAT.out]; exact anB (.inr (.inr hz)))
              have HZ2 := Lib.hid hz
              clear hz
              go_wp2_with fail
              refine HP.out.mono ?_
              rw [HZ2.out]
              rintro e w5 ⟨rfl, hb5⟩
              have HB5 := Lib.hid (HAL.out.trans (hb5.mono HAL.out.size))
              clear hb5
              go_wp2
              go_ret
              exact ⟨(by first | (rw [HX.out]; done) | (rw [HX.out]; rfl)), (HB1.out.trans ((HB3.out.trans ((HBR.out.trans (HB5.out.mono HBR.out.size)).mono HB3.out.size)).mono (by omega)))⟩
            · have HN : Hid (mayD ⟨u, c, o, sz, m, ss, la, sq⟩ = snapsD u c o la si (ss.drop (k + 1))) := Lib.hid (by rw [HMAY.out, HAT.out, hz, decide_eq_true g1', decide_eq_true g2']; rfl)
              have HZ2 := Lib.hid hz
              clear hz
              have y0 : (wr.alloc (.cells #[.int .i64 si, .int .i64 sz', .slice va sm.length vc] 102)).cell? ⟨wr.heap.size, 0, none⟩ = some (.int .i64 si) := by simp
              go_wp2_with fail
              refine HP.out.mono ?_
              rw [HZ2.out]
              rintro e w5 ⟨rfl, hb5⟩
              replace y0 := cellExt hb5 y0
              have HB5 := Lib.hid (HAL.out.trans (hb5.mono HAL.out.size))
              clear hb5
              go_wp2
              go_roundw
              case rel => exact ⟨k + 1, si, by omega, by go_num, rfl, HN.out, HBR.out.trans (HB5.out.mono HBR.out.size)⟩
              case measure => simp [intOf]; omega
      · have HX : Hid (mayD ⟨u, c, o, sz, m, ss, la, sq⟩ = true) := Lib.hid (by rw [HMAY.out]; exact snapsD_end _ _ _ _ _ (by omega))
        clear hmay hbr HBLK
        go_wp2
        go_ret
        exact ⟨(by first | (rw [HX.out]; done) | (rw [HX.out]; rfl)), HB1.out.trans ((HB3.out.trans (HBR.out.mono HB3.out.size)).mono (by omega))⟩
end Go.Proofs.YtlekdfajcpmolaaGreatDoor
namespace Go.Proofs.YtlekdfajcpmolaaGreatDoor
open Go.RowKit Go.WideShapes

set_option maxRecDepth 100000 in
set_option maxHeartbeats 8000000 in
theorem rhpack_any (A : Nat → Prop) (h : HeD) (v : Value) (w : World) (hv : HeV A w v h) (hl : h.okl) : Calls Tryz.prog 18 #[v] w (NewB w (pkD h)) := by
  obtain ⟨mv, sv, rfl, h1, h2⟩ := hv
  obtain ⟨ma, mc, rfl⟩ := h1.shape
  obtain ⟨sa, sc, rfl⟩ := h2.shape
  have HW := Lib.hid (heap_alloc_new w (.cells (hdC h (.slice ma h.map.length mc) (.slice sa h.snaps.length sc)).toArray 27))
  have hal : Below w.heap.size w (w.alloc (.cells (hdC h (.slice ma h.map.length mc) (.slice sa h.snaps.length sc)).toArray 27)) := (Below.refl _ w).alloc (Nat.le_refl _) _
  have HC := Lib.hid (rmayH_any A h _ _ ⟨_, _, rfl, SlE.ext h1 hal, SlE.ext h2 hal⟩ hl)
  have HM := Lib.hid h1
  have HS := Lib.hid h2
  have HAL := Lib.hid hal
  clear h1 h2 hal
  unfold hdV hdC at *
  cases hmay : mayD h
  · have HX := Lib.hid (pkD_no hmay)
    have HK := Lib.hid hmay
    clear hmay hl
    go_enter Tryz.func18, Tryz.ntmps18
    go_wp2_with fail
    refine HC.out.mono ?_
    rw [HK.out]
    rintro e w2 ⟨rfl, hb2⟩
    have HB2 := Lib.hid hb2
    clear hb2
    go_wp2
    go_ret
    rw [HX.out]
    exact ⟨_, rfl, OB.nil _ _, HAL.out.trans (HB2.out.mono HAL.out.size)⟩
  · have HX := Lib.hid (pkD_yes hmay)
    have HK := Lib.hid hmay
    obtain ⟨u, c, o, z, la, sq, heq, N⟩ := mayHN hmay
    obtain ⟨hu, hc, ho, hz, m, ss, hla, hsq⟩ := h
    simp only [HeD.mk.injEq] at heq
    obtain ⟨rfl, rfl, rfl, rfl, -, -, rfl, rfl⟩ := heq
    simp only at *
    have HSP := Lib.hid (headB_split u c o z la sq m ss)
    obtain ⟨n1, n2, n3, n4, n5, n6, n7, n8, n9⟩ := N
    have hml : m.length ≤ 512 := (may_parts n7).2.1
    have HPL := Lib.hid (mPack_len n7)
    have HN9 := Lib.hid n9
    clear hmay hl n7 n9
    go_enter Tryz.func18, Tryz.ntmps18
    go_wp2_with fail
    refine HC.out.mono ?_
    rw [HK.out]
    rintro e w2 ⟨rfl, hb2⟩
    have hb0 := (hb2.block _ (by simp)).trans HW.out
    have T0 : Hid (St w w.heap.size w.heap.size (.cells #[.int .i64 (u : Nat), .int .i64 (c : Nat), .int .i64 (o : Nat), .int .i64 (z : Nat), .slice ma m.length mc, .slice sa ss.length sc, .int .i64 (la : Nat), .int .i64 (sq : Nat)] 27) (.cells #[.int .i64 (u : Nat), .int .i64 (c : Nat), .int .i64 (o : Nat), .int .i64 (z : Nat), .slice ma m.length mc, .slice sa ss.length sc, .int .i64 (la : Nat), .int .i64 (sq : Nat)] 27) w2 (.slice none 0 0) []) := Lib.hid ⟨hb0, hb0, by simp [Value.ownBlock], by simp [Value.ownBlock], OB.nil _ _, HAL.out.trans (hb2.mono HAL.out.size)⟩
    have hz0 := T0.out.bl.size
    have lk0 := (Array.getElem?_eq_some_iff.1 T0.out.bp).1
    obtain ⟨x0, -⟩ := blk_cell (i := 0) T0.out.bp
    simp at x0
    clear hb0 hb2 HW HC HAL
    go_wp2_with fail
    refine (bnum_any 1 u (by omega) (by omega) (by omega) _).mono ?_
    rintro e z0 ⟨r0, rfl, ho, hb⟩
    have T0c := Lib.hid (T0.out.call hb)
    have HR0 := Lib.hid ho
    have hz0c := T0c.out.bl.size
    clear ho hb x0 T0 hz0 lk0
    go_wp2_with (first | (at_builtin; refine wpList_appO _ (by rfl) _ _ (by rfl) w.heap.size _ _ (by rfl) T0c.out.ob _ _ _ (by rfl) HR0.out.rb (by simp only [List.length_nil, be_length]; omega) hz0c ?_) | go_in)
    intro v1' t1 ho
    obtain ⟨P1, hP1⟩ : ∃ l, l = [] ++ be 1 (u) := ⟨_, rfl⟩
    have hl1 : P1.length ≤ 1 := by rw [hP1]; simp only [List.length_append, List.length_nil, be_length]; omega
    have HP1 := Lib.hid hP1
    have T1 := Lib.hid ((T0c.out.app ho).cast hP1.symm)
    have hz1 := T1.out.bl.size
    have lk1 := (Array.getElem?_eq_some_iff.1 T1.out.bp).1
    obtain ⟨x0, -⟩ := blk_cell (i := 1) T1.out.bp
    simp at x0
    clear ho T0c HR0 hz0c hP1
    go_wp2_with fail
    refine (bnum_any 1 c (by omega) (by omega) (by omega) _).mono ?_
    rintro e z1 ⟨r1, rfl, ho, hb⟩
    have T1c := Lib.hid (T1.out.call hb)
    have HR1 := Lib.hid ho
    have hz1c := T1c.out.bl.size
    clear ho hb x0 T1 hz1 lk1
    go_wp2_with (first | (at_builtin; refine wpList_appO _ (by rfl) _ _ (by rfl) w.heap.size _ _ (by rfl) T1c.out.ob _ _ _ (by rfl) HR1.out.rb (by simp only [be_length]; omega) hz1c ?_) | go_in)
    intro v2' t2 ho
    obtain ⟨P2, hP2⟩ : ∃ l, l = P1 ++ be 1 (c) := ⟨_, rfl⟩
    have hl2 : P2.length ≤ 2 := by rw [hP2]; simp only [List.length_append, be_length]; omega
    have HP2 := Lib.hid hP2
    have T2 := Lib.hid ((T1c.out.app ho).cast hP2.symm)
    have hz2 := T2.out.bl.size
    have lk2 := (Array.getElem?_eq_some_iff.1 T2.out.bp).1
    obtain ⟨x0, -⟩ := blk_cell (i := 2) T2.out.bp
    simp at x0
    clear ho T1c HR1 hz1c hP2
    go_wp2_with fail
    refine (bnum_any 1 o (by omega) (by omega) (by omega) _).mono ?_
    rintro e z2 ⟨r2, rfl, ho, hb⟩
    have T2c := Lib.hid (T2.out.call hb)
    have HR2 := Lib.hid ho
    have hz2c := T2c.out.bl.size
    clear ho hb x0 T2 hz2 lk2
    go_wp2_with (first | (at_builtin; refine wpList_appO _ (by rfl) _ _ (by rfl) w.heap.size _ _ (by rfl) T2c.out.ob _ _ _ (by rfl) HR2.out.rb (by simp only [be_length]; omega) hz2c ?_) | go_in)
    intro v3' t3 ho
    obtain ⟨P3, hP3⟩ : ∃ l, l = P2 ++ be 1 (o) := ⟨_, rfl⟩
    have hl3 : P3.length ≤ 3 := by rw [hP3]; simp only [List.length_append, be_length]; omega
    have HP3 := Lib.hid hP3
    have T3 := Lib.hid ((T2c.out.app ho).cast hP3.symm)
    have hz3 := T3.out.bl.size
    have lk3 := (Array.getElem?_eq_some_iff.1 T3.out.bp).1
    obtain ⟨x0, -⟩ := blk_cell (i := 6) T3.out.bp
    simp at x0
    clear ho T2c HR2 hz2c hP3
    go_wp2_with fail
    refine (bnum_any 1 la (by omega) (by omega) (by omega) _).mono ?_
    rintro e z3 ⟨r3, rfl, ho, hb⟩
    have T3c := Lib.hid (T3.out.call hb)
    have HR3 := Lib.hid ho
    have hz3c := T3c.out.bl.size
    clear ho hb x0 T3 hz3 lk3
    go_wp2_with (first | (at_builtin; refine wpList_appO _ (by rfl) _ _ (by rfl) w.heap.size _ _ (by rfl) T3c.out.ob _ _ _ (by rfl) HR3.out.rb (by simp only [be_length]; omega) hz3c ?_) | go_in)
    intro v4' t4 ho
    obtain ⟨P4, hP4⟩ : ∃ l, l = P3 ++ be 1 (la) := ⟨_, rfl⟩
    have hl4 : P4.length ≤ 4 := by rw [hP4]; simp only [List.length_append, be_length]; omega
    have HP4 := Lib.hid hP4
    have T4 := Lib.hid ((T3c.out.app ho).cast hP4.symm)
    have hz4 := T4.out.bl.size
    have lk4 := (Array.getElem?_eq_some_iff.1 T4.out.bp).1
    obtain ⟨x0, -⟩ := blk_cell (i := 3) T4.out.bp
    simp at x0
    clear ho T3c HR3 hz3c hP4
    go_wp2_with fail
    refine (bnum_any 2 z (by omega) (by omega) (by omega) _).mono ?_
    rintro e z4 ⟨r4, rfl, ho, hb⟩
    have T4c := Lib.hid (T4.out.call hb)
    have HR4 := Lib.hid ho
    have hz4c := T4c.out.bl.size
    clear ho hb x0 T4 hz4 lk4
    go_wp2_with (first | (at_builtin; refine wpList_appO _ (by rfl) _ _ (by rfl) w.heap.size _ _ (by rfl) T4c.out.ob _ _ _ (by rfl) HR4.out.rb (by simp only [be_length]; omega) hz4c ?_) | go_in)
    intro v5' t5 ho
    obtain ⟨P5, hP5⟩ : ∃ l, l = P4 ++ be 2 (z) := ⟨_, rfl⟩
    have hl5 : P5.length ≤ 6 := by rw [hP5]; simp only [List.length_append, be_length]; omega
    have HP5 := Lib.hid hP5
    have T5 := Lib.hid ((T4c.out.app ho).cast hP5.symm)
    have hz5 := T5.out.bl.size
    have lk5 := (Array.getElem?_eq_some_iff.1 T5.out.bp).1
    obtain ⟨x0, -⟩ := blk_cell (i := 7) T5.out.bp
    simp at x0
    clear ho T4c HR4 hz4c hP5
    go_wp2_with fail
    refine (bnum_any 6 sq (by omega) (by omega) (by omega) _).mono ?_
    rintro e z5 ⟨r5, rfl, ho, hb⟩
    have T5c := Lib.hid (T5.out.call hb)
    have HR5 := Lib.hid ho
    have hz5c := T5c.out.bl.size
    clear ho hb x0 T5 hz5 lk5
    go_wp2_with (first | (at_builtin; refine wpList_appO _ (by rfl) _ _ (by rfl) w.heap.size _ _ (by rfl) T5c.out.ob _ _ _ (by rfl) HR5.out.rb (by simp only [be_length]; omega) hz5c ?_) | go_in)
    intro v6' t6 ho
    obtain ⟨P6, hP6⟩ : ∃ l, l = P5 ++ be 6 (sq) := ⟨_, rfl⟩
    have hl6 : P6.length ≤ 12 := by rw [hP6]; simp only [List.length_append, be_length]; omega
    have HP6 := Lib.hid hP6
    have T6 := Lib.hid ((T5c.out.app ho).cast hP6.symm)
    have hz6 := T6.out.bl.size
    have lk6 := (Array.getElem?_eq_some_iff.1 T6.out.bp).1
    obtain ⟨x0, -⟩ := blk_cell (i := 4) T6.out.bp
    simp at x0
    clear ho T5c HR5 hz5c hP6
    have hpl : (mPack m).length ≤ 130 := HPL.out
    obtain ⟨M, hM⟩ : ∃ l, l = mPack m := ⟨_, rfl⟩
    have HMM := Lib.hid hM
    rw [← hM] at hpl
    clear hM
    go_wp2_with fail
    refine (rpack_any _ ma mc m _ (SlE.ext HM.out T6.out.bl) (by omega)).mono ?_
    rw [← HMM.out]
    intro e za hnb
    obtain ⟨aa, ca, rfl, ho, hb⟩ := hnb.elim
    have T6b := Lib.hid (T6.out.call hb)
    have HRa := Lib.hid ho
    clear hnb ho hb x0 T6 hz6 lk6
    go_wp2_with fail
    refine (bblob_any _ _ M _ HRa.out.rb (by omega)).mono ?_
    rintro e z6 ⟨r6, rfl, ho, hb⟩
    have T6c := Lib.hid (T6b.out.call hb)
    have HR6 := Lib.hid ho
    have hz6c := T6c.out.bl.size
    clear ho hb T6b HRa
    go_wp2_with (first | (at_builtin; refine wpList_appO _ (by rfl) _ _ (by rfl) w.heap.size _ _ (by rfl) T6c.out.ob _ _ _ (by rfl) HR6.out.rb (by simp only [List.length_append, be_length]; omega) hz6c ?_) | go_in)
    intro v7' t7 ho
    obtain ⟨P7, hP7⟩ : ∃ l, l = P6 ++ (be 2 M.length ++ M) := ⟨_, rfl⟩
    have hl7 : P7.length ≤ 144 := by rw [hP7]; simp only [List.length_append, be_length]; omega
    have HP7 := Lib.hid hP7
    have T7 := Lib.hid ((T6c.out.app ho).cast hP7.symm)
    have hz7 := T7.out.bl.size
    have lk7 := (Array.getElem?_eq_some_iff.1 T7.out.bp).1
    obtain ⟨x0, -⟩ := blk_cell (i := 5) T7.out.bp
    simp at x0
    clear ho T6c HR6 hz6c hP7
    go_wp2_with fail
    refine (bnum_any 1 ss.length (by omega) (by omega) (by omega) _).mono ?_
    rintro e z7 ⟨r7, rfl, ho, hb⟩
    have T7c := Lib.hid (T7.out.call hb)
    have HR7 := Lib.hid ho
    have hz7c := T7c.out.bl.size
    clear ho hb x0 T7 hz7 lk7
    go_wp2_with (first | (at_builtin; refine wpList_appO _ (by rfl) _ _ (by rfl) w.heap.size _ _ (by rfl) T7c.out.ob _ _ _ (by rfl) HR7.out.rb (by simp only [be_length]; omega) hz7c ?_) | go_in)
    intro v8' t8 ho
    obtain ⟨P8, hP8⟩ : ∃ l, l = P7 ++ be 1 (ss.length) := ⟨_, rfl⟩
    have hl8 : P8.length ≤ 145 := by rw [hP8]; simp only [List.length_append, be_length]; omega
    have HP8 := Lib.hid hP8
    have T8 := Lib.hid ((T7c.out.app ho).cast hP8.symm)
    have hz8 := T8.out.bl.size
    have lk8 := (Array.getElem?_eq_some_iff.1 T8.out.bp).1
    obtain ⟨x0, -⟩ := blk_cell (i := 5) T8.out.bp
    simp at x0
    clear ho T7c HR7 hz7c hP8
    have HPRE : Hid (P8 = headPre u c o la z sq m ss.length) := Lib.hid (by
      rw [HP8.out, HP7.out, HP6.out, HP5.out, HP4.out, HP3.out, HP2.out, HP1.out, HMM.out]
      unfold headPre blobB
      simp only [List.append_assoc, List.nil_append])
    clear HP1 HP2 HP3 HP4 HP5 HP6 HP7 HP8 hl1 hl2 hl3 hl4 hl5 hl6 hl7 HMM HPL HM hpl
    go_wp2
    go_loopw [4, 5] (fun q3 q4 wr => ∃ k : Nat, k ≤ ss.length ∧ q4 = .int .i64 k ∧ St w w.heap.size w.heap.size (.cells #[.int .i64 (u : Nat), .int .i64 (c : Nat), .int .i64 (o : Nat), .int .i64 (z : Nat), .slice ma m.length mc, .slice sa ss.length sc, .int .i64 (la : Nat), .int .i64 (sq : Nat)] 27) (.cells #[.int .i64 (u : Nat), .int .i64 (c : Nat), .int .i64 (o : Nat), .int .i64 (z : Nat), .slice ma m.length mc, .slice sa ss.length sc, .int .i64 (la : Nat), .int .i64 (sq : Nat)] 27) wr q3 (P8 ++ (ss.take k).flatMap snapB) ∧ (P8 ++ (ss.take k).flatMap snapB).length ≤ 145 + 200 * k) (fun _ q4 _ => ss.length - (intOf q4).toNat)
    case atStart => exact ⟨0, Nat.zero_le _, rfl, by simpa using T8.out, by simpa using hl8⟩
    case round =>
      obtain ⟨k, hk, rfl, hst, hlk⟩ := hrel
      have HLK := Lib.hid hlk
      have HST := Lib.hid hst
      replace x0 := (blk_cell (i := 5) hst.bp).1
      simp at x0
      have lx := (Array.getElem?_eq_some_iff.1 hst.bp).1
      generalize u4 = v at *
      by_cases hlt : k < ss.length
      · have hki : (k : Int) < ss.length := by omega
        obtain ⟨b, off, v0, rfl, hb, -, c0, c1, c2, hv⟩ := Snaps.at HS.out hlt
        obtain ⟨⟨d1, d2⟩, ⟨d3, d4⟩, d5⟩ := HN9.out _ (List.getElem_mem hlt)
        have HF := Lib.hid (flat_succ hlt)
        replace c0 := cellB HST.out.bl hb c0
        replace c1 := cellB HST.out.bl hb c1
        replace c2 := cellB HST.out.bl hb c2
        replace hb := Nat.lt_of_lt_of_le hb HST.out.bl.size
        clear hst hlk T8 hl8 hz8 lk8
        generalize ss[k] = s at *
        obtain ⟨si, sz', sm⟩ := s
        simp only at c0 c1 hv d1 d2 d3 d4 d5
        obtain ⟨va, vc, rfl⟩ := hv.shape
        obtain ⟨sn, rfl⟩ : ∃ n : Nat, si = (n : Nat) := ⟨si.toNat, by omega⟩
        obtain ⟨zn, rfl⟩ : ∃ n : Nat, sz' = (n : Nat) := ⟨sz'.toNat, by omega⟩
        have hml2 : sm.length ≤ 512 := (may_parts d5).2.1
        have HPL2 := Lib.hid (mPack_len d5)
        have HV := Lib.hid hv
        obtain ⟨R0, hR0⟩ : ∃ l, l = P8 ++ (ss.take k).flatMap snapB := ⟨_, rfl⟩
        rw [← hR0] at HST HLK
        have HR0 := Lib.hid hR0
        have hrl0 : R0.length ≤ 1000 := by have := HLK.out; omega
        have U0 := Lib.hid (HST.out.box (.cells #[.int .i64 (sn : Nat), .int .i64 (zn : Nat), .slice va sm.length vc] 102))
        have hy0 := U0.out.bl.size
        clear hv d5 hR0 HST
        go_wp2_with fail
        refine (bnum_any 1 sn (by omega) (by omega) (by omega) _).mono ?_
        rintro e y0w ⟨r0, rfl, ho, hb⟩
        have U0c := Lib.hid (U0.out.call hb)
        have HQ0 := Lib.hid ho
        have hy0c := U0c.out.bl.size
        clear ho hb U0 hy0 c0 c1 c2
        go_wp2_with (first | (at_builtin; refine wpList_appO _ (by rfl) _ _ (by rfl) w.heap.size _ _ (by rfl) U0c.out.ob _ _ _ (by rfl) HQ0.out.rb (by simp only [be_length]; omega) hy0c ?_) | go_in)
        intro v1' s1 ho
        obtain ⟨R1, hR1⟩ : ∃ l, l = R0 ++ be 1 sn := ⟨_, rfl⟩
        have hrl1 : R1.length ≤ R0.length + 1 := by rw [hR1]; simp only [List.length_append, be_length]; omega
        have HRR1 := Lib.hid hR1
        have U1 := Lib.hid ((U0c.out.app ho).cast hR1.symm)
        have hy1 := U1.out.bl.size
        have lk1 := (Array.getElem?_eq_some_iff.1 U1.out.bq).1
        obtain ⟨y1, -⟩ := blk_cell (i := 1) U1.out.bq
        simp at y1
        clear ho U0c HQ0 hy0c hR1
        go_wp2_with fail
        refine (bnum_any 2 zn (by omega) (by omega) (by omega) _).mono ?_
        rintro e y1w ⟨r1, rfl, ho, hb⟩
        have U1c := Lib.hid (U1.out.call hb)
        have HQ1 := Lib.hid ho
        have hy1c := U1c.out.bl.size
        clear ho hb U1 hy1 y1 lk1
        go_wp2_with (first | (at_builtin; refine wpList_appO _ (by rfl) _ _ (by rfl) w.heap.size _ _ (by rfl) U1c.out.ob _ _ _ (by rfl) HQ1.out.rb (by simp only [be_length]; omega) hy1c ?_) | go_in)
        intro v2' s2 ho
        obtain ⟨R2, hR2⟩ : ∃ l, l = R1 ++ be 2 zn := ⟨_, rfl⟩
        have hrl2 : R2.length ≤ R0.length + 3 := by rw [hR2]; simp only [List.length_append, be_length]; omega
        have HRR2 := Lib.hid hR2
        have U2 := Lib.hid ((U1c.out.app ho).cast hR2.symm)
        have hy2 := U2.out.bl.size
        have lk2 := (Array.getElem?_eq_some_iff.1 U2.out.bq).1
        obtain ⟨y2, -⟩ := blk_cell (i := 2) U2.out.bq
        simp at y2
        clear ho U1c HQ1 hy1c hR2
        have hpl2 : (mPack sm).length ≤ 130 := HPL2.out
        obtain ⟨M2, hM2⟩ : ∃ l, l = mPack sm := ⟨_, rfl⟩
        have HMM2 := Lib.hid hM2
        rw [← hM2] at hpl2
        clear hM2
        go_wp2_with fail
        refine (rpack_any _ va vc sm _ (SlE.ext HV.out U2.out.bl) (by omega)).mono ?_
        rw [← HMM2.out]
        intro e ya hnb
        obtain ⟨aa, ca, rfl, ho, hb⟩ := hnb.elim
        have U2b := Lib.hid (U2.out.call hb)
        have HQa := Lib.hid ho
        clear hnb ho hb U2 hy2 y2 lk2
        go_wp2_with fail
        refine (bblob_any _ _ M2 _ HQa.out.rb (by omega)).mono ?_
        rintro e y2w ⟨r2, rfl, ho, hb⟩
        have U2c := Lib.hid (U2b.out.call hb)
        have HQ2 := Lib.hid ho
        have hy2c := U2c.out.bl.size
        clear ho hb U2b HQa
        go_wp2_with (first | (at_builtin; refine wpList_appO _ (by rfl) _ _ (by rfl) w.heap.size _ _ (by rfl) U2c.out.ob _ _ _ (by rfl) HQ2.out.rb (by simp only [List.length_append, be_length]; omega) hy2c ?_) | go_in)
        intro v3' s3 ho
        obtain ⟨R3, hR3⟩ : ∃ l, l = R2 ++ (be 2 M2.length ++ M2) := ⟨_, rfl⟩
        have hrl3 : R3.length ≤ R0.length + 135 := by rw [hR3]; simp only [List.length_append, be_length]; omega
        have HRR3 := Lib.hid hR3
        have U3 := Lib.hid ((U2c.out.app ho).cast hR3.symm)
        have hy3 := U3.out.bl.size
        clear ho U2c HQ2 hy2c hR3
        have HRE : Hid (P8 ++ (ss.take (k + 1)).flatMap snapB = R3) := Lib.hid (by
          rw [HF.out, ← List.append_assoc, ← HR0.out, HRR3.out, HRR2.out, HRR1.out, HMM2.out]
          unfold snapB blobB
          simp only [List.append_assoc, Int.toNat_natCast])
        go_wp2
        go_roundw
        case rel => exact ⟨k + 1, by omega, by go_num, by rw [HRE.out]; exact U3.out.one, by rw [HRE.out]; have := HLK.out; omega⟩
        case measure => simp [intOf]; omega
      · obtain rfl : k = ss.length := by omega
        have HE : Hid (P8 ++ (ss.take ss.length).flatMap snapB = pkD ⟨(u : Nat), (c : Nat), (o : Nat), (z : Nat), m, ss, (la : Nat), (sq : Nat)⟩) := Lib.hid (by rw [HX.out, HSP.out, HPRE.out, List.take_length])
        clear hst hlk T8 hl8 hz8 lk8
        go_wp2
        go_ret
        exact ⟨_, rfl, by rw [← HE.out]; exact HST.out.ob, HST.out.bl⟩
end Go.Proofs.YtlekdfajcpmolaaGreatDoor
