/- The walk of head.table; small laws for head.Unpack. The walk of head.Pack. The walk of head.Unpack. Printed by gen_hu19.py. -/
import Derived.Test.YtlekdfajcpmolaaGreatDoorGCI
import Derived.Test.YtlekdfajcpmolaaGreatDoorGCG
import Derived.Test.YtlekdfajcpmolaaGreatDoorGCH
import Derived.Test.YtlekdfajcpmolaaGreatDoorGCF
import Derived.Test.YtlekdfajcpmolaaGreatDoorGCD
namespace Go.Proofs.YtlekdfajcpmolaaGreatDoor
open Go.RowKit Go.WideShapes

theorem call19 {w W W' : World} (h : Below w.heap.size w W) (hb : Below W.heap.size W W') : Below w.heap.size w W' := h.trans (hb.mono h.size)
theorem blk19 {W W' : World} {k : Nat} {o : Obj} (hb : Below W.heap.size W W') (h : W.heap[k]? = some o) : W'.heap[k]? = some o := (hb.block k (Array.getElem?_eq_some_iff.1 h).1).trans h
def TabO (A : Nat → Prop) (p : Nat) (w : World) (x : List Int × Rd) (e : Ending) (w' : World) : Prop :=
  ∃ v, e = .returned v ∧ NI w.heap.size w' v x.1 ∧ IsRd A w' p x.2 ∧ Fr (fun k => k = p) w w'
theorem rdMap_err {r : Rd} (h : (r.blob 200).2.e ≠ 0) : rdMap r = ([], (r.blob 200).2) := if_pos h
theorem rdMap_no {r : Rd} (h : (r.blob 200).2.e = 0) (h2 : mUn (r.blob 200).1 = none) : rdMap r = ([], (r.blob 200).2.fail 11) := by
  unfold rdMap
  rw [if_neg (by simp [h]), h2]
theorem rdMap_yes {r : Rd} {m : List Int} (h : (r.blob 200).2.e = 0) (h2 : mUn (r.blob 200).1 = some m) : rdMap r = (m, (r.blob 200).2) := by
  unfold rdMap
  rw [if_neg (by simp [h]), h2]
theorem mUn_len {b : List UInt8} {m : List Int} (h : mUn b = some m) : m.length ≤ 512 := by
  unfold mUn at h
  split at h
  · cases h
  · rename_i h1
    split at h
    · cases h
    · cases h
      rw [mVals_len]
      omega
theorem rdMap_small {r : Rd} (h : r.small) : (rdMap r).2.small ∧ (rdMap r).1.length ≤ 512 := by
  have hb := h.blob 200
  unfold rdMap
  split
  · exact ⟨hb, by simp⟩
  · split
    · exact ⟨hb.fail (by decide), by simp⟩
    · rename_i m hm
      exact ⟨hb, mUn_len hm⟩
theorem Fr.newB {S : Nat → Prop} {w w' w'' : World} (h : Fr S w w') (hb : Below w'.heap.size w' w'') : Fr S w w'' := h.trans (Fr.ext (S := S) hb) fun _ _ h => h
set_option maxRecDepth 100000 in
set_option maxHeartbeats 1600000 in
theorem htable_any (A : Nat → Prop) (p : Nat) (r : Rd) (w : World) (h : IsRd A w p r) (hs : r.small) (hA : ∀ b, A b → b < w.heap.size) :
    Calls Tryz.prog 114 #[.pointer (some ⟨p, 0, none⟩), failV p] w (TabO A p w (rdMap r)) := by
  have HA := Lib.hid hA
  have hbl := hs.blob 200
  have h200 : (r.blob 200).1.length ≤ 100000 := by
    have := Rd.blob_len r 200
    omega
  have HS := Lib.hid hbl
  have HE := Lib.hid (fun h => rdMap_err (r := r) h)
  have HN := Lib.hid (fun h h2 => rdMap_no (r := r) h h2)
  have HY := Lib.hid (fun m h h2 => rdMap_yes (r := r) (m := m) h h2)
  have HB := Lib.hid (rblob_any A p 200 r w h (by omega) hs.len hs.err (hs.num 2).err)
  have hpw := h.lt
  generalize rdMap r = y at *
  clear h hs hbl hA
  generalize r.blob 200 = X at *
  obtain ⟨b, r1⟩ := X
  simp only at *
  unfold failV
  go_enter Tryz.func114, Tryz.ntmps114
  go_wp2_with fail
  refine HB.out.mono ?_
  rintro e w1 ⟨v1, rfl, hv1, hr1, hf1⟩
  obtain ⟨a1, c1, rfl⟩ := hv1.shape
  have HV := Lib.hid hv1
  have HR := Lib.hid hr1
  have HF := Lib.hid hf1
  have hs1 := hf1.size
  clear hv1 hr1 hf1
  go_wp2_with fail
  refine (err_any A p r1 _ HR.out).mono ?_
  rintro e w2 ⟨rfl, rfl⟩
  by_cases h0 : r1.e = 0
  · have t0 : ((r1.e : Int) != 0) = false := by simp [h0]
    have t1 : ((r1.e : Int) == 0) = true := by simp [h0]
    have H0 := Lib.hid h0
    clear h0
    go_wp2_with fail
    refine (punpack_any _ a1 c1 b _ HV.out (by omega)).mono ?_
    rintro e w3 ⟨v3, rfl, hn3, hb3⟩
    obtain ⟨a3, c3, rfl⟩ := hn3.shape
    have HR3 := Lib.hid (HR.out.ext hb3)
    have HF3 := Lib.hid (HF.out.newB hb3)
    cases hm : mUn b with
    | none =>
      rw [hm] at hn3
      have HN3 := Lib.hid (hn3.base_le hs1)
      have HYY := Lib.hid (HN.out H0.out hm)
      clear hn3 hb3 hm
      simp only [Option.isSome_none]
      go_wp2_with fail
      refine (fail_any A p r1 11 _ HR3.out (by omega) HS.out.err).mono ?_
      rintro e w4 ⟨rfl, hr4, hf4⟩
      have HR4 := Lib.hid hr4
      have HF4 := Lib.hid hf4
      clear hr4 hf4
      go_wp2
      go_ret
      rw [HYY.out]
      exact ⟨_, rfl, HN3.out.same fun g hg => HF4.out.block g (HN3.out.lt g hg).2 (by have := (HN3.out.lt g hg).1; omega), HR4.out, HF3.out.trans HF4.out fun _ _ h => h⟩
    | some m =>
      rw [hm] at hn3
      have HN3 := Lib.hid (hn3.base_le hs1)
      have HYY := Lib.hid (HY.out m H0.out hm)
      clear hn3 hb3 hm
      simp only [Option.isSome_some]
      go_wp2
      go_ret
      rw [HYY.out]
      exact ⟨_, rfl, HN3.out, HR3.out, HF3.out⟩
  · have t0 : ((r1.e : Int) != 0) = true := by simp [h0]
    have t1 : ((r1.e : Int) == 0) = false := by simp [h0]
    have HYY := Lib.hid (HE.out h0)
    clear h0
    go_wp2
    go_ret
    rw [HYY.out]
    exact ⟨_, rfl, NI.nil _ _, HR.out, HF.out⟩
end Go.Proofs.YtlekdfajcpmolaaGreatDoor
namespace Go.Proofs.YtlekdfajcpmolaaGreatDoor
open Go.RowKit Go.WideShapes

def pkD (h : HeD) : List UInt8 := pkH okB ObNum h
theorem pkD_no {h : HeD} (e : mayD h = false) : pkD h = [] := by unfold pkD pkH; rw [if_neg]; unfold mayD at e; rw [e]; simp
theorem pkD_yes {h : HeD} (e : mayD h = true) : pkD h = headB' h := by unfold pkD pkH; exact if_pos e
theorem NewB.elim {w w' : World} {l : List UInt8} {e : Ending} (h : NewB w l e w') : ∃ a c, e = .returned (.slice a l.length c) ∧ OB w.heap.size w' (.slice a l.length c) l ∧ Below w.heap.size w w' := by
  obtain ⟨v, rfl, h1, h2⟩ := h
  obtain ⟨a, c, rfl⟩ := h1.rb.shape
  exact ⟨a, c, rfl, h1, h2⟩
structure MayHN (u c o z la sq : Nat) (m : List Int) (ss : List SnD) : Prop where
  mk ::
  u1 : 1 ≤ u ∧ u ≤ 64
  c1 : 1 ≤ c ∧ c ≤ 8
  o1 : 1 ≤ o ∧ o ≤ 64
  z1 : z ≤ 512
  la1 : la ≤ 100
  sq1 : sq ≤ 1099511627776
  m1 : mMay m = true
  few : ss.length ≤ 4
  ss1 : ∀ s ∈ ss, (0 ≤ s.id ∧ s.id ≤ 100) ∧ (0 ≤ s.size ∧ s.size ≤ 512) ∧ mMay s.map = true
theorem mayHN {h : HeD} (hm : mayD h = true) : ∃ u c o z la sq : Nat, h = ⟨(u : Nat), (c : Nat), (o : Nat), (z : Nat), h.map, h.snaps, (la : Nat), (sq : Nat)⟩ ∧ MayHN u c o z la sq h.map h.snaps := by
  have P := mayH_parts (okL := okB) (objs := ObNum) hm
  have L := lay_of P.ok
  have := L.u1
  have := L.c1
  have := L.c8
  have := L.uo
  have := L.o64
  have p1 := P.size
  have p2 := P.last
  have p3 := P.seq
  refine ⟨h.u.toNat, h.c.toNat, h.o.toNat, h.size.toNat, h.last.toNat, h.seq.toNat, ?_, ⟨by omega, by omega, by omega, by omega, by omega, by omega, P.map, P.few, P.snaps⟩⟩
  obtain ⟨a, b, c, d, e, f, g, i⟩ := h
  simp only [HeD.mk.injEq, true_and] at *
  omega
def headPre (u c o la z sq : Nat) (m : List Int) (n : Nat) : List UInt8 := be 1 u ++ be 1 c ++ be 1 o ++ be 1 la ++ be 2 z ++ be 6 sq ++ blobB (mPack m) ++ be 1 n
theorem headB_split (u c o z la sq : Nat) (m : List Int) (ss : List SnD) : headB' ⟨(u : Nat), (c : Nat), (o : Nat), (z : Nat), m, ss, (la : Nat), (sq : Nat)⟩ = headPre u c o la z sq m ss.length ++ ss.flatMap snapB := by
  unfold headB' headPre
  simp only [Int.toNat_natCast]
theorem be1 (n : Nat) : be 1 n = [UInt8.ofNat n] := rfl
theorem four_bytes (u c o la : Nat) (h1 : u < 256) (h2 : c < 256) (h3 : o < 256) (h4 : la < 256) : [Value.int .u8 (u : Nat), .int .u8 (c : Nat), .int .u8 (o : Nat), .int .u8 (la : Nat)] = (be 1 u ++ be 1 c ++ be 1 o ++ be 1 la).map bv := by
  simp only [be1, List.cons_append, List.nil_append, List.map_cons, List.map_nil]
  rw [bv_nat u h1, bv_nat c h2, bv_nat o h3, bv_nat la h4]
theorem flat_succ {ss : List SnD} {k : Nat} (hk : k < ss.length) : (ss.take (k + 1)).flatMap snapB = (ss.take k).flatMap snapB ++ snapB ss[k] := by
  rw [List.take_succ_eq_append_getElem hk, List.flatMap_append]
  simp
set_option maxRecDepth 100000 in
set_option maxHeartbeats 4000000 in
theorem hpack_any (A : Nat → Prop) (h : HeD) (v : Value) (w : World) (hv : HeV A w v h) (hl : h.okl) : Calls Tryz.prog 53 #[v] w (NewB w (pkD h)) := by
  obtain ⟨mv, sv, rfl, h1, h2⟩ := hv
  obtain ⟨ma, mc, rfl⟩ := h1.shape
  obtain ⟨sa, sc, rfl⟩ := h2.shape
  have HW := Lib.hid (heap_alloc_new w (.cells (hdC h (.slice ma h.map.length mc) (.slice sa h.snaps.length sc)).toArray 27))
  have hal : Below w.heap.size w (w.alloc (.cells (hdC h (.slice ma h.map.length mc) (.slice sa h.snaps.length sc)).toArray 27)) := (Below.refl _ w).alloc (Nat.le_refl _) _
  have HC := Lib.hid (hcheck_any A h _ _ ⟨_, _, rfl, SlE.ext h1 hal, SlE.ext h2 hal⟩ hl)
  have HM := Lib.hid (SlE.ext h1 hal)
  have HS := Lib.hid (SlE.ext h2 hal)
  have HAL := Lib.hid hal
  clear h1 h2 hal
  unfold hdV hdC at *
  cases hmay : mayD h
  · have HX := Lib.hid (pkD_no hmay)
    have HK := Lib.hid (chkH_no hmay)
    clear hmay hl
    go_enter Tryz.func53, Tryz.ntmps53
    go_wp2_with fail
    refine HC.out.mono ?_
    rw [HK.out]
    rintro e w2 ⟨rfl, hb2⟩
    have HB2 := Lib.hid hb2
    clear hb2
    go_wp2
    go_ret
    rw [HX.out]
    exact ⟨_, rfl, OB.nil _ _, HAL.out.trans (HB2.out.mono HAL.out.size)⟩
  · have HX := Lib.hid (pkD_yes hmay)
    have HK := Lib.hid (chkH_yes hmay)
    obtain ⟨u, c, o, z, la, sq, heq, N⟩ := mayHN hmay
    obtain ⟨hu, hc, ho, hz, m, ss, hla, hsq⟩ := h
    simp only [HeD.mk.injEq] at heq
    obtain ⟨rfl, rfl, rfl, rfl, -, -, rfl, rfl⟩ := heq
    simp only at *
    have HSP := Lib.hid (headB_split u c o z la sq m ss)
    obtain ⟨n1, n2, n3, n4, n5, n6, n7, n8, n9⟩ := N
    have hml : m.length ≤ 512 := (may_parts n7).2.1
    have HPL := Lib.hid (mPack_len n7)
    have HN9 := Lib.hid n9
    have b1 : (u : Int) < 256 := by omega
    have b2 : (c : Int) < 256 := by omega
    have b3 : (o : Int) < 256 := by omega
    have b4 : (la : Int) < 256 := by omega
    have H4 := Lib.hid (four_bytes u c o la (by omega) (by omega) (by omega) (by omega))
    clear hmay hl n7 n9
    go_enter Tryz.func53, Tryz.ntmps53
    go_wp2_with fail
    refine HC.out.mono ?_
    rw [HK.out]
    rintro e w2 ⟨rfl, hb2⟩
    have HB2 := Lib.hid hb2
    have hb0 := (hb2.block _ (by simp)).trans HW.out
    have HBK := Lib.hid hb0
    obtain ⟨x0, -⟩ := blk_cell (i := 0) hb0
    obtain ⟨x1, -⟩ := blk_cell (i := 1) hb0
    obtain ⟨x2, -⟩ := blk_cell (i := 2) hb0
    obtain ⟨x3, -⟩ := blk_cell (i := 3) hb0
    obtain ⟨x4, -⟩ := blk_cell (i := 4) hb0
    obtain ⟨x5, -⟩ := blk_cell (i := 5) hb0
    obtain ⟨x6, -⟩ := blk_cell (i := 6) hb0
    obtain ⟨x7, -⟩ := blk_cell (i := 7) hb0
    simp at x0 x1 x2 x3 x4 x5 x6 x7
    have hs2 : w.heap.size < w2.heap.size := by have := hb2.size; simp at this; omega
    have HR0 : Hid (OB w.heap.size (w2.alloc (.cells #[.int .u8 (u : Nat), .int .u8 (c : Nat), .int .u8 (o : Nat), .int .u8 (la : Nat)] 5)) (.slice (some ⟨w2.heap.size, 0, none⟩) 4 4) (be 1 u ++ be 1 c ++ be 1 o ++ be 1 la)) := Lib.hid (by
      refine ob_blk ?_ (by omega) (by simp [be_length]) (by omega)
      rw [← H4.out]
      exact heap_alloc_new _ _)
    have hbw : Below w.heap.size w (w2.alloc (.cells #[.int .u8 (u : Nat), .int .u8 (c : Nat), .int .u8 (o : Nat), .int .u8 (la : Nat)] 5)) := (HAL.out.trans (HB2.out.mono HAL.out.size)).alloc (by omega) _
    obtain ⟨P0, hP0⟩ : ∃ l, l = be 1 u ++ be 1 c ++ be 1 o ++ be 1 la := ⟨_, rfl⟩
    have hP0l : P0.length = 4 := by rw [hP0]; simp [be_length]
    rw [← hP0] at HR0
    have HP0 := Lib.hid hP0
    have HBW := Lib.hid hbw
    clear hb0 hb2 hbw hP0
    go_wp2_with fail
    refine (num_any 2 z (by omega) (by omega) (by omega) _ _ P0 _ HR0.out.rb (by omega)).mono ?_
    intro e w3 hnb
    obtain ⟨a3, c3, rfl, ho3, hb3⟩ := hnb.elim
    clear hnb
    have hb23 : Below w2.heap.size w2 w3 := ((Below.refl _ w2).alloc (Nat.le_refl _) _).trans (hb3.mono (by simp))
    replace x0 := cellExt hb23 x0
    replace x1 := cellExt hb23 x1
    replace x2 := cellExt hb23 x2
    replace x3 := cellExt hb23 x3
    replace x4 := cellExt hb23 x4
    replace x5 := cellExt hb23 x5
    replace x6 := cellExt hb23 x6
    replace x7 := cellExt hb23 x7
    obtain ⟨P3, hP3⟩ : ∃ l, l = P0 ++ be 2 z := ⟨_, rfl⟩
    have hl3 : P3.length ≤ 6 := by rw [hP3]; simp only [List.length_append, be_length]; omega
    rw [← hP3] at ho3 ⊢
    have HP3 := Lib.hid hP3
    have HO3 := Lib.hid (ho3.base_le HBW.out.size)
    replace HBW := Lib.hid (HBW.out.trans (hb3.mono HBW.out.size))
    have HSW := Lib.hid (SlE.ext (SlE.ext HS.out HB2.out) hb23)
    have HMW := Lib.hid (SlE.ext (SlE.ext HM.out HB2.out) hb23)
    have hs3 : w.heap.size < w3.heap.size := by have := hb23.size; omega
    have HBK3 := Lib.hid ((hb23.block _ hs2).trans HBK.out)
    clear ho3 hb3 hb23 hP3 hP0l HR0 HC HS HM HW HBK HAL HB2 H4
    go_wp2_with fail
    refine (num_any 6 sq (by omega) (by omega) (by omega) _ _ P3 _ HO3.out.rb (by omega)).mono ?_
    intro e w4 hnb
    obtain ⟨a4, c4, rfl, ho4, hb4⟩ := hnb.elim
    clear hnb
    replace x0 := cellExt hb4 x0
    replace x1 := cellExt hb4 x1
    replace x2 := cellExt hb4 x2
    replace x3 := cellExt hb4 x3
    replace x4 := cellExt hb4 x4
    replace x5 := cellExt hb4 x5
    replace x6 := cellExt hb4 x6
    replace x7 := cellExt hb4 x7
    obtain ⟨P4, hP4⟩ : ∃ l, l = P3 ++ be 6 sq := ⟨_, rfl⟩
    have hl4 : P4.length ≤ 12 := by rw [hP4]; simp only [List.length_append, be_length]; omega
    rw [← hP4] at ho4 ⊢
    have HP4 := Lib.hid hP4
    have HO4 := Lib.hid (ho4.base_le HBW.out.size)
    replace HBW := Lib.hid (HBW.out.trans (hb4.mono HBW.out.size))
    replace HSW := Lib.hid (SlE.ext HSW.out hb4)
    replace HMW := Lib.hid (SlE.ext HMW.out hb4)
    have HB4 := Lib.hid hb4
    clear ho4 hb4 hP4
    have hpl : (mPack m).length ≤ 130 := HPL.out
    go_wp2_with fail
    refine (ppack_any _ ma mc m _ HMW.out (by omega)).mono ?_
    intro e w5 hnb
    obtain ⟨a5, c5, rfl, ho5, hb5⟩ := hnb.elim
    clear hnb
    replace x0 := cellExt hb5 x0
    replace x1 := cellExt hb5 x1
    replace x2 := cellExt hb5 x2
    replace x3 := cellExt hb5 x3
    replace x4 := cellExt hb5 x4
    replace x5 := cellExt hb5 x5
    replace x6 := cellExt hb5 x6
    replace x7 := cellExt hb5 x7
    have HO5 := Lib.hid ho5
    have HO4' := Lib.hid (HO4.out.ext hb5)
    replace HBW := Lib.hid (HBW.out.trans (hb5.mono HBW.out.size))
    replace HSW := Lib.hid (SlE.ext HSW.out hb5)
    replace HMW := Lib.hid (SlE.ext HMW.out hb5)
    have HB5 := Lib.hid hb5
    obtain ⟨M, hM⟩ : ∃ l, l = mPack m := ⟨_, rfl⟩
    rw [← hM] at hpl HO5 ⊢
    have HMM := Lib.hid hM
    clear ho5 hb5 hM
    go_wp2_with fail
    refine (blob_any _ _ _ _ P4 M _ HO4'.out.rb HO5.out.rb (by omega) (by omega)).mono ?_
    intro e w6 hnb
    obtain ⟨a6, c6, rfl, ho6, hb6⟩ := hnb.elim
    clear hnb
    replace x0 := cellExt hb6 x0
    replace x1 := cellExt hb6 x1
    replace x2 := cellExt hb6 x2
    replace x3 := cellExt hb6 x3
    replace x4 := cellExt hb6 x4
    replace x5 := cellExt hb6 x5
    replace x6 := cellExt hb6 x6
    replace x7 := cellExt hb6 x7
    obtain ⟨P6, hP6⟩ : ∃ l, l = P4 ++ be 2 M.length ++ M := ⟨_, rfl⟩
    have hl6 : P6.length ≤ 144 := by rw [hP6]; simp only [List.length_append, be_length]; omega
    rw [← hP6] at ho6 ⊢
    have HP6 := Lib.hid hP6
    have HO6 := Lib.hid (ho6.base_le HBW.out.size)
    replace HBW := Lib.hid (HBW.out.trans (hb6.mono HBW.out.size))
    replace HSW := Lib.hid (SlE.ext HSW.out hb6)
    replace HMW := Lib.hid (SlE.ext HMW.out hb6)
    have HB6 := Lib.hid hb6
    clear ho6 hb6 hP6
    go_wp2_with fail
    refine (num_any 1 ss.length (by omega) (by omega) (by omega) _ _ P6 _ HO6.out.rb (by omega)).mono ?_
    intro e w7 hnb
    obtain ⟨a7, c7, rfl, ho7, hb7⟩ := hnb.elim
    clear hnb
    replace x0 := cellExt hb7 x0
    replace x1 := cellExt hb7 x1
    replace x2 := cellExt hb7 x2
    replace x3 := cellExt hb7 x3
    replace x4 := cellExt hb7 x4
    replace x5 := cellExt hb7 x5
    replace x6 := cellExt hb7 x6
    replace x7 := cellExt hb7 x7
    obtain ⟨P7, hP7⟩ : ∃ l, l = P6 ++ be 1 ss.length := ⟨_, rfl⟩
    have hl7 : P7.length ≤ 145 := by rw [hP7]; simp only [List.length_append, be_length]; omega
    rw [← hP7] at ho7 ⊢
    have HP7 := Lib.hid hP7
    have HO7 := Lib.hid (ho7.base_le HBW.out.size)
    replace HBW := Lib.hid (HBW.out.trans (hb7.mono HBW.out.size))
    replace HSW := Lib.hid (SlE.ext HSW.out hb7)
    replace HMW := Lib.hid (SlE.ext HMW.out hb7)
    have HB7 := Lib.hid hb7
    clear ho7 hb7 hP7
    have HB37 := Lib.hid ((HB4.out.trans (HB5.out.mono HB4.out.size)).trans ((HB6.out.trans (HB7.out.mono HB6.out.size)).mono (Nat.le_trans HB4.out.size HB5.out.size)))
    have hs7 : w.heap.size < w7.heap.size := Nat.lt_of_lt_of_le hs3 HB37.out.size
    have HBK7 := Lib.hid ((HB37.out.block _ hs3).trans HBK3.out)
    have HPRE : Hid (P7 = headPre u c o la z sq m ss.length) := Lib.hid (by
      rw [HP7.out, HP6.out, HP4.out, HP3.out, HP0.out, HMM.out]
      unfold headPre blobB
      simp only [List.append_assoc])
    clear HP7 HP6 HP4 HP3 HP0 HMM HO3 HO4 HO4' HO5 HO6 HB4 HB5 HB6 HB7 HB37 HBK3 HPL HMW hl3 hl4 hl6 hpl x0 x1 x2 x3 x4 x6 x7
    go_wp2
    go_loopw [3, 46] (fun bb q wr => ∃ k : Nat, k ≤ ss.length ∧ q = .int .i64 k ∧ (∃ a c, bb = .slice a (P7 ++ (ss.take k).flatMap snapB).length c) ∧ OB w.heap.size wr bb (P7 ++ (ss.take k).flatMap snapB) ∧ (P7 ++ (ss.take k).flatMap snapB).length ≤ 145 + 200 * k ∧ Below w7.heap.size w7 wr) (fun _ q _ => ss.length - (intOf q).toNat)
    case atStart => exact ⟨0, Nat.zero_le _, rfl, ⟨a7, c7, by simp⟩, by simpa using HO7.out, by simpa using hl7, Below.refl _ _⟩
    case round =>
      obtain ⟨k, hk, rfl, ⟨ra, rc, rfl⟩, ho, hlen, hbr⟩ := hrel
      have HO := Lib.hid ho
      have HBR := Lib.hid hbr
      have HLEN := Lib.hid hlen
      by_cases hlt : k < ss.length
      · have hki : (k : Int) < ss.length := by omega
        obtain ⟨b, off, v, rfl, hb, -, c0, c1, c2, hv⟩ := Snaps.at (SlE.ext HSW.out hbr) hlt
        obtain ⟨⟨d1, d2⟩, ⟨d3, d4⟩, d5⟩ := HN9.out _ (List.getElem_mem hlt)
        have HF := Lib.hid (flat_succ hlt)
        clear hbr ho hlen
        generalize ss[k] = s at *
        obtain ⟨si, sz', sm⟩ := s
        simp only at c0 c1 hv d1 d2 d3 d4 d5
        obtain ⟨va, vc, rfl⟩ := hv.shape
        have HV := Lib.hid hv
        clear hv
        obtain ⟨sn, rfl⟩ : ∃ n : Nat, si = (n : Nat) := ⟨si.toNat, by omega⟩
        obtain ⟨zn, rfl⟩ : ∃ n : Nat, sz' = (n : Nat) := ⟨sz'.toNat, by omega⟩
        have hml2 : sm.length ≤ 512 := (may_parts d5).2.1
        have HPL2 := Lib.hid (mPack_len d5)
        have hsr : w.heap.size ≤ wr.heap.size := Nat.le_trans (Nat.le_of_lt hs7) HBR.out.size
        obtain ⟨R0, hR0⟩ : ∃ l, l = P7 ++ (ss.take k).flatMap snapB := ⟨_, rfl⟩
        rw [← hR0] at HO HLEN
        have HR0 := Lib.hid hR0
        have hRl : R0.length ≤ 1000 := by have := HLEN.out; omega
        have hal : Below wr.heap.size wr (wr.alloc (.cells #[.int .i64 (sn : Nat), .int .i64 (zn : Nat), .slice va sm.length vc] 102)) := (Below.refl _ wr).alloc (Nat.le_refl _) _
        have HA1 := Lib.hid (HO.out.ext hal)
        have y0 := heap_alloc_new wr (.cells #[.int .i64 (sn : Nat), .int .i64 (zn : Nat), .slice va sm.length vc] 102)
        have HV1 := Lib.hid (SlE.ext HV.out hal)
        have HAL := Lib.hid hal
        have HYB := Lib.hid y0
        rw [← hR0]
        clear d5 hal y0 hR0
        go_wp2_with fail
        refine (num_any 1 sn (by omega) (by omega) (by omega) _ _ R0 _ HA1.out.rb (by omega)).mono ?_
        intro e wa hnb
        obtain ⟨aa, ca, rfl, hoa, hba⟩ := hnb.elim
        clear hnb
        obtain ⟨R1, hR1⟩ : ∃ l, l = R0 ++ be 1 sn := ⟨_, rfl⟩
        have hRl1 : R1.length ≤ 1001 := by rw [hR1]; simp only [List.length_append, be_length]; omega
        rw [← hR1] at hoa ⊢
        have HR1 := Lib.hid hR1
        have yb := (hba.block _ (by simp)).trans HYB.out
        obtain ⟨y1, -⟩ := blk_cell (i := 1) yb
        obtain ⟨y2, -⟩ := blk_cell (i := 2) yb
        simp at y1 y2
        have HOA := Lib.hid hoa
        have HBA := Lib.hid (HAL.out.trans (hba.mono HAL.out.size))
        have HVA := Lib.hid (SlE.ext HV1.out hba)
        clear hoa hba hR1 yb HA1 HV1 HYB
        go_wp2_with fail
        refine (num_any 2 zn (by omega) (by omega) (by omega) _ _ R1 _ HOA.out.rb (by omega)).mono ?_
        intro e wb hnb
        obtain ⟨ab, cb, rfl, hob, hbb⟩ := hnb.elim
        clear hnb
        replace y2 := cellExt hbb y2
        obtain ⟨R2, hR2⟩ : ∃ l, l = R1 ++ be 2 zn := ⟨_, rfl⟩
        have hRl2 : R2.length ≤ 1003 := by rw [hR2]; simp only [List.length_append, be_length]; omega
        rw [← hR2] at hob ⊢
        have HR2 := Lib.hid hR2
        have HOB := Lib.hid hob
        have HBB := Lib.hid (HBA.out.trans (hbb.mono HBA.out.size))
        have HVB := Lib.hid (SlE.ext HVA.out hbb)
        clear hob hbb hR2 y1
        have hpl : (mPack sm).length ≤ 130 := HPL2.out
        go_wp2_with fail
        refine (ppack_any _ va vc sm _ HVB.out (by omega)).mono ?_
        intro e wc hnb
        obtain ⟨ac, cc, rfl, hoc, hbc⟩ := hnb.elim
        clear hnb
        have HOC := Lib.hid hoc
        have HOB' := Lib.hid (HOB.out.ext hbc)
        have HBC := Lib.hid (HBB.out.trans (hbc.mono HBB.out.size))
        obtain ⟨M2, hM2⟩ : ∃ l, l = mPack sm := ⟨_, rfl⟩
        rw [← hM2] at hpl HOC ⊢
        have HMM2 := Lib.hid hM2
        clear hoc hbc hM2 y2
        go_wp2_with fail
        refine (blob_any _ _ _ _ R2 M2 _ HOB'.out.rb HOC.out.rb (by omega) (by omega)).mono ?_
        intro e wd hnb
        obtain ⟨ad, cd, rfl, hod, hbd⟩ := hnb.elim
        clear hnb
        obtain ⟨R3, hR3⟩ : ∃ l, l = R2 ++ be 2 M2.length ++ M2 := ⟨_, rfl⟩
        have hRl3 : R3.length ≤ R0.length + 135 := by rw [hR3, HR2.out, HR1.out]; simp only [List.length_append, be_length]; omega
        rw [← hR3] at hod ⊢
        have HOD := Lib.hid (hod.base_le (Nat.le_trans hsr HBC.out.size))
        have HBD := Lib.hid (HBC.out.trans (hbd.mono HBC.out.size))
        have HRE : Hid (P7 ++ (ss.take (k + 1)).flatMap snapB = R3) := Lib.hid (by
          rw [HF.out, ← List.append_assoc, ← HR0.out, hR3, HR2.out, HR1.out, HMM2.out]
          unfold snapB blobB
          simp only [List.append_assoc, Int.toNat_natCast])
        clear hod hbd hR3
        go_wp2
        go_roundw
        case rel => exact ⟨k + 1, by omega, by go_num, ⟨_, _, by rw [HRE.out]⟩, by rw [HRE.out]; exact HOD.out, by rw [HRE.out]; have := HLEN.out; omega, HBR.out.trans (HBD.out.mono HBR.out.size)⟩
        case measure => simp [intOf]; omega
      · obtain rfl : k = ss.length := by omega
        have HE : Hid (P7 ++ (ss.take ss.length).flatMap snapB = pkD ⟨(u : Nat), (c : Nat), (o : Nat), (z : Nat), m, ss, (la : Nat), (sq : Nat)⟩) := Lib.hid (by rw [HX.out, HSP.out, HPRE.out, List.take_length])
        clear ho hlen hbr
        go_wp2
        go_ret
        exact ⟨_, rfl, by rw [← HE.out]; exact HO.out, HBW.out.trans (HBR.out.mono HBW.out.size)⟩
end Go.Proofs.YtlekdfajcpmolaaGreatDoor
namespace Go.Proofs.YtlekdfajcpmolaaGreatDoor
open Go.RowKit Go.WideShapes

abbrev unD (l : List UInt8) : HeD × Int := unH okB ObNum l
def HunR (x : HeD × Int) (w : World) (e : Ending) (w' : World) : Prop := ∃ v, e = .returned (.tuple #[v, .int .i64 x.2]) ∧ HeV (fun b => w.heap.size ≤ b) w' v x.1 ∧ Below w.heap.size w w'
theorem unHN_is (l : List UInt8) : unHN l = ([((⟨l, 0⟩ : Rd).num 1).1, (((⟨l, 0⟩ : Rd).num 1).2.num 1).1, ((((⟨l, 0⟩ : Rd).num 1).2.num 1).2.num 1).1, (((((⟨l, 0⟩ : Rd).num 1).2.num 1).2.num 1).2.num 1).1, ((((((⟨l, 0⟩ : Rd).num 1).2.num 1).2.num 1).2.num 1).2.num 2).1, (((((((⟨l, 0⟩ : Rd).num 1).2.num 1).2.num 1).2.num 1).2.num 2).2.num 6).1], (((((((⟨l, 0⟩ : Rd).num 1).2.num 1).2.num 1).2.num 1).2.num 2).2.num 6).2) := rfl
theorem unHE_is (l : List UInt8) : unHE okB ObNum l = if (unHS l).2.fin.e ≠ 0 then (((unHS l).2.fin.e : Nat) : Int) else if mayD (unHP l) then (0 : Int) else 60 := by
  unfold unHE mayD
  rfl
theorem infoSnap : (Tryz.prog.info? 102).map (fun i => (i.zero, i.size, i.bytes)) = some (some (.agg #[.int .i64 0, .int .i64 0, .slice none 0 0]), 3, 40) := by kernel_rfl
theorem rdSnaps_go {n : Nat} {r : Rd} (h : r.e = 0) : rdSnaps (n + 1) r = ((rdSnap r).1 :: (rdSnaps n (rdSnap r).2).1, (rdSnaps n (rdSnap r).2).2) := if_pos h
theorem rdSnaps_halt {n : Nat} {r : Rd} (h : r.e ≠ 0) : rdSnaps n r = ([], r) := by
  cases n with
  | zero => rfl
  | succ n => exact if_neg h
theorem results_cell_h {P : Program} {fn : Func} {p u1 : Tmp} {ty : TypeId} (h : fn.results = #[.cell p ty, .tmp u1]) (tmps : Array Value) (w : World) (g : Nat) (t : TypeId) (cs : Array Value) (fr : Nat × Nat) (d : TypeDesc)
    (hp : tmps.getD p undef = .pointer (some ⟨g, 0, none⟩)) (hg : w.heap[g]? = some (.cells cs t fr))
    (hu : P.underlying ty = some d) (hd : (match d with | .struct _ | .array _ _ => true | _ => false) = true) (hi : (P.info? ty).map (·.size) = some cs.size) :
    (results fn tmps).run P w = .ok (.tuple #[.agg cs, tmps.getD u1 undef]) w := by
  have hp' : tmps[p]?.getD undef = .pointer (some ⟨g, 0, none⟩) := by simpa using hp
  simp [results, h, hp', asAddr, run_loadVar_row w g t ty cs fr d hg hu hd hi]
section
variable {w : World} {p : Nat} {t : TypeId} {a b c d e f g h a' b' c' d' e' f' g' h' : Value}
theorem isrd_set {A : Nat → Prop} {w : World} {p q j : Nat} {r : Rd} {x : Value} (h : IsRd A w p r) (hq : q ≠ p) (hA : ∀ b, A b → b ≠ q) : IsRd A (w.setCell ⟨q, j, none⟩ x) p r :=
  h.same (B := fun b => b ≠ q) ⟨by simp [World.setCell], fun b hb _ => Below.heap_setCell _ _ _ _ hb⟩ (fun e => hq e.symm) hA
abbrev set8 (w : World) (p : Nat) (a b c d e f g h : Value) : World := (((((((w.setCell ⟨p, 0, none⟩ a).setCell ⟨p, 1, none⟩ b).setCell ⟨p, 2, none⟩ c).setCell ⟨p, 3, none⟩ d).setCell ⟨p, 4, none⟩ e).setCell ⟨p, 5, none⟩ f).setCell ⟨p, 6, none⟩ g).setCell ⟨p, 7, none⟩ h
theorem set8_blk (k : w.heap[p]? = some (.cells #[a, b, c, d, e, f, g, h] t (0, 0))) : (set8 w p a' b' c' d' e' f' g' h').heap[p]? = some (.cells #[a', b', c', d', e', f', g', h'] t (0, 0)) := by
  unfold set8
  simp [World.setCell, Array.getElem?_modify, k]
theorem set8_ne {k : Nat} (hk : k ≠ p) : (set8 w p a' b' c' d' e' f' g' h').heap[k]? = w.heap[k]? := by
  unfold set8
  rw [Below.heap_setCell _ ⟨p, 7, none⟩ _ _ hk, Below.heap_setCell _ ⟨p, 6, none⟩ _ _ hk, Below.heap_setCell _ ⟨p, 5, none⟩ _ _ hk, Below.heap_setCell _ ⟨p, 4, none⟩ _ _ hk, Below.heap_setCell _ ⟨p, 3, none⟩ _ _ hk, Below.heap_setCell _ ⟨p, 2, none⟩ _ _ hk, Below.heap_setCell _ ⟨p, 1, none⟩ _ _ hk, Below.heap_setCell _ ⟨p, 0, none⟩ _ _ hk]
theorem set8_below {B : Nat} {w0 : World} (k : Below B w0 w) (hp : B ≤ p) : Below B w0 (set8 w p a' b' c' d' e' f' g' h') := by
  unfold set8
  have q : ∀ j, B ≤ (⟨p, j, none⟩ : Addr).block := fun _ => hp
  exact (((((((k.setCell (q 0) _).setCell (q 1) _).setCell (q 2) _).setCell (q 3) _).setCell (q 4) _).setCell (q 5) _).setCell (q 6) _).setCell (q 7) _
theorem set8_size : (set8 w p a' b' c' d' e' f' g' h').heap.size = w.heap.size := by unfold set8; simp [World.setCell]
end
theorem Rd.num_lt2 (r : Rd) : (r.num 1).1 < 256 := by have := Rd.num_lt r 1; simpa using this
/-- what the loop over snapshots knows -/
structure UnI (w : World) (s0 p ph B0 n : Nat) (hc : Value → Array Value) (m : List Int) (mv : Value) (Y : List SnD × Rd) (k : Nat) (wr : World) (r : Rd) (acc : List SnD) (sv : Value) : Prop where
  mk ::
  rd : IsRd (fun b => s0 ≤ b ∧ b < p) wr p r
  sm : r.small
  res : wr.heap[w.heap.size]? = some (.cells #[.int .i64 0, .int .i64 0, .int .i64 0, .int .i64 0, .slice none 0 0, .slice none 0 0, .int .i64 0, .int .i64 0] 27 (0, 0))
  hd : wr.heap[ph]? = some (.cells (hc sv) 27 (0, 0))
  mp : NI (ph + 1) wr mv m
  ml : ∀ g, mv.ownBlock = some g → g < B0
  row : EnR Enc.snap 102 B0 wr sv acc
  len : acc.length ≤ k
  maps : ∀ s ∈ acc, s.map.length ≤ 512
  y : Y = (acc ++ (rdSnaps (n - k) r).1, (rdSnaps (n - k) r).2)
  bl : Below w.heap.size w wr

set_option maxRecDepth 100000 in
set_option maxHeartbeats 16000000 in
theorem hunpack_any (A : Nat → Prop) (v : Value) (l : List UInt8) (w : World) (hv : RB A w v l) (hl : l.length ≤ 100000) : Calls Tryz.prog 54 #[v] w (HunR (unD l) w) := by
  obtain ⟨a0, c0, rfl⟩ := hv.shape
  have HV := Lib.hid hv
  obtain ⟨i0, hi, hz0, hz1, hz2⟩ := info_parts infoSnap
  clear hv
  have HU := Lib.hid (unHN_is l)
  have HUM : Hid (unHM l = rdMap (unHN l).2) := Lib.hid rfl
  have HUK : Hid (unHK l = (unHM l).2.num 1) := Lib.hid rfl
  have HUF : Hid (unHF l = if 4 < (unHK l).1 then (unHK l).2.fail 11 else (unHK l).2) := Lib.hid rfl
  have HUS : Hid (unHS l = rdSnaps (unHK l).1 (unHF l)) := Lib.hid rfl
  have HUP : Hid (unHP l = ⟨(unHN l).1.getD 0 0, (unHN l).1.getD 1 0, (unHN l).1.getD 2 0, (unHN l).1.getD 4 0, (unHM l).1, (unHS l).1, (unHN l).1.getD 3 0, (unHN l).1.getD 5 0⟩) := Lib.hid rfl
  have HUE : Hid (unHE okB ObNum l = if (unHS l).2.fin.e ≠ 0 then (((unHS l).2.fin.e : Nat) : Int) else if mayD (unHP l) then (0 : Int) else 60) := Lib.hid (unHE_is l)
  have HUD : Hid (unD l = if unHE okB ObNum l = 0 then (unHP l, 0) else (HeD.none, unHE okB ObNum l)) := Lib.hid rfl
  generalize unD l = UD at *
  generalize unHE okB ObNum l = UE at *
  generalize unHP l = UP at *
  generalize unHS l = US at *
  generalize unHF l = UF at *
  generalize unHK l = UK at *
  generalize unHM l = UM at *
  generalize unHN l = UN at *
  go_enter Tryz.func54, Tryz.ntmps54
  go_wp2_with fail
  obtain ⟨w0, hw0⟩ : ∃ w0, w0 = w.alloc (.cells #[.int .i64 0, .int .i64 0, .int .i64 0, .int .i64 0, .slice none 0 0, .slice none 0 0, .int .i64 0, .int .i64 0] 27) := ⟨_, rfl⟩
  rw [← hw0]
  have hb0 : Below w.heap.size w w0 := by rw [hw0]; ((repeat' (first | exact Below.refl _ _ | refine below_drewN ?_ _ | refine Below.drew ?_ | refine Below.alloc ?_ ?_ _ | refine Below.trans ?_ (Below.mono (by assumption) ?_))); all_goals (first | exact Nat.le_refl _ | exact Below.size (by assumption) | omega | (simp; done) | (simp; omega)))
  have R0 := Lib.hid (show w0.heap[w.heap.size]? = some (.cells #[.int .i64 0, .int .i64 0, .int .i64 0, .int .i64 0, .slice none 0 0, .slice none 0 0, .int .i64 0, .int .i64 0] 27 (0, 0)) from by rw [hw0]; exact heap_alloc_new _ _)
  have hs0 : w.heap.size < w0.heap.size := by rw [hw0]; simp
  refine (read_any A _ l _ (HV.out.ext hb0) hl).mono ?_
  rintro e w1 ⟨p, rfl, hr1, hp1, hb1⟩
  have RD := Lib.hid hr1
  have RR := Lib.hid (blk19 hb1 R0.out)
  have HB := Lib.hid (call19 hb0 hb1)
  have HSM : Hid (Rd.small ⟨l, 0⟩) := Lib.hid ⟨hl, (by show (0 : Nat) < 1000; decide)⟩
  have hpw : p < w1.heap.size := hr1.lt
  clear hw0 hb0 R0 hr1 hb1 HV
  generalize w0.heap.size = s0 at *
  go_upto_region 3 with fail
  obtain ⟨w2, hw2⟩ : ∃ w2, w2 = w1.alloc (.cells #[.int .i64 0, .int .i64 0, .int .i64 0, .int .i64 0, .slice none 0 0, .slice none 0 0, .int .i64 0, .int .i64 0] 27) := ⟨_, rfl⟩
  rw [← hw2]
  have hb2 : Below w1.heap.size w1 w2 := by rw [hw2]; ((repeat' (first | exact Below.refl _ _ | refine below_drewN ?_ _ | refine Below.drew ?_ | refine Below.alloc ?_ ?_ _ | refine Below.trans ?_ (Below.mono (by assumption) ?_))); all_goals (first | exact Nat.le_refl _ | exact Below.size (by assumption) | omega | (simp; done) | (simp; omega)))
  obtain ⟨ph, hph⟩ : ∃ ph, ph = w1.heap.size := ⟨_, rfl⟩
  have H0 := Lib.hid (show w2.heap[ph]? = some (.cells #[.int .i64 0, .int .i64 0, .int .i64 0, .int .i64 0, .slice none 0 0, .slice none 0 0, .int .i64 0, .int .i64 0] 27 (0, 0)) from by rw [hw2, hph]; exact heap_alloc_new _ _)
  have RD0 := Lib.hid (RD.out.ext hb2)
  have RR0 := Lib.hid (blk19 hb2 RR.out)
  have HB0 := Lib.hid (call19 HB.out hb2)
  have hs2 : ph < w2.heap.size := by rw [hw2, hph]; simp
  rw [← hph]
  have hpp : p < ph := by omega
  have hwp : w.heap.size < ph := by have := HB.out.size; omega
  have HSM0 := Lib.hid HSM.out
  clear hw2 hb2 RD RR HB HSM hph

  go_wp2_with fail
  refine (rnum_any _ p 1 ⟨l, 0⟩ _ RD0.out (by omega) (by omega) HSM0.out.len HSM0.out.err).mono ?_
  rintro e w3 ⟨rfl, hr, hf⟩
  have HSM1 := Lib.hid (HSM0.out.num 1)
  generalize (⟨l, 0⟩ : Rd).num 1 = X at *
  obtain ⟨x0, r0⟩ := X
  simp only at hr HSM1 HU ⊢
  have H1 := Lib.hid ((hf.block ph (by omega) (by omega)).trans H0.out)
  have RR1 := Lib.hid ((hf.block _ (by omega) (by omega)).trans RR0.out)
  have HB1 := Lib.hid (HB0.out.trans (hf.below HB0.out.size fun j hj h => by omega))
  have RD1 := Lib.hid hr
  have hs3 : ph < w3.heap.size := by have := hf.size; omega
  clear hr hf H0 RR0 HB0 RD0 HSM0 hs2
  go_wp2_with fail
  refine (rnum_any _ p 1 r0 _ RD1.out (by omega) (by omega) HSM1.out.len HSM1.out.err).mono ?_
  rintro e w4 ⟨rfl, hr, hf⟩
  have HSM2 := Lib.hid (HSM1.out.num 1)
  generalize (r0 : Rd).num 1 = X at *
  obtain ⟨x1, r1⟩ := X
  simp only at hr HSM2 HU ⊢
  have H2 := Lib.hid ((hf.block ph (by omega) (by omega)).trans H1.out)
  have RR2 := Lib.hid ((hf.block _ (by omega) (by omega)).trans RR1.out)
  have HB2 := Lib.hid (HB1.out.trans (hf.below HB1.out.size fun j hj h => by omega))
  have RD2 := Lib.hid hr
  have hs4 : ph < w4.heap.size := by have := hf.size; omega
  clear hr hf H1 RR1 HB1 RD1 HSM1 hs3
  go_wp2_with fail
  refine (rnum_any _ p 1 r1 _ RD2.out (by omega) (by omega) HSM2.out.len HSM2.out.err).mono ?_
  rintro e w5 ⟨rfl, hr, hf⟩
  have HSM3 := Lib.hid (HSM2.out.num 1)
  generalize (r1 : Rd).num 1 = X at *
  obtain ⟨x2, r2⟩ := X
  simp only at hr HSM3 HU ⊢
  have H3 := Lib.hid ((hf.block ph (by omega) (by omega)).trans H2.out)
  have RR3 := Lib.hid ((hf.block _ (by omega) (by omega)).trans RR2.out)
  have HB3 := Lib.hid (HB2.out.trans (hf.below HB2.out.size fun j hj h => by omega))
  have RD3 := Lib.hid hr
  have hs5 : ph < w5.heap.size := by have := hf.size; omega
  clear hr hf H2 RR2 HB2 RD2 HSM2 hs4
  obtain ⟨y0, g0⟩ := blk_cell (i := 0) H3.out
  obtain ⟨y1, g1⟩ := blk_cell (i := 1) H3.out
  obtain ⟨y2, g2⟩ := blk_cell (i := 2) H3.out
  simp at y0 y1 y2
  go_upto_region 4 with fail
  obtain ⟨w6, hwz⟩ : ∃ wz, wz = (((w5).setCell ⟨ph, 0, none⟩ (.int .i64 (x0 : Nat))).setCell ⟨ph, 1, none⟩ (.int .i64 (x1 : Nat))).setCell ⟨ph, 2, none⟩ (.int .i64 (x2 : Nat)) := ⟨_, rfl⟩
  rw [← hwz]
  have HZ3 := Lib.hid (show w6.heap[ph]? = some (.cells #[.int .i64 (x0 : Nat), .int .i64 (x1 : Nat), .int .i64 (x2 : Nat), .int .i64 0, .slice none 0 0, .slice none 0 0, .int .i64 0, .int .i64 0] 27 (0, 0)) from by rw [hwz]; simp [World.setCell, Array.getElem?_modify, H3.out])
  have hne : ∀ b, b ≠ ph → w6.heap[b]? = w5.heap[b]? := fun b hb => by
    rw [hwz]
    simp only [Below.heap_setCell _ ⟨ph, 2, none⟩ _ _ hb, Below.heap_setCell _ ⟨ph, 1, none⟩ _ _ hb, Below.heap_setCell _ ⟨ph, 0, none⟩ _ _ hb]
  have hzs : w6.heap.size = w5.heap.size := by rw [hwz]; simp [World.setCell]
  have RDz := Lib.hid (RD3.out.same (w' := w6) (B := fun b => b ≠ ph) ⟨by omega, fun b hb _ => hne b hb⟩ (by omega) (fun b hb => by omega))
  have RRz := Lib.hid ((hne _ (by omega)).trans RR3.out)
  have HBz : Hid (Below w.heap.size w w6) := Lib.hid (HB3.out.trans ⟨by rw [hwz]; rfl, by rw [hwz]; rfl, by rw [hwz]; rfl, by omega, fun b hb => hne b (by omega)⟩)
  have hsz : ph < w6.heap.size := by omega
  clear hwz hne hzs H3 RR3 HB3 RD3 y0 y1 y2 g0 g1 g2 hs5
  have H3 := Lib.hid HZ3.out
  have RD3 := Lib.hid RDz.out
  have RR3 := Lib.hid RRz.out
  have HB3 := Lib.hid HBz.out
  have hs5 := hsz
  clear HZ3 RDz RRz HBz hsz
  go_wp2_with fail
  refine (rnum_any _ p 1 r2 _ RD3.out (by omega) (by omega) HSM3.out.len HSM3.out.err).mono ?_
  rintro e w7 ⟨rfl, hr, hf⟩
  have HSM4 := Lib.hid (HSM3.out.num 1)
  generalize (r2 : Rd).num 1 = X at *
  obtain ⟨x3, r3⟩ := X
  simp only at hr HSM4 HU ⊢
  have H4 := Lib.hid ((hf.block ph (by omega) (by omega)).trans H3.out)
  have RR4 := Lib.hid ((hf.block _ (by omega) (by omega)).trans RR3.out)
  have HB4 := Lib.hid (HB3.out.trans (hf.below HB3.out.size fun j hj h => by omega))
  have RD4 := Lib.hid hr
  have hs6 : ph < w7.heap.size := by have := hf.size; omega
  clear hr hf H3 RR3 HB3 RD3 HSM3 hs5
  obtain ⟨y0, g0⟩ := blk_cell (i := 6) H4.out
  simp at y0
  go_upto_region 5 with fail
  obtain ⟨w8, hwz⟩ : ∃ wz, wz = (w7).setCell ⟨ph, 6, none⟩ (.int .i64 (x3 : Nat)) := ⟨_, rfl⟩
  rw [← hwz]
  have HZ4 := Lib.hid (show w8.heap[ph]? = some (.cells #[.int .i64 (x0 : Nat), .int .i64 (x1 : Nat), .int .i64 (x2 : Nat), .int .i64 0, .slice none 0 0, .slice none 0 0, .int .i64 (x3 : Nat), .int .i64 0] 27 (0, 0)) from by rw [hwz]; simp [World.setCell, Array.getElem?_modify, H4.out])
  have hne : ∀ b, b ≠ ph → w8.heap[b]? = w7.heap[b]? := fun b hb => by
    rw [hwz]
    simp only [Below.heap_setCell _ ⟨ph, 6, none⟩ _ _ hb]
  have hzs : w8.heap.size = w7.heap.size := by rw [hwz]; simp [World.setCell]
  have RDz := Lib.hid (RD4.out.same (w' := w8) (B := fun b => b ≠ ph) ⟨by omega, fun b hb _ => hne b hb⟩ (by omega) (fun b hb => by omega))
  have RRz := Lib.hid ((hne _ (by omega)).trans RR4.out)
  have HBz : Hid (Below w.heap.size w w8) := Lib.hid (HB4.out.trans ⟨by rw [hwz]; rfl, by rw [hwz]; rfl, by rw [hwz]; rfl, by omega, fun b hb => hne b (by omega)⟩)
  have hsz : ph < w8.heap.size := by omega
  clear hwz hne hzs H4 RR4 HB4 RD4 y0 g0 hs6
  have H4 := Lib.hid HZ4.out
  have RD4 := Lib.hid RDz.out
  have RR4 := Lib.hid RRz.out
  have HB4 := Lib.hid HBz.out
  have hs6 := hsz
  clear HZ4 RDz RRz HBz hsz
  go_wp2_with fail
  refine (rnum_any _ p 2 r3 _ RD4.out (by omega) (by omega) HSM4.out.len HSM4.out.err).mono ?_
  rintro e w9 ⟨rfl, hr, hf⟩
  have HSM5 := Lib.hid (HSM4.out.num 2)
  generalize (r3 : Rd).num 2 = X at *
  obtain ⟨x4, r4⟩ := X
  simp only at hr HSM5 HU ⊢
  have H5 := Lib.hid ((hf.block ph (by omega) (by omega)).trans H4.out)
  have RR5 := Lib.hid ((hf.block _ (by omega) (by omega)).trans RR4.out)
  have HB5 := Lib.hid (HB4.out.trans (hf.below HB4.out.size fun j hj h => by omega))
  have RD5 := Lib.hid hr
  have hs7 : ph < w9.heap.size := by have := hf.size; omega
  clear hr hf H4 RR4 HB4 RD4 HSM4 hs6
  obtain ⟨y0, g0⟩ := blk_cell (i := 3) H5.out
  simp at y0
  go_upto_region 6 with fail
  obtain ⟨w10, hwz⟩ : ∃ wz, wz = (w9).setCell ⟨ph, 3, none⟩ (.int .i64 (x4 : Nat)) := ⟨_, rfl⟩
  rw [← hwz]
  have HZ5 := Lib.hid (show w10.heap[ph]? = some (.cells #[.int .i64 (x0 : Nat), .int .i64 (x1 : Nat), .int .i64 (x2 : Nat), .int .i64 (x4 : Nat), .slice none 0 0, .slice none 0 0, .int .i64 (x3 : Nat), .int .i64 0] 27 (0, 0)) from by rw [hwz]; simp [World.setCell, Array.getElem?_modify, H5.out])
  have hne : ∀ b, b ≠ ph → w10.heap[b]? = w9.heap[b]? := fun b hb => by
    rw [hwz]
    simp only [Below.heap_setCell _ ⟨ph, 3, none⟩ _ _ hb]
  have hzs : w10.heap.size = w9.heap.size := by rw [hwz]; simp [World.setCell]
  have RDz := Lib.hid (RD5.out.same (w' := w10) (B := fun b => b ≠ ph) ⟨by omega, fun b hb _ => hne b hb⟩ (by omega) (fun b hb => by omega))
  have RRz := Lib.hid ((hne _ (by omega)).trans RR5.out)
  have HBz : Hid (Below w.heap.size w w10) := Lib.hid (HB5.out.trans ⟨by rw [hwz]; rfl, by rw [hwz]; rfl, by rw [hwz]; rfl, by omega, fun b hb => hne b (by omega)⟩)
  have hsz : ph < w10.heap.size := by omega
  clear hwz hne hzs H5 RR5 HB5 RD5 y0 g0 hs7
  have H5 := Lib.hid HZ5.out
  have RD5 := Lib.hid RDz.out
  have RR5 := Lib.hid RRz.out
  have HB5 := Lib.hid HBz.out
  have hs7 := hsz
  clear HZ5 RDz RRz HBz hsz
  go_wp2_with fail
  refine (rnum_any _ p 6 r4 _ RD5.out (by omega) (by omega) HSM5.out.len HSM5.out.err).mono ?_
  rintro e w11 ⟨rfl, hr, hf⟩
  have HSM6 := Lib.hid (HSM5.out.num 6)
  generalize (r4 : Rd).num 6 = X at *
  obtain ⟨x5, r5⟩ := X
  simp only at hr HSM6 HU ⊢
  have H6 := Lib.hid ((hf.block ph (by omega) (by omega)).trans H5.out)
  have RR6 := Lib.hid ((hf.block _ (by omega) (by omega)).trans RR5.out)
  have HB6 := Lib.hid (HB5.out.trans (hf.below HB5.out.size fun j hj h => by omega))
  have RD6 := Lib.hid hr
  have hs8 : ph < w11.heap.size := by have := hf.size; omega
  clear hr hf H5 RR5 HB5 RD5 HSM5 hs7
  obtain ⟨y0, g0⟩ := blk_cell (i := 7) H6.out
  simp at y0
  go_upto_region 7 with fail
  obtain ⟨w12, hwz⟩ : ∃ wz, wz = (w11).setCell ⟨ph, 7, none⟩ (.int .i64 (x5 : Nat)) := ⟨_, rfl⟩
  rw [← hwz]
  have HZ6 := Lib.hid (show w12.heap[ph]? = some (.cells #[.int .i64 (x0 : Nat), .int .i64 (x1 : Nat), .int .i64 (x2 : Nat), .int .i64 (x4 : Nat), .slice none 0 0, .slice none 0 0, .int .i64 (x3 : Nat), .int .i64 (x5 : Nat)] 27 (0, 0)) from by rw [hwz]; simp [World.setCell, Array.getElem?_modify, H6.out])
  have hne : ∀ b, b ≠ ph → w12.heap[b]? = w11.heap[b]? := fun b hb => by
    rw [hwz]
    simp only [Below.heap_setCell _ ⟨ph, 7, none⟩ _ _ hb]
  have hzs : w12.heap.size = w11.heap.size := by rw [hwz]; simp [World.setCell]
  have RDz := Lib.hid (RD6.out.same (w' := w12) (B := fun b => b ≠ ph) ⟨by omega, fun b hb _ => hne b hb⟩ (by omega) (fun b hb => by omega))
  have RRz := Lib.hid ((hne _ (by omega)).trans RR6.out)
  have HBz : Hid (Below w.heap.size w w12) := Lib.hid (HB6.out.trans ⟨by rw [hwz]; rfl, by rw [hwz]; rfl, by rw [hwz]; rfl, by omega, fun b hb => hne b (by omega)⟩)
  have hsz : ph < w12.heap.size := by omega
  clear hwz hne hzs H6 RR6 HB6 RD6 y0 g0 hs8
  have H6 := Lib.hid HZ6.out
  have RD6 := Lib.hid RDz.out
  have RR6 := Lib.hid RRz.out
  have HB6 := Lib.hid HBz.out
  have hs8 := hsz
  clear HZ6 RDz RRz HBz hsz
  have HM0 : Hid (UM = rdMap r5) := Lib.hid (by rw [HUM.out, HU.out])
  have HTS := Lib.hid (rdMap_small HSM6.out)
  go_wp2_with fail
  refine (htable_any _ p r5 _ RD6.out HSM6.out (fun b hb => by omega)).mono ?_
  rintro e w13 ⟨mv, rfl, hn, hr, hf⟩
  obtain ⟨ma, mc, rfl⟩ := hn.shape
  rw [← HM0.out] at hn hr HTS ⊢
  obtain ⟨m, r6⟩ := UM
  simp only at hn hr HTS HUP HUK ⊢
  have HSM7 := Lib.hid HTS.out.1
  have hml := HTS.out.2
  have H7 := Lib.hid ((hf.block ph (by omega) (by omega)).trans H6.out)
  have RR7 := Lib.hid ((hf.block _ (by omega) (by omega)).trans RR6.out)
  have HB7 := Lib.hid (HB6.out.trans (hf.below HB6.out.size fun j hj h => by omega))
  have RD7 := Lib.hid hr
  have hs9 : ph < w13.heap.size := by have := hf.size; omega
  have HN7 := Lib.hid (hn.base_le (base' := ph + 1) (by omega))
  clear hr hf hn H6 RR6 HB6 RD6 HSM6 hs8 HM0 HTS HUM
  obtain ⟨y0, g0⟩ := blk_cell (i := 4) H7.out
  simp at y0
  go_upto_region 8 with fail
  obtain ⟨w14, hwz⟩ : ∃ wz, wz = (w13).setCell ⟨ph, 4, none⟩ (.slice ma m.length mc) := ⟨_, rfl⟩
  rw [← hwz]
  have HZ7 := Lib.hid (show w14.heap[ph]? = some (.cells #[.int .i64 (x0 : Nat), .int .i64 (x1 : Nat), .int .i64 (x2 : Nat), .int .i64 (x4 : Nat), .slice ma m.length mc, .slice none 0 0, .int .i64 (x3 : Nat), .int .i64 (x5 : Nat)] 27 (0, 0)) from by rw [hwz]; simp [World.setCell, Array.getElem?_modify, H7.out])
  have hne : ∀ b, b ≠ ph → w14.heap[b]? = w13.heap[b]? := fun b hb => by
    rw [hwz]
    simp only [Below.heap_setCell _ ⟨ph, 4, none⟩ _ _ hb]
  have hzs : w14.heap.size = w13.heap.size := by rw [hwz]; simp [World.setCell]
  have RDz := Lib.hid (RD7.out.same (w' := w14) (B := fun b => b ≠ ph) ⟨by omega, fun b hb _ => hne b hb⟩ (by omega) (fun b hb => by omega))
  have RRz := Lib.hid ((hne _ (by omega)).trans RR7.out)
  have HBz : Hid (Below w.heap.size w w14) := Lib.hid (HB7.out.trans ⟨by rw [hwz]; rfl, by rw [hwz]; rfl, by rw [hwz]; rfl, by omega, fun b hb => hne b (by omega)⟩)
  have hsz : ph < w14.heap.size := by omega
  have HNz := Lib.hid (HN7.out.same (w' := w14) fun g hg => hne g (by have := (HN7.out.lt g hg).1; omega))
  clear HN7
  have HN7 := Lib.hid HNz.out
  clear HNz
  clear hwz hne hzs H7 RR7 HB7 RD7 y0 g0 hs9
  have H7 := Lib.hid HZ7.out
  have RD7 := Lib.hid RDz.out
  have RR7 := Lib.hid RRz.out
  have HB7 := Lib.hid HBz.out
  have hs9 := hsz
  clear HZ7 RDz RRz HBz hsz
  have hnl : (r6.num 1).1 < 256 := Rd.num_lt2 r6
  go_wp2_with fail
  refine (rnum_any _ p 1 r6 _ RD7.out (by omega) (by omega) HSM7.out.len HSM7.out.err).mono ?_
  rintro e w15 ⟨rfl, hr, hf⟩
  have HSM8 := Lib.hid (HSM7.out.num 1)
  rw [← HUK.out] at hr HSM8 hnl ⊢
  obtain ⟨n, rn⟩ := UK
  simp only at hr HSM8 hnl HUF HUS ⊢
  have H8 := Lib.hid ((hf.block ph (by omega) (by omega)).trans H7.out)
  have RR8 := Lib.hid ((hf.block _ (by omega) (by omega)).trans RR7.out)
  have HB8 := Lib.hid (HB7.out.trans (hf.below HB7.out.size fun j hj h => by omega))
  have RD8 := Lib.hid hr
  have HN8 := Lib.hid (HN7.out.same (w' := w15) fun g hg => hf.block g (HN7.out.lt g hg).2 (by have := (HN7.out.lt g hg).1; omega))
  have hs10 : ph < w15.heap.size := by have := hf.size; omega
  clear hr hf H7 RR7 HB7 RD7 HSM7 hs9 HN7 HUK
  go_upto_if 42 with fail
  go_cut [6] (fun s6 wx => s6 = .int .i64 (n : Nat) ∧ IsRd (fun b => s0 ≤ b ∧ b < p) wx p UF ∧ UF.small ∧ wx.heap[w.heap.size]? = some (.cells #[.int .i64 0, .int .i64 0, .int .i64 0, .int .i64 0, .slice none 0 0, .slice none 0 0, .int .i64 0, .int .i64 0] 27 (0, 0)) ∧ wx.heap[ph]? = some (.cells #[.int .i64 (x0 : Nat), .int .i64 (x1 : Nat), .int .i64 (x2 : Nat), .int .i64 (x4 : Nat), .slice ma m.length mc, .slice none 0 0, .int .i64 (x3 : Nat), .int .i64 (x5 : Nat)] 27 (0, 0)) ∧ NI (ph + 1) wx (.slice ma m.length mc) m ∧ Below w.heap.size w wx)
  case first =>
    by_cases h4 : 4 < n
    · have h4' : (4 : Int) < n := by omega
      have HCC : Hid (UF = rn.fail 11) := Lib.hid (by rw [HUF.out, if_pos h4])
      clear h4
      go_wp2_with fail
      refine (fail_any _ p rn 11 _ RD8.out (by omega) HSM8.out.err).mono ?_
      rintro e w16 ⟨rfl, hr, hf⟩
      go_wp2_with fail
      go_meet
      exact ⟨rfl, by rw [HCC.out]; exact hr, by rw [HCC.out]; exact HSM8.out.fail (by decide), (hf.block _ (by omega) (by omega)).trans RR8.out, (hf.block _ (by omega) (by omega)).trans H8.out, HN8.out.same fun g hg => hf.block g (HN8.out.lt g hg).2 (by have := (HN8.out.lt g hg).1; omega), HB8.out.trans (hf.below HB8.out.size fun j hj h => by omega)⟩
    · have h4' : ¬ (4 : Int) < n := by omega
      have HCC : Hid (UF = rn) := Lib.hid (by rw [HUF.out, if_neg h4])
      clear h4
      go_wp2_with fail
      go_meet
      exact ⟨rfl, by rw [HCC.out]; exact RD8.out, by rw [HCC.out]; exact HSM8.out, RR8.out, H8.out, HN8.out, HB8.out⟩
  case rest =>
    obtain ⟨rfl, hR, hS, hRR, hH, hNN, hB⟩ := hcut
    have hpc : ph < wc.heap.size := (Array.getElem?_eq_some_iff.1 hH).1
    obtain ⟨B0, hB0⟩ : ∃ B0, B0 = wc.heap.size := ⟨_, rfl⟩
    have HI0 : Hid (UnI w s0 p ph B0 n (fun sv => #[.int .i64 (x0 : Nat), .int .i64 (x1 : Nat), .int .i64 (x2 : Nat), .int .i64 (x4 : Nat), .slice ma m.length mc, sv, .int .i64 (x3 : Nat), .int .i64 (x5 : Nat)]) m (.slice ma m.length mc) US 0 wc UF [] (.slice none 0 0)) := Lib.hid ⟨hR, hS, hRR, hH, hNN, (fun g hg => by rw [hB0]; exact (hNN.lt g hg).2), EnR.nil _ _ _ _, Nat.zero_le _, (fun s hs => by cases hs), by rw [HUS.out]; rfl, hB⟩
    have hB0p : ph < B0 := by omega
    have HB0s : Hid (B0 ≤ wc.heap.size) := Lib.hid (by omega)
    clear hR hS hRR hH hNN hB RD8 RR8 H8 HB8 HSM8 HN8 HUF HUS hB0
    go_wp2
    go_loopw [46] (fun q wr => ∃ k : Nat, k ≤ n ∧ q = .int .i64 k ∧ ∃ (r : Rd) (acc : List SnD) (sv : Value), UnI w s0 p ph B0 n (fun sv => #[.int .i64 (x0 : Nat), .int .i64 (x1 : Nat), .int .i64 (x2 : Nat), .int .i64 (x4 : Nat), .slice ma m.length mc, sv, .int .i64 (x3 : Nat), .int .i64 (x5 : Nat)]) m (.slice ma m.length mc) US k wr r acc sv ∧ B0 ≤ wr.heap.size) (fun q _ => n - (intOf q).toNat)
    case atStart => exact ⟨0, Nat.zero_le _, rfl, UF, [], _, HI0.out, HB0s.out⟩
    case round =>
      obtain ⟨k, hk, rfl, r, acc, sv, hI, hBr⟩ := hrel
      obtain ⟨sa, sc, rfl⟩ := hI.row.shape
      have HI := Lib.hid hI
      have hpr : ph < wr.heap.size := by omega
      clear hI HI0

      by_cases hlt : k < n
      · go_wp2_with fail
        refine (err_any _ p r _ HI.out.rd).mono ?_
        rintro e wq ⟨rfl, rfl⟩
        by_cases h0 : r.e = 0
        · have H0 := Lib.hid h0
          have t0 : ((r.e : Int) != 0) = false := by simp [h0]
          have t1 : ((r.e : Int) == 0) = true := by simp [h0]
          clear h0
          go_upto_region 15 with fail
          obtain ⟨wy, hwy⟩ : ∃ wy, wy = wr.alloc (.cells #[.int .i64 0, .int .i64 0, .slice none 0 0] 102) := ⟨_, rfl⟩
          rw [← hwy]
          have hby : Below wr.heap.size wr wy := by rw [hwy]; ((repeat' (first | exact Below.refl _ _ | refine below_drewN ?_ _ | refine Below.drew ?_ | refine Below.alloc ?_ ?_ _ | refine Below.trans ?_ (Below.mono (by assumption) ?_))); all_goals (first | exact Nat.le_refl _ | exact Below.size (by assumption) | omega | (simp; done) | (simp; omega)))
          obtain ⟨ps, hps⟩ : ∃ ps, ps = wr.heap.size := ⟨_, rfl⟩
          have S0 := Lib.hid (show wy.heap[ps]? = some (.cells #[.int .i64 0, .int .i64 0, .slice none 0 0] 102 (0, 0)) from by rw [hwy, hps]; exact heap_alloc_new _ _)
          have RDa := Lib.hid (HI.out.rd.ext hby)
          have HF : Hid (Fr (fun k => k = p) wr wy) := Lib.hid (Fr.ext hby)
          have hpl : ps < wy.heap.size := by rw [hwy, hps]; simp
          have HPS := Lib.hid hps
          have HRS : Hid (rdSnap r = (⟨(r.num 1).1, ((r.num 1).2.num 2).1, (rdMap ((r.num 1).2.num 2).2).1⟩, (rdMap ((r.num 1).2.num 2).2).2)) := Lib.hid rfl
          have HSMr := Lib.hid HI.out.sm
          rw [← hps] at hpr ⊢
          have hB0s : B0 ≤ ps := by omega
          clear hwy hby hps hBr
          go_wp2_with fail
          refine (rnum_any _ p 1 r _ RDa.out (by omega) (by omega) HSMr.out.len HSMr.out.err).mono ?_
          rintro e wa ⟨rfl, hr, hf⟩
          have HSMa := Lib.hid (HSMr.out.num 1)
          generalize r.num 1 = X at *
          obtain ⟨q0, ra⟩ := X
          simp only at hr HSMa HRS ⊢
          have Sa := Lib.hid ((hf.block ps (by omega) (by omega)).trans S0.out)
          have HFa := Lib.hid (HF.out.trans hf fun _ _ h => h)
          have RDb := Lib.hid hr
          have hpla : ps < wa.heap.size := by have := hf.size; omega
          clear hr hf S0 HF RDa hpl
          obtain ⟨y0, g0⟩ := blk_cell (i := 0) Sa.out
          simp at y0
          go_upto_region 16 with fail
          obtain ⟨wb, hwz⟩ : ∃ wz, wz = wa.setCell ⟨ps, 0, none⟩ (.int .i64 (q0 : Nat)) := ⟨_, rfl⟩
          rw [← hwz]
          have Sb := Lib.hid (show wb.heap[ps]? = some (.cells #[.int .i64 (q0 : Nat), .int .i64 0, .slice none 0 0] 102 (0, 0)) from by rw [hwz]; simp [World.setCell, Array.getElem?_modify, Sa.out])
          have HFb : Hid (Fr (fun k => k = p) wr wb) := Lib.hid (by rw [hwz]; exact HFa.out.setCell (a := ⟨ps, 0, none⟩) (fun h => absurd h (by have := HPS.out; simp only; omega)) _)
          have RDc : Hid (IsRd (fun b => s0 ≤ b ∧ b < p) wb p ra) := Lib.hid (by rw [hwz]; exact isrd_set RDb.out (by omega) (fun b hb => by omega))
          have hplb : ps < wb.heap.size := by rw [hwz]; simpa [World.setCell] using hpla
          clear hwz Sa HFa RDb hpla y0 g0
          go_wp2_with fail
          refine (rnum_any _ p 2 ra _ RDc.out (by omega) (by omega) HSMa.out.len HSMa.out.err).mono ?_
          rintro e wc2 ⟨rfl, hr, hf⟩
          have HSMb := Lib.hid (HSMa.out.num 2)
          generalize ra.num 2 = X at *
          obtain ⟨q1, rb⟩ := X
          simp only at hr HSMb HRS ⊢
          have Sc := Lib.hid ((hf.block ps (by omega) (by omega)).trans Sb.out)
          have HFc := Lib.hid (HFb.out.trans hf fun _ _ h => h)
          have RDd := Lib.hid hr
          have hplc : ps < wc2.heap.size := by have := hf.size; omega
          clear hr hf Sb HFb RDc hplb
          obtain ⟨y1, g1⟩ := blk_cell (i := 1) Sc.out
          simp at y1
          go_upto_region 17 with fail
          obtain ⟨wd, hwz⟩ : ∃ wz, wz = wc2.setCell ⟨ps, 1, none⟩ (.int .i64 (q1 : Nat)) := ⟨_, rfl⟩
          rw [← hwz]
          have Sd := Lib.hid (show wd.heap[ps]? = some (.cells #[.int .i64 (q0 : Nat), .int .i64 (q1 : Nat), .slice none 0 0] 102 (0, 0)) from by rw [hwz]; simp [World.setCell, Array.getElem?_modify, Sc.out])
          have HFd : Hid (Fr (fun k => k = p) wr wd) := Lib.hid (by rw [hwz]; exact HFc.out.setCell (a := ⟨ps, 1, none⟩) (fun h => absurd h (by have := HPS.out; simp only; omega)) _)
          have RDe : Hid (IsRd (fun b => s0 ≤ b ∧ b < p) wd p rb) := Lib.hid (by rw [hwz]; exact isrd_set RDd.out (by omega) (fun b hb => by omega))
          have hpld : ps < wd.heap.size := by rw [hwz]; simpa [World.setCell] using hplc
          clear hwz Sc HFc RDd hplc y1 g1
          have HTS2 := Lib.hid (rdMap_small HSMb.out)
          go_wp2_with fail
          refine (htable_any _ p rb _ RDe.out HSMb.out (fun b hb => by omega)).mono ?_
          rintro e we ⟨tv, rfl, hn, hr, hf⟩
          obtain ⟨ta, tc, rfl⟩ := hn.shape
          generalize rdMap rb = X at *
          obtain ⟨tm, rc⟩ := X
          simp only at hn hr HTS2 HRS ⊢
          have HSMc := Lib.hid HTS2.out.1
          have htl := HTS2.out.2
          have Se := Lib.hid ((hf.block ps (by omega) (by omega)).trans Sd.out)
          have HFe := Lib.hid (HFd.out.trans hf fun _ _ h => h)
          have RDf := Lib.hid hr
          have HNt := Lib.hid (hn.base_le (base' := ps + 1) (by omega))
          have hple : ps < we.heap.size := by have := hf.size; omega
          clear hr hf hn Sd HFd RDe hpld HTS2
          obtain ⟨y2, g2⟩ := blk_cell (i := 2) Se.out
          simp at y2
          go_upto_region 18 with fail
          obtain ⟨wf, hwz⟩ : ∃ wz, wz = we.setCell ⟨ps, 2, none⟩ (.slice ta tm.length tc) := ⟨_, rfl⟩
          rw [← hwz]
          have Sf := Lib.hid (show wf.heap[ps]? = some (.cells #[.int .i64 (q0 : Nat), .int .i64 (q1 : Nat), .slice ta tm.length tc] 102 (0, 0)) from by rw [hwz]; simp [World.setCell, Array.getElem?_modify, Se.out])
          have HFf : Hid (Fr (fun k => k = p) wr wf) := Lib.hid (by rw [hwz]; exact HFe.out.setCell (a := ⟨ps, 2, none⟩) (fun h => absurd h (by have := HPS.out; simp only; omega)) _)
          have RDg : Hid (IsRd (fun b => s0 ≤ b ∧ b < p) wf p rc) := Lib.hid (by rw [hwz]; exact isrd_set RDf.out (by omega) (fun b hb => by omega))
          have HNf : Hid (NI (ps + 1) wf (.slice ta tm.length tc) tm) := Lib.hid (HNt.out.same fun g hg => by rw [hwz]; exact Below.heap_setCell _ _ _ _ (by have := (HNt.out.lt g hg).1; show g ≠ ps; omega))
          have hplf : ps < wf.heap.size := by rw [hwz]; simpa [World.setCell] using hple
          clear hwz Se HFe RDf hple y2 g2 HNt
          have hpt2 : ph < wr.heap.size := by have := HPS.out; omega
          have Tq := Lib.hid ((HFf.out.block ph hpt2 (by omega)).trans HI.out.hd)
          obtain ⟨y0, g0⟩ := blk_cell (i := 0) Sf.out
          obtain ⟨y1, g1⟩ := blk_cell (i := 1) Sf.out
          obtain ⟨y2, g2⟩ := blk_cell (i := 2) Sf.out
          obtain ⟨y5, g5⟩ := blk_cell (i := 5) Tq.out
          simp at y0 y1 y2 y5
          have EQ := Lib.hid (HI.out.row.same2 ⟨HFf.out.size, fun b hb hl => HFf.out.block b hl (by omega)⟩)
          have hpq : ph < wf.heap.size := by omega
          have hacl : acc.length ≤ 256 := by have := HI.out.len; omega
          have HK1 : Hid (Enc.snap.rd (fun b => B0 ≤ b ∧ (Value.slice sa acc.length sc).ownBlock ≠ some b) wf [.int .i64 (q0 : Nat), .int .i64 (q1 : Nat), .slice ta tm.length tc] ⟨q0, q1, tm⟩) :=
            Lib.hid ⟨_, rfl, SlE.weak HNf.out.sle fun b _ hb => ⟨by omega, fun e => by have h1 := HI.out.row.lt b e; have h2 := HPS.out; omega⟩⟩
          go_wp2_with (first | (at_builtin; refine stop_in ?_) | go_in)
          unfold Stop
          refine wpList_pushR wf (by rfl) (.tmp 64) (.tmp 66) 25 (by rfl) Enc.snap B0 102 i0 _ 40 Tryz.underlying25 hi hz0 hz1 hz2 (by rfl) (by decide) (by decide) _ acc (by rfl) EQ.out [.int .i64 (q0 : Nat), .int .i64 (q1 : Nat), .slice ta tm.length tc] 102 ⟨q0, q1, tm⟩ (by rfl) HK1.out (by omega) (by omega) ?_
          intro v' w' hE' hB'
          have Tw := Lib.hid ((hB'.block ph (by omega)).trans Tq.out)
          obtain ⟨va', ca', rfl⟩ := hE'.shape
          have HYN : Hid (US = ((acc ++ [⟨q0, q1, tm⟩]) ++ (rdSnaps (n - (k + 1)) rc).1, (rdSnaps (n - (k + 1)) rc).2)) := Lib.hid (by
            have := HI.out.y
            rw [show n - k = (n - (k + 1)) + 1 by omega, rdSnaps_go H0.out, HRS.out] at this
            simpa using this)
          have HRD : Hid (IsRd (fun b => s0 ≤ b ∧ b < p) w' p rc) := Lib.hid (RDg.out.same (B := fun b => b < B0) ⟨hB'.size, fun b hb _ => hB'.block b hb⟩ (by omega) (fun b hb => by omega))
          have HRR : Hid (w'.heap[w.heap.size]? = _) := Lib.hid ((hB'.block _ (by omega)).trans ((HFf.out.block _ (by omega) (by omega)).trans HI.out.res))
          have HBN : Hid (Below w.heap.size w w') := Lib.hid ((HI.out.bl.trans (HFf.out.below HI.out.bl.size fun j hj h => by omega)).trans (hB'.mono (by omega)))
          have HMP : Hid (NI (ph + 1) w' (.slice ma m.length mc) m) := Lib.hid (HI.out.mp.same fun g hg => (hB'.block g (HI.out.ml g hg)).trans (HFf.out.block g (HI.out.mp.lt g hg).2 (by have := (HI.out.mp.lt g hg).1; omega)))
          have HML := Lib.hid HI.out.ml
          have HEN := Lib.hid (show EnR Enc.snap 102 B0 w' (.slice va' (acc.length + 1) ca') (acc ++ [⟨q0, q1, tm⟩]) from by have h := hE'; rw [List.length_append] at h; exact h)
          have HMS : Hid (∀ s ∈ acc ++ [(⟨q0, q1, tm⟩ : SnD)], s.map.length ≤ 512) := Lib.hid fun s hs => by
            rcases List.mem_append.1 hs with h | h
            · exact HI.out.maps s h
            · simp at h; subst h; exact htl
          have HLE : Hid ((acc ++ [(⟨q0, q1, tm⟩ : SnD)]).length ≤ k + 1) := Lib.hid (by have := HI.out.len; simp; omega)
          have hpw2 : ph < w'.heap.size := by have := hB'.size; omega
          have hBw : B0 ≤ w'.heap.size := by have := hB'.size; omega
          clear hE' hB' Tq EQ HK1 y0 g0 y1 g1 y2 g2 y5 g5 HRS RDg HFf HI Sf HNf hplf hpq
          obtain ⟨y5, g5⟩ := blk_cell (i := 5) Tw.out
          simp at y5
          go_wp2
          go_roundw
          case rel => exact ⟨k + 1, by omega, by go_num, rc, _, _, ⟨isrd_set HRD.out (by omega) (fun b hb => by omega), HSMc.out, (Below.heap_setCell _ _ _ _ (show w.heap.size ≠ ph by omega)).trans HRR.out, by simp [World.setCell, Array.getElem?_modify, Tw.out], HMP.out.same fun g hg => Below.heap_setCell _ _ _ _ (show g ≠ ph by have := (HMP.out.lt g hg).1; omega), HML.out, HEN.out.same ⟨by simp [World.setCell], fun b hb _ => Below.heap_setCell _ _ _ _ (show b ≠ ph by omega)⟩, HLE.out, HMS.out, HYN.out, HBN.out.setCell (show w.heap.size ≤ ph by omega) _⟩, by simpa [World.setCell] using hBw⟩
          case measure => simp [intOf]; omega
        · have HYE : Hid (US = (acc, r)) := Lib.hid (by have := HI.out.y; rw [rdSnaps_halt h0] at this; simpa using this)
          have t0 : ((r.e : Int) != 0) = true := by simp [h0]
          have t1 : ((r.e : Int) == 0) = false := by simp [h0]
          clear h0
          go_wp2_with fail
          refine (end_any _ p r _ HI.out.rd HI.out.sm.len HI.out.sm.err).mono ?_
          rintro e w8 ⟨rfl, hr8, hf8⟩
          have RR8 := Lib.hid ((hf8.block _ (by omega) (by omega)).trans HI.out.res)
          have T8 := Lib.hid ((hf8.block _ (by omega) (by omega)).trans HI.out.hd)
          have HB8 := Lib.hid (HI.out.bl.trans (hf8.below HI.out.bl.size fun j hj h => by omega))
          have HE8 := Lib.hid (HI.out.row.same ⟨hf8.size, fun b hb hl => hf8.block b hl (by omega)⟩)
          have HM8 := Lib.hid (HI.out.mp.same (w' := w8) fun g hg => hf8.block g (HI.out.mp.lt g hg).2 (by have := (HI.out.mp.lt g hg).1; omega))
          have hwl : w.heap.size < w8.heap.size := (Array.getElem?_eq_some_iff.1 RR8.out).1
          have hpl8 : ph < w8.heap.size := (Array.getElem?_eq_some_iff.1 T8.out).1
          have HUPV : Hid (UP = ⟨(x0 : Nat), (x1 : Nat), (x2 : Nat), (x4 : Nat), m, acc, (x3 : Nat), (x5 : Nat)⟩) := Lib.hid (by rw [HUP.out, HU.out, HYE.out]; rfl)
          have HUEV : Hid (UE = if r.fin.e ≠ 0 then ((r.fin.e : Nat) : Int) else if mayD UP then (0 : Int) else 60) := Lib.hid (by rw [HUE.out, HYE.out])
          have hacc := HI.out.len
          have HMPS := Lib.hid HI.out.maps
          clear hr8 hf8 HI HYE
          obtain ⟨z0, f0⟩ := blk_cell (i := 0) RR8.out
          obtain ⟨z1, f1⟩ := blk_cell (i := 1) RR8.out
          obtain ⟨z2, f2⟩ := blk_cell (i := 2) RR8.out
          obtain ⟨z3, f3⟩ := blk_cell (i := 3) RR8.out
          obtain ⟨z4, f4⟩ := blk_cell (i := 4) RR8.out
          obtain ⟨z5, f5⟩ := blk_cell (i := 5) RR8.out
          obtain ⟨z6, f6⟩ := blk_cell (i := 6) RR8.out
          obtain ⟨z7, f7⟩ := blk_cell (i := 7) RR8.out
          simp at z0 z1 z2 z3 z4 z5 z6 z7
          obtain ⟨y0, g0⟩ := blk_cell (i := 0) T8.out
          obtain ⟨y1, g1⟩ := blk_cell (i := 1) T8.out
          obtain ⟨y2, g2⟩ := blk_cell (i := 2) T8.out
          obtain ⟨y3, g3⟩ := blk_cell (i := 3) T8.out
          obtain ⟨y4, g4⟩ := blk_cell (i := 4) T8.out
          obtain ⟨y5, g5⟩ := blk_cell (i := 5) T8.out
          obtain ⟨y6, g6⟩ := blk_cell (i := 6) T8.out
          obtain ⟨y7, g7⟩ := blk_cell (i := 7) T8.out
          simp at y0 y1 y2 y3 y4 y5 y6 y7
          clear g0 g1 g2 g3 g4 g5 g6 g7
          by_cases hfe : r.fin.e = 0
          · have u0 : ((r.fin.e : Int) != 0) = false := by simp [hfe]
            have u1 : ((r.fin.e : Int) == 0) = true := by simp [hfe]
            have HUE2 : Hid (UE = if mayD UP then (0 : Int) else 60) := Lib.hid (by rw [HUEV.out, if_neg (by simp [hfe])])
            have HCK := Lib.hid (hcheck_any (fun b => w.heap.size ≤ b) ⟨(x0 : Nat), (x1 : Nat), (x2 : Nat), (x4 : Nat), m, acc, (x3 : Nat), (x5 : Nat)⟩ _ w8 ⟨.slice ma m.length mc, .slice sa acc.length sc, rfl, SlE.weak HM8.out.sle fun b _ hb => by omega, SlE.weak HE8.out.sle fun b _ hb => by omega⟩ ⟨by show m.length ≤ 100000; omega, by show acc.length ≤ 100000; omega, fun s hs => Nat.le_trans (HMPS.out s hs) (by omega)⟩)
            unfold hdV at HCK
            simp only at HCK
            rw [← HUPV.out] at HCK
            clear hfe HUEV
            go_wp2_with fail
            refine HCK.out.mono ?_
            rintro e w9 ⟨rfl, hb9⟩
            have RR9 := Lib.hid (blk19 hb9 RR8.out)
            have T9 := Lib.hid (blk19 hb9 T8.out)
            have HB9 := Lib.hid (call19 HB8.out hb9)
            have HE9 := Lib.hid (HE8.out.ext hb9)
            have HM9 := Lib.hid (HM8.out.ext hb9)
            have hwl9 : w.heap.size < w9.heap.size := (Array.getElem?_eq_some_iff.1 RR9.out).1
            have hpl9 : ph < w9.heap.size := (Array.getElem?_eq_some_iff.1 T9.out).1
            clear hb9 RR8 T8 HB8 HE8 HM8 HCK z0 z1 z2 z3 z4 z5 z6 z7 f0 f1 f2 f3 f4 f5 f6 f7 y0 y1 y2 y3 y4 y5 y6 y7
            obtain ⟨z0, f0⟩ := blk_cell (i := 0) RR9.out
            obtain ⟨z1, f1⟩ := blk_cell (i := 1) RR9.out
            obtain ⟨z2, f2⟩ := blk_cell (i := 2) RR9.out
            obtain ⟨z3, f3⟩ := blk_cell (i := 3) RR9.out
            obtain ⟨z4, f4⟩ := blk_cell (i := 4) RR9.out
            obtain ⟨z5, f5⟩ := blk_cell (i := 5) RR9.out
            obtain ⟨z6, f6⟩ := blk_cell (i := 6) RR9.out
            obtain ⟨z7, f7⟩ := blk_cell (i := 7) RR9.out
            simp at z0 z1 z2 z3 z4 z5 z6 z7
            obtain ⟨y0, g0⟩ := blk_cell (i := 0) T9.out
            obtain ⟨y1, g1⟩ := blk_cell (i := 1) T9.out
            obtain ⟨y2, g2⟩ := blk_cell (i := 2) T9.out
            obtain ⟨y3, g3⟩ := blk_cell (i := 3) T9.out
            obtain ⟨y4, g4⟩ := blk_cell (i := 4) T9.out
            obtain ⟨y5, g5⟩ := blk_cell (i := 5) T9.out
            obtain ⟨y6, g6⟩ := blk_cell (i := 6) T9.out
            obtain ⟨y7, g7⟩ := blk_cell (i := 7) T9.out
            simp at y0 y1 y2 y3 y4 y5 y6 y7
            clear g0 g1 g2 g3 g4 g5 g6 g7
            cases hmd : mayD UP
            · have HK := Lib.hid (chkH_no hmd)
              have HUD2 : Hid (UD = (HeD.none, 60)) := Lib.hid (by rw [HUD.out, HUE2.out, hmd]; rfl)
              rw [HK.out]
              clear hmd
              go_wp2
              refine bodyPost_ret (results_cell_h rfl _ _ w.heap.size 27 _ (0, 0) _ rfl (set8_blk RR9.out) Tryz.underlying27 rfl (by kernel_rfl)) rfl ?_
              rw [HUD2.out]
              exact ⟨_, rfl, HeV.none _ _, set8_below HB9.out (Nat.le_refl _)⟩
            · have HK := Lib.hid (chkH_yes hmd)
              have HUD2 : Hid (UD = (⟨(x0 : Nat), (x1 : Nat), (x2 : Nat), (x4 : Nat), m, acc, (x3 : Nat), (x5 : Nat)⟩, 0)) := Lib.hid (by rw [HUD.out, HUE2.out, hmd, HUPV.out]; rfl)
              rw [HK.out]
              clear hmd
              go_wp2
              refine bodyPost_ret (results_cell_h rfl _ _ w.heap.size 27 _ (0, 0) _ rfl (set8_blk RR9.out) Tryz.underlying27 rfl (by kernel_rfl)) rfl ?_
              rw [HUD2.out]
              exact ⟨_, rfl, ⟨_, _, rfl, SlE.weak (SlE.mono HM9.out.sle ⟨by rw [set8_size]; exact Nat.le_refl _, fun b hb _ => set8_ne (by omega)⟩) fun b _ hb => by omega, SlE.weak (SlE.mono HE9.out.sle ⟨by rw [set8_size]; exact Nat.le_refl _, fun b hb _ => set8_ne (by omega)⟩) fun b _ hb => by omega⟩, set8_below HB9.out (Nat.le_refl _)⟩
          · have u0 : ((r.fin.e : Int) != 0) = true := by simp [hfe]
            have u1 : ((r.fin.e : Int) == 0) = false := by simp [hfe]
            have HUE2 : Hid (UE = ((r.fin.e : Nat) : Int)) := Lib.hid (by rw [HUEV.out, if_pos hfe])
            have HUD2 : Hid (UD = (HeD.none, ((r.fin.e : Nat) : Int))) := Lib.hid (by rw [HUD.out, HUE2.out, if_neg (by omega)])
            clear hfe HUEV
            go_wp2
            refine bodyPost_ret (results_cell_h rfl _ _ w.heap.size 27 _ (0, 0) _ rfl (set8_blk RR8.out) Tryz.underlying27 rfl (by kernel_rfl)) rfl ?_
            rw [HUD2.out]
            exact ⟨_, rfl, HeV.none _ _, set8_below HB8.out (Nat.le_refl _)⟩
      · obtain rfl : k = n := by omega
        have HYE : Hid (US = (acc, r)) := Lib.hid (by have := HI.out.y; simp [rdSnaps] at this; exact this)
        go_wp2_with fail
        refine (end_any _ p r _ HI.out.rd HI.out.sm.len HI.out.sm.err).mono ?_
        rintro e w8 ⟨rfl, hr8, hf8⟩
        have RR8 := Lib.hid ((hf8.block _ (by omega) (by omega)).trans HI.out.res)
        have T8 := Lib.hid ((hf8.block _ (by omega) (by omega)).trans HI.out.hd)
        have HB8 := Lib.hid (HI.out.bl.trans (hf8.below HI.out.bl.size fun j hj h => by omega))
        have HE8 := Lib.hid (HI.out.row.same ⟨hf8.size, fun b hb hl => hf8.block b hl (by omega)⟩)
        have HM8 := Lib.hid (HI.out.mp.same (w' := w8) fun g hg => hf8.block g (HI.out.mp.lt g hg).2 (by have := (HI.out.mp.lt g hg).1; omega))
        have hwl : w.heap.size < w8.heap.size := (Array.getElem?_eq_some_iff.1 RR8.out).1
        have hpl8 : ph < w8.heap.size := (Array.getElem?_eq_some_iff.1 T8.out).1
        have HUPV : Hid (UP = ⟨(x0 : Nat), (x1 : Nat), (x2 : Nat), (x4 : Nat), m, acc, (x3 : Nat), (x5 : Nat)⟩) := Lib.hid (by rw [HUP.out, HU.out, HYE.out]; rfl)
        have HUEV : Hid (UE = if r.fin.e ≠ 0 then ((r.fin.e : Nat) : Int) else if mayD UP then (0 : Int) else 60) := Lib.hid (by rw [HUE.out, HYE.out])
        have hacc := HI.out.len
        have HMPS := Lib.hid HI.out.maps
        clear hr8 hf8 HI HYE
        obtain ⟨z0, f0⟩ := blk_cell (i := 0) RR8.out
        obtain ⟨z1, f1⟩ := blk_cell (i := 1) RR8.out
        obtain ⟨z2, f2⟩ := blk_cell (i := 2) RR8.out
        obtain ⟨z3, f3⟩ := blk_cell (i := 3) RR8.out
        obtain ⟨z4, f4⟩ := blk_cell (i := 4) RR8.out
        obtain ⟨z5, f5⟩ := blk_cell (i := 5) RR8.out
        obtain ⟨z6, f6⟩ := blk_cell (i := 6) RR8.out
        obtain ⟨z7, f7⟩ := blk_cell (i := 7) RR8.out
        simp at z0 z1 z2 z3 z4 z5 z6 z7
        obtain ⟨y0, g0⟩ := blk_cell (i := 0) T8.out
        obtain ⟨y1, g1⟩ := blk_cell (i := 1) T8.out
        obtain ⟨y2, g2⟩ := blk_cell (i := 2) T8.out
        obtain ⟨y3, g3⟩ := blk_cell (i := 3) T8.out
        obtain ⟨y4, g4⟩ := blk_cell (i := 4) T8.out
        obtain ⟨y5, g5⟩ := blk_cell (i := 5) T8.out
        obtain ⟨y6, g6⟩ := blk_cell (i := 6) T8.out
        obtain ⟨y7, g7⟩ := blk_cell (i := 7) T8.out
        simp at y0 y1 y2 y3 y4 y5 y6 y7
        clear g0 g1 g2 g3 g4 g5 g6 g7
        by_cases hfe : r.fin.e = 0
        · have u0 : ((r.fin.e : Int) != 0) = false := by simp [hfe]
          have u1 : ((r.fin.e : Int) == 0) = true := by simp [hfe]
          have HUE2 : Hid (UE = if mayD UP then (0 : Int) else 60) := Lib.hid (by rw [HUEV.out, if_neg (by simp [hfe])])
          have HCK := Lib.hid (hcheck_any (fun b => w.heap.size ≤ b) ⟨(x0 : Nat), (x1 : Nat), (x2 : Nat), (x4 : Nat), m, acc, (x3 : Nat), (x5 : Nat)⟩ _ w8 ⟨.slice ma m.length mc, .slice sa acc.length sc, rfl, SlE.weak HM8.out.sle fun b _ hb => by omega, SlE.weak HE8.out.sle fun b _ hb => by omega⟩ ⟨by show m.length ≤ 100000; omega, by show acc.length ≤ 100000; omega, fun s hs => Nat.le_trans (HMPS.out s hs) (by omega)⟩)
          unfold hdV at HCK
          simp only at HCK
          rw [← HUPV.out] at HCK
          clear hfe HUEV
          go_wp2_with fail
          refine HCK.out.mono ?_
          rintro e w9 ⟨rfl, hb9⟩
          have RR9 := Lib.hid (blk19 hb9 RR8.out)
          have T9 := Lib.hid (blk19 hb9 T8.out)
          have HB9 := Lib.hid (call19 HB8.out hb9)
          have HE9 := Lib.hid (HE8.out.ext hb9)
          have HM9 := Lib.hid (HM8.out.ext hb9)
          have hwl9 : w.heap.size < w9.heap.size := (Array.getElem?_eq_some_iff.1 RR9.out).1
          have hpl9 : ph < w9.heap.size := (Array.getElem?_eq_some_iff.1 T9.out).1
          clear hb9 RR8 T8 HB8 HE8 HM8 HCK z0 z1 z2 z3 z4 z5 z6 z7 f0 f1 f2 f3 f4 f5 f6 f7 y0 y1 y2 y3 y4 y5 y6 y7
          obtain ⟨z0, f0⟩ := blk_cell (i := 0) RR9.out
          obtain ⟨z1, f1⟩ := blk_cell (i := 1) RR9.out
          obtain ⟨z2, f2⟩ := blk_cell (i := 2) RR9.out
          obtain ⟨z3, f3⟩ := blk_cell (i := 3) RR9.out
          obtain ⟨z4, f4⟩ := blk_cell (i := 4) RR9.out
          obtain ⟨z5, f5⟩ := blk_cell (i := 5) RR9.out
          obtain ⟨z6, f6⟩ := blk_cell (i := 6) RR9.out
          obtain ⟨z7, f7⟩ := blk_cell (i := 7) RR9.out
          simp at z0 z1 z2 z3 z4 z5 z6 z7
          obtain ⟨y0, g0⟩ := blk_cell (i := 0) T9.out
          obtain ⟨y1, g1⟩ := blk_cell (i := 1) T9.out
          obtain ⟨y2, g2⟩ := blk_cell (i := 2) T9.out
          obtain ⟨y3, g3⟩ := blk_cell (i := 3) T9.out
          obtain ⟨y4, g4⟩ := blk_cell (i := 4) T9.out
          obtain ⟨y5, g5⟩ := blk_cell (i := 5) T9.out
          obtain ⟨y6, g6⟩ := blk_cell (i := 6) T9.out
          obtain ⟨y7, g7⟩ := blk_cell (i := 7) T9.out
          simp at y0 y1 y2 y3 y4 y5 y6 y7
          clear g0 g1 g2 g3 g4 g5 g6 g7
          cases hmd : mayD UP
          · have HK := Lib.hid (chkH_no hmd)
            have HUD2 : Hid (UD = (HeD.none, 60)) := Lib.hid (by rw [HUD.out, HUE2.out, hmd]; rfl)
            rw [HK.out]
            clear hmd
            go_wp2
            refine bodyPost_ret (results_cell_h rfl _ _ w.heap.size 27 _ (0, 0) _ rfl (set8_blk RR9.out) Tryz.underlying27 rfl (by kernel_rfl)) rfl ?_
            rw [HUD2.out]
            exact ⟨_, rfl, HeV.none _ _, set8_below HB9.out (Nat.le_refl _)⟩
          · have HK := Lib.hid (chkH_yes hmd)
            have HUD2 : Hid (UD = (⟨(x0 : Nat), (x1 : Nat), (x2 : Nat), (x4 : Nat), m, acc, (x3 : Nat), (x5 : Nat)⟩, 0)) := Lib.hid (by rw [HUD.out, HUE2.out, hmd, HUPV.out]; rfl)
            rw [HK.out]
            clear hmd
            go_wp2
            refine bodyPost_ret (results_cell_h rfl _ _ w.heap.size 27 _ (0, 0) _ rfl (set8_blk RR9.out) Tryz.underlying27 rfl (by kernel_rfl)) rfl ?_
            rw [HUD2.out]
            exact ⟨_, rfl, ⟨_, _, rfl, SlE.weak (SlE.mono HM9.out.sle ⟨by rw [set8_size]; exact Nat.le_refl _, fun b hb _ => set8_ne (by omega)⟩) fun b _ hb => by omega, SlE.weak (SlE.mono HE9.out.sle ⟨by rw [set8_size]; exact Nat.le_refl _, fun b hb _ => set8_ne (by omega)⟩) fun b _ hb => by omega⟩, set8_below HB9.out (Nat.le_refl _)⟩
        · have u0 : ((r.fin.e : Int) != 0) = true := by simp [hfe]
          have u1 : ((r.fin.e : Int) == 0) = false := by simp [hfe]
          have HUE2 : Hid (UE = ((r.fin.e : Nat) : Int)) := Lib.hid (by rw [HUEV.out, if_pos hfe])
          have HUD2 : Hid (UD = (HeD.none, ((r.fin.e : Nat) : Int))) := Lib.hid (by rw [HUD.out, HUE2.out, if_neg (by omega)])
          clear hfe HUEV
          go_wp2
          refine bodyPost_ret (results_cell_h rfl _ _ w.heap.size 27 _ (0, 0) _ rfl (set8_blk RR8.out) Tryz.underlying27 rfl (by kernel_rfl)) rfl ?_
          rw [HUD2.out]
          exact ⟨_, rfl, HeV.none _ _, set8_below HB8.out (Nat.le_refl _)⟩
end Go.Proofs.YtlekdfajcpmolaaGreatDoor
