/- What is packed is unpacked as it was, and as nothing else: requests, replies. No program is named. -/
import Derived.Test.YtlgefkaafoidmaaDoorUnp
import Derived.Test.YtlgefkaafoidmaaDoorPkp
namespace Go.Proofs.YtlgefkaafoidmaaDoor
open Go.RowKit

theorem un_op {o : OpD} (h : opP o) (R : List UInt8) : unpOp ⟨opBytes o ++ R, 0⟩ = (o, ⟨R, 0⟩) := by
  obtain ⟨k, f, n, nm, d⟩ := o
  obtain ⟨p1, p2, p3, p4, p5, p6, p7, p8⟩ := h
  simp only at p1 p2 p3 p4 p5 p6 p7 p8
  obtain ⟨k, rfl⟩ := Int.eq_ofNat_of_zero_le (by omega : 0 ≤ k)
  obtain ⟨f, rfl⟩ := Int.eq_ofNat_of_zero_le p3
  obtain ⟨n, rfl⟩ := Int.eq_ofNat_of_zero_le p5
  have hnl : nm.data.toList.length = nm.size := by simp
  have e : opBytes ⟨(k : Int), (f : Int), (n : Int), nm, d⟩ ++ R = be 1 k ++ (be 6 f ++ (be 6 n ++ (be 2 nm.data.toList.length ++ (nm.data.toList ++ (be 2 d.length ++ (d ++ R)))))) := by
    simp [opBytes, List.append_assoc]
  rw [e]
  have s0 := Rd.num_be 1 k (be 6 f ++ (be 6 n ++ (be 2 nm.data.toList.length ++ (nm.data.toList ++ (be 2 d.length ++ (d ++ R)))))) (by omega)
  have s1 := Rd.num_be 6 f (be 6 n ++ (be 2 nm.data.toList.length ++ (nm.data.toList ++ (be 2 d.length ++ (d ++ R))))) (by omega)
  have s2 := Rd.num_be 6 n (be 2 nm.data.toList.length ++ (nm.data.toList ++ (be 2 d.length ++ (d ++ R)))) (by omega)
  have s3 := Rd.blob_be 12 nm.data.toList (be 2 d.length ++ (d ++ R)) (by omega) (by omega)
  have s4 := Rd.blob_be 2048 d R (by omega) (by omega)
  unfold unpOp
  simp only [s0, s1, s2, s3, s4]
theorem un_ops {l : List OpD} (h : ∀ o ∈ l, opP o) (R : List UInt8) (m : Nat) : unpOps (l.length + m) ⟨l.flatMap opBytes ++ R, 0⟩ = (l ++ (unpOps m ⟨R, 0⟩).1, (unpOps m ⟨R, 0⟩).2) := by
  induction l with
  | nil => simp
  | cons o l ih =>
    have e : (o :: l).length + m = (l.length + m) + 1 := by simp; omega
    have e2 : (o :: l).flatMap opBytes ++ R = opBytes o ++ (l.flatMap opBytes ++ R) := by simp
    rw [e, e2, unpOps_go rfl, un_op (h o (by simp)), ih (fun o ho => h o (by simp [ho]))]
    rfl
/-- behind the head and the number of ops -/
theorem un_head {ob : ByteArray} (hob : nameB ob = true) {n : Nat} (hn : n ≤ 12) (R : List UInt8) :
    unpHead (be 2 ob.data.toList.length ++ ob.data.toList ++ be 1 n ++ R) = (ob.data.toList, ⟨be 1 n ++ R, 0⟩) ∧ unpN (be 2 ob.data.toList.length ++ ob.data.toList ++ be 1 n ++ R) = (n, ⟨R, 0⟩) ∧ unpC (be 2 ob.data.toList.length ++ ob.data.toList ++ be 1 n ++ R) = ⟨R, 0⟩ := by
  have hl := nameB_len hob
  have hol : ob.data.toList.length = ob.size := by simp
  have h0 : unpHead (be 2 ob.data.toList.length ++ ob.data.toList ++ be 1 n ++ R) = (ob.data.toList, ⟨be 1 n ++ R, 0⟩) := by
    unfold unpHead
    have := Rd.blob_be 12 ob.data.toList (be 1 n ++ R) (by omega) (by omega)
    rw [← this]
    simp [List.append_assoc]
  have h1 : unpN (be 2 ob.data.toList.length ++ ob.data.toList ++ be 1 n ++ R) = (n, ⟨R, 0⟩) := by
    unfold unpN
    rw [h0]
    exact Rd.num_be 1 n R (by omega)
  refine ⟨h0, h1, ?_⟩
  unfold unpC
  rw [h1, if_neg (by show ¬ 12 < n; omega)]
theorem txL_all (t : TxD) : txL t t.ops.length = be 2 t.obj.data.toList.length ++ t.obj.data.toList ++ be 1 t.ops.length ++ t.ops.flatMap opBytes := by
  unfold txL
  rw [List.take_length, List.nil_append]
theorem un_all {t : TxD} (hE : txE t = 0) (R : List UInt8) : unpT (txL t t.ops.length ++ R) = t ∧ unpY (txL t t.ops.length ++ R) = (t.ops, ⟨R, 0⟩) := by
  obtain ⟨hl, hnm, hall⟩ := txE_ok hE
  have hop : ∀ o ∈ t.ops, opP o := fun o ho => of_decide_eq_true (List.all_eq_true.1 hall o ho)
  rw [txL_all, List.append_assoc]
  obtain ⟨h0, h1, h2⟩ := un_head hnm hl (t.ops.flatMap opBytes ++ R)
  have hY : unpY (be 2 t.obj.data.toList.length ++ t.obj.data.toList ++ be 1 t.ops.length ++ (t.ops.flatMap opBytes ++ R)) = (t.ops, ⟨R, 0⟩) := by
    unfold unpY
    rw [h1, h2]
    have := un_ops hop R 0
    simpa [unpOps] using this
  refine ⟨?_, hY⟩
  unfold unpT
  rw [h0, hY]
/-- what is packed is unpacked -/
theorem un_of_pack {t : TxD} (hE : txE t = 0) : txUn (txL t t.ops.length) = (t, 0) := by
  obtain ⟨h1, h2⟩ := un_all hE []
  rw [List.append_nil] at h1 h2
  have hE0 : unpE (txL t t.ops.length) = 0 := by
    unfold unpE
    rw [h1, h2]
    exact (if_pos (by rfl)).trans hE
  rw [txUn_ok hE0, h1]
theorem opnB_frm {k j : Nat} {b : List UInt8} (hk : k < 256) (hb : b.length ≤ 8192) : opnB (frm k b) j = if k = j then (b, 0) else ([], 11) := by
  unfold opnB
  rw [next_frm k b hk hb]
  by_cases h : k = j
  · simp [h]
  · simp [h]
theorem opnB_one {k : Nat} {b : List UInt8} (hk : k < 256) (hb : b.length ≤ 8192) : opnB (frm k b) k = (b, 0) := by rw [opnB_frm hk hb, if_pos rfl]
theorem unqB_other {l : List UInt8} {x : Nat} (h : (opnB l 1).2 = x) (hx : x ≠ 0) : unqB l = (RqD.none, (x : Int)) := by
  have h1 : unqE l = (x : Int) := by
    unfold unqE
    rw [h, if_pos hx]
  unfold unqB
  rw [h1, if_neg (by omega)]
theorem unpB_other {l : List UInt8} {x : Nat} (h : (opnB l 2).2 = x) (hx : x ≠ 0) : unpB l = (RpD.none, (x : Int)) := by
  have h1 : unpPE l = (x : Int) := by
    unfold unpPE
    rw [h, if_pos hx]
  unfold unpB
  rw [h1, if_neg (by omega)]
theorem ba_list (s : ByteArray) : (⟨s.data.toList.toArray⟩ : ByteArray) = s := by cases s; simp
/-- a request -/
theorem rt_rq {q : RqD} (h : pkqL q ≠ []) : unqB (pkqL q) = (q, 0) ∧ unpB (pkqL q) = (RpD.none, 11) ∧ (pkqL q).length ≤ 8204 := by
  by_cases hc : mayQ q = true ∧ (blobQ q).length + 22 ≤ 8192
  · obtain ⟨hm, hl⟩ := hc
    rw [pkqL_ok hm rfl hl]
    clear h
    obtain ⟨qc, ql, qs, qk, qi, qw, qn, tx⟩ := q
    have hmm := hm
    obtain ⟨⟨⟨i1, i2⟩, ⟨i3, i4⟩, ⟨i5, i6⟩⟩, ⟨i7, i8⟩, ⟨i9, i10⟩, ⟨i11, i12⟩, ⟨i13, i14⟩⟩ := mayQ_N hm
    have hy := mayQ_yes (mayQ_N hm)
    rw [hm] at hy
    simp only at i1 i2 i3 i4 i5 i6 i7 i8 i9 i10 i11 i12 i13 i14 hy
    obtain ⟨c, rfl⟩ := Int.eq_ofNat_of_zero_le i1
    obtain ⟨l, rfl⟩ := Int.eq_ofNat_of_zero_le i3
    obtain ⟨s, rfl⟩ := Int.eq_ofNat_of_zero_le i5
    obtain ⟨k, rfl⟩ := Int.eq_ofNat_of_zero_le (by omega : 0 ≤ qk)
    obtain ⟨i, rfl⟩ := Int.eq_ofNat_of_zero_le i9
    obtain ⟨wh, rfl⟩ := Int.eq_ofNat_of_zero_le i11
    obtain ⟨n, rfl⟩ := Int.eq_ofNat_of_zero_le i13
    simp only [Int.toNat_natCast] at *
    obtain ⟨X, hX⟩ : ∃ X, X = blobQ ⟨(c : Int), (l : Int), (s : Int), (k : Int), (i : Int), (wh : Int), (n : Int), tx⟩ := ⟨_, rfl⟩
    rw [← hX] at hl ⊢
    have hbl := bodyQ_length c l s k i wh n X
    have hb : (bodyQ c l s k i wh n X).length ≤ 8192 := by omega
    have hn := rdNums_bodyQ c l s k i wh n X (by omega) (by omega) (by omega) (by omega) (by omega) (by omega) (by omega)
    have hbb := Rd.blob_be 8192 X [] (by omega) (by omega)
    rw [List.append_nil] at hbb
    have h1 := opnB_one (k := 1) (by decide) hb
    have hN : unqN (frm 1 (bodyQ c l s k i wh n X)) = ([c, l, s, k, i, wh, n], ⟨be 2 X.length ++ X, 0⟩) := by
      show rdNums wsQ ⟨(opnB (frm 1 (bodyQ c l s k i wh n X)) 1).1, 0⟩ = _
      rw [h1]
      exact hn
    have hXX := unqX_of hN hbb
    refine ⟨?_, ?_, by rw [frm_length]; omega⟩
    · refine unqB_yes (by rw [h1]) hN ?_ hmm
      by_cases hk : (k : Int) = 1
      · rw [unqT_tx hN hXX rfl (by omega), hX, blobQ_1 hk]
        exact un_of_pack (mayQ_tx hmm hk)
      · rw [unqT_obj hN hXX rfl (by omega), hX, blobQ_n hk, ba_list]
        rw [if_neg hk] at hy
        have ho : tx.ops = [] := by
          by_cases hk2 : (k : Int) = 2
          · rw [if_pos hk2] at hy
            exact of_decide_eq_true ((Bool.and_eq_true _ _ ▸ hy.symm).1)
          · rw [if_neg hk2] at hy
            exact of_decide_eq_true ((Bool.and_eq_true _ _ ▸ hy.symm).2)
        obtain ⟨ob, ops⟩ := tx
        simp only at ho
        rw [ho]
    · refine unpB_other (x := 11) ?_ (by decide)
      rw [opnB_frm (by decide) hb, if_neg (by decide)]
  · exact absurd (if_neg hc) h
/-- a reply -/
theorem rd_key {k : KyD} (h1 : k.name.size ≤ 12) (h2 : k.value.length ≤ 2048) (R : List UInt8) : rdKey ⟨keyBytes k ++ R, 0⟩ = (k, ⟨R, 0⟩) := by
  have hnl : k.name.data.toList.length = k.name.size := by simp
  have e : keyBytes k ++ R = be 2 k.name.data.toList.length ++ (k.name.data.toList ++ (be 2 k.value.length ++ (k.value ++ R))) := by
    simp [keyBytes, List.append_assoc]
  rw [e]
  have s3 := Rd.blob_be 12 k.name.data.toList (be 2 k.value.length ++ (k.value ++ R)) (by omega) (by omega)
  have s4 := Rd.blob_be 2048 k.value R (by omega) (by omega)
  unfold rdKey
  simp only [s3, s4, ba_list]
theorem rd_keys : ∀ (ks : List KyD), (∀ k ∈ ks, k.name.size ≤ 12 ∧ k.value.length ≤ 2048) → rdKeys ks.length ⟨ks.flatMap keyBytes, 0⟩ = (ks, ⟨[], 0⟩)
  | [], _ => rfl
  | k :: ks, h => by
    have h1 := rd_keys ks fun k hk => h k (by simp [hk])
    have h2 := rd_key (h k (by simp)).1 (h k (by simp)).2 (ks.flatMap keyBytes)
    rw [List.length_cons, List.flatMap_cons, rdKeys_go rfl, h2]
    simp only [h1]
theorem mayB_keys {o : ObD} (h : mayB o = true) : ∀ k ∈ o.keys, k.name.size ≤ 12 ∧ k.value.length ≤ 2048 := by
  obtain ⟨h1, h2, h3, h4, hf⟩ := (mayB_iff o).1 h
  intro k hk
  obtain ⟨i, hi, rfl⟩ := List.getElem_of_mem hk
  have h5 := hf.key i _ (List.getElem?_eq_getElem hi)
  have h6 := nameB_len h5.1
  exact ⟨by omega, by have := h5.2; omega⟩
theorem rdNums_bodyP (c l s e n x th sq : Nat) (R : List UInt8) (hc : c < 256) (hl : l < 256 ^ 4) (hs : s < 256 ^ 6) (he : e < 256 ^ 2) (hn : n < 256 ^ 6) (hx : x < 256 ^ 6) (ht : th < 256) (hq : sq < 256 ^ 6) :
    rdNums wsP ⟨be 1 c ++ (be 4 l ++ (be 6 s ++ (be 2 e ++ (be 6 n ++ (be 6 x ++ (be 1 th ++ (be 6 sq ++ R))))))), 0⟩ = ([c, l, s, e, n, x, th, sq], ⟨R, 0⟩) := by
  simp only [rdNums, wsP, List.foldl_cons, List.foldl_nil, rdStep]
  rw [Rd.num_be 1 c _ (by simpa using hc)]
  simp only
  rw [Rd.num_be 4 l _ hl]
  simp only
  rw [Rd.num_be 6 s _ hs]
  simp only
  rw [Rd.num_be 2 e _ he]
  simp only
  rw [Rd.num_be 6 n _ hn]
  simp only
  rw [Rd.num_be 6 x _ hx]
  simp only
  rw [Rd.num_be 1 th _ (by simpa using ht)]
  simp only
  rw [Rd.num_be 6 sq _ hq]
  simp
theorem rt_rp {p : RpD} (h : pkpL p ≠ []) : unpB (pkpL p) = (p, 0) ∧ unqB (pkpL p) = (RqD.none, 11) ∧ (pkpL p).length ≤ 8204 := by
  by_cases hc : mayRP p = true ∧ (bodyOf p).length ≤ 8192
  · obtain ⟨hm, hb⟩ := hc
    rw [pkpL_if hm rfl, if_pos hb]
    clear h
    obtain ⟨qc, ql, qs, qe, qn, qx, pt, ⟨pd, pk, qo⟩⟩ := p
    have hmm := hm
    obtain ⟨⟨⟨⟨i1, i2⟩, ⟨i3, i4⟩, ⟨i5, i6⟩⟩, ⟨i7, i8⟩, ⟨i9, i10⟩, ⟨i11, i12⟩⟩, hmb⟩ := mayRP_N hm
    obtain ⟨hdl, hkl, ⟨i13, i14⟩, -⟩ := mayB_parts hmb
    have hks := mayB_keys hmb
    simp only at i1 i2 i3 i4 i5 i6 i7 i8 i9 i10 i11 i12 i13 i14 hdl hkl hks
    obtain ⟨c, rfl⟩ := Int.eq_ofNat_of_zero_le i1
    obtain ⟨l, rfl⟩ := Int.eq_ofNat_of_zero_le i3
    obtain ⟨s, rfl⟩ := Int.eq_ofNat_of_zero_le i5
    obtain ⟨pe, rfl⟩ := Int.eq_ofNat_of_zero_le i7
    obtain ⟨n, rfl⟩ := Int.eq_ofNat_of_zero_le i9
    obtain ⟨x, rfl⟩ := Int.eq_ofNat_of_zero_le i11
    obtain ⟨po, rfl⟩ := Int.eq_ofNat_of_zero_le i13
    have h1 := opnB_one (k := 2) (by decide) hb
    obtain ⟨th, hth, hth1⟩ : ∃ th : Nat, th = (if pt then 1 else 0) ∧ th ≤ 1 := ⟨_, rfl, by cases pt <;> decide⟩
    have hbo : bodyOf ⟨(c : Int), (l : Int), (s : Int), (pe : Int), (n : Int), (x : Int), pt, ⟨pd, pk, (po : Int)⟩⟩ = be 1 c ++ (be 4 l ++ (be 6 s ++ (be 2 pe ++ (be 6 n ++ (be 6 x ++ (be 1 th ++ (be 6 po ++ (be 2 pd.length ++ (pd ++ (be 1 pk.length ++ pk.flatMap keyBytes)))))))))) := by
      rw [bodyOf_nat hth]
      simp [pkL, catB, List.append_assoc]
    have hn := rdNums_bodyP c l s pe n x th po (be 2 pd.length ++ (pd ++ (be 1 pk.length ++ pk.flatMap keyBytes))) (by omega) (by omega) (by omega) (by omega) (by omega) (by omega) (by omega) (by omega)
    rw [← hbo] at hn
    generalize bodyOf ⟨(c : Int), (l : Int), (s : Int), (pe : Int), (n : Int), (x : Int), pt, ⟨pd, pk, (po : Int)⟩⟩ = Bd at *
    have hN : unpN' (frm 2 Bd) = ([c, l, s, pe, n, x, th, po], ⟨be 2 pd.length ++ (pd ++ (be 1 pk.length ++ pk.flatMap keyBytes)), 0⟩) := by
      show rdNums wsP ⟨(opnB (frm 2 Bd) 2).1, 0⟩ = _
      rw [h1]
      exact hn
    have hD : unpD (frm 2 Bd) = (pd, ⟨be 1 pk.length ++ pk.flatMap keyBytes, 0⟩) := by
      unfold unpD
      rw [hN]
      exact Rd.blob_be 64 pd _ (by omega) (by omega)
    have hK : unpK (frm 2 Bd) = (pk.length, ⟨pk.flatMap keyBytes, 0⟩) := by
      unfold unpK
      rw [hD]
      exact Rd.num_be 1 pk.length _ (by omega)
    have hF : unpF (frm 2 Bd) = ⟨pk.flatMap keyBytes, 0⟩ := by
      unfold unpF
      rw [hK, if_neg (by omega)]
    have hY : unpKs (frm 2 Bd) = (pk, ⟨[], 0⟩) := by
      unfold unpKs
      rw [hF, hK]
      exact rd_keys pk hks
    refine ⟨?_, ?_, by rw [frm_length]; omega⟩
    · refine unpB_yes (unpPE_may (by rw [h1]) hY rfl) (unpP_is hN hD hY ?_) (unpN_six hN) hmm hth1
      rw [hth]
      cases pt <;> rfl
    · refine unqB_other (x := 11) ?_ (by decide)
      rw [opnB_frm (by decide) hb, if_neg (by decide)]
  · exact absurd (if_neg hc) h
end Go.Proofs.YtlgefkaafoidmaaDoor
