/- A head's bytes taken back, plainly. No program is named. A head's bytes taken back, plainly: the whole. No program is named. -/
import Derived.Test.YtlekdfajcpmolaaGreatDoorGAF
import Derived.Test.YtlekdfajcpmolaaGreatDoorGCC
namespace Go.Proofs.YtlekdfajcpmolaaGreatDoor

theorem mNum_pack {r : List Int} (h : r.length ≤ 512) : mNum (mPackR r) = r.length := by
  have e0 : (mPackR r).getD 0 0 = UInt8.ofNat (r.length / 256) := rfl
  have e1 : (mPackR r).getD 1 0 = UInt8.ofNat (r.length % 256) := rfl
  unfold mNum
  rw [e0, e1, u8_back _ (by omega), u8_back _ (by omega)]
  omega
theorem mVals_pack {r : List Int} (h : ∀ s ∈ r, 0 ≤ s ∧ s ≤ 2) (N : Nat) (hN : N ≤ (r.length + 3) / 4 * 4) (i : Nat) (hi : i < N) : (mVals (mPackR r) N).getD i 0 = r.getD i 0 := by
  rw [mVals_getD, if_pos hi, mPackR_at r (i / 4) (by omega), u8_back _ (cell_lt h _), cell_dig h]
theorem mUn_pack {m : List Int} (h : mMay m = true) : mUn (mPack m) = some m := by
  obtain ⟨h1, h2, -⟩ := may_parts h
  unfold mPack
  rw [may_row h]
  have hv : mVals (mPackR m) m.length = m := by
    apply List.ext_getElem (by rw [mVals_len])
    intro i i1 i2
    have := mVals_pack h1 m.length (by omega) i i2
    rw [List.getD_eq_getElem?_getD, List.getD_eq_getElem?_getD, List.getElem?_eq_getElem i1, List.getElem?_eq_getElem i2] at this
    exact this
  unfold mUn
  rw [mNum_pack h2, mPackR_len, if_neg (by omega), hv, h, if_neg]
  simp only [Bool.not_true, Bool.or_false, Bool.not_eq_true]
  refine List.any_eq_false.2 fun s hs => ?_
  obtain ⟨j, hj⟩ := List.mem_iff_getElem?.1 hs
  rw [List.getElem?_drop] at hj
  have hjl := (List.getElem?_eq_some_iff.1 hj).1
  rw [mVals_len] at hjl
  have e := mVals_pack h1 ((m.length + 3) / 4 * 4) (Nat.le_refl _) (m.length + j) hjl
  rw [List.getD_eq_getElem?_getD, hj, Option.getD_some, getD_out _ _ (by omega)] at e
  simp [e]
theorem mPack_len {m : List Int} (h : mMay m = true) : (mPack m).length ≤ 130 := by
  have := (may_parts h).2.1
  unfold mPack
  rw [may_row h, mPackR_len]
  omega
/-- a map that is taken -/
def rdMap (r : Rd) : List Int × Rd := if (r.blob 200).2.e ≠ 0 then ([], (r.blob 200).2) else match mUn (r.blob 200).1 with
  | none => ([], (r.blob 200).2.fail 11)
  | some m => (m, (r.blob 200).2)
theorem rdMap_be {m : List Int} (h : mMay m = true) (l : List UInt8) : rdMap ⟨blobB (mPack m) ++ l, 0⟩ = (m, ⟨l, 0⟩) := by
  have hl := mPack_len h
  have hb := Rd.blob_be 200 (mPack m) l (by omega) (by omega)
  unfold blobB rdMap
  rw [List.append_assoc, hb, if_neg (by simp)]
  simp only
  rw [mUn_pack h]
def rdSnap (r : Rd) : SnD × Rd := (⟨(r.num 1).1, ((r.num 1).2.num 2).1, (rdMap ((r.num 1).2.num 2).2).1⟩, (rdMap ((r.num 1).2.num 2).2).2)
def rdSnaps : Nat → Rd → List SnD × Rd
  | 0, r => ([], r)
  | n + 1, r => if r.e = 0 then ((rdSnap r).1 :: (rdSnaps n (rdSnap r).2).1, (rdSnaps n (rdSnap r).2).2) else ([], r)
theorem rdSnap_be {s : SnD} (h1 : 0 ≤ s.id ∧ s.id < 256) (h2 : 0 ≤ s.size ∧ s.size < 65536) (h : mMay s.map = true) (l : List UInt8) : rdSnap ⟨snapB s ++ l, 0⟩ = (s, ⟨l, 0⟩) := by
  obtain ⟨i, z, m⟩ := s
  simp only at h1 h2 h
  have e : snapB ⟨i, z, m⟩ ++ l = be 1 i.toNat ++ (be 2 z.toNat ++ (blobB (mPack m) ++ l)) := by simp [snapB, List.append_assoc]
  unfold rdSnap
  rw [e, Rd.num_be 1 _ _ (by simp; omega)]
  simp only
  rw [Rd.num_be 2 _ _ (by simp; omega)]
  simp only
  rw [rdMap_be h]
  simp only [Prod.mk.injEq, SnD.mk.injEq, and_true]
  omega
theorem rdSnaps_be : ∀ (ss : List SnD), (∀ s ∈ ss, (0 ≤ s.id ∧ s.id < 256) ∧ (0 ≤ s.size ∧ s.size < 65536) ∧ mMay s.map = true) → ∀ l, rdSnaps ss.length ⟨ss.flatMap snapB ++ l, 0⟩ = (ss, ⟨l, 0⟩)
  | [], _, l => rfl
  | s :: ss, h, l => by
    obtain ⟨h1, h2, h3⟩ := h s (by simp)
    have e : (s :: ss).flatMap snapB ++ l = snapB s ++ (ss.flatMap snapB ++ l) := by simp [List.append_assoc]
    rw [e]
    show rdSnaps (ss.length + 1) _ = _
    unfold rdSnaps
    rw [if_pos rfl, rdSnap_be h1 h2 h3, rdSnaps_be ss fun x hx => h x (by simp [hx])]
end Go.Proofs.YtlekdfajcpmolaaGreatDoor
namespace Go.Proofs.YtlekdfajcpmolaaGreatDoor

def wsH : List Nat := [1, 1, 1, 1, 2, 6]
def unHN (l : List UInt8) : List Nat × Rd := rdNums wsH ⟨l, 0⟩
def unHM (l : List UInt8) : List Int × Rd := rdMap (unHN l).2
def unHK (l : List UInt8) : Nat × Rd := (unHM l).2.num 1
def unHF (l : List UInt8) : Rd := if 4 < (unHK l).1 then (unHK l).2.fail 11 else (unHK l).2
def unHS (l : List UInt8) : List SnD × Rd := rdSnaps (unHK l).1 (unHF l)
def unHP (l : List UInt8) : HeD := ⟨(unHN l).1.getD 0 0, (unHN l).1.getD 1 0, (unHN l).1.getD 2 0, (unHN l).1.getD 4 0, (unHM l).1, (unHS l).1, (unHN l).1.getD 3 0, (unHN l).1.getD 5 0⟩
section
variable (okL : Int → Int → Int → Bool) (objs : Int → Int → Int → Int → Int)
def unHE (l : List UInt8) : Int := if (unHS l).2.fin.e ≠ 0 then (unHS l).2.fin.e else if mayH okL objs (unHP l) then 0 else 60
/-- bytes' head, or its error -/
def unH (l : List UInt8) : HeD × Int := if unHE okL objs l = 0 then (unHP l, 0) else (HeD.none, unHE okL objs l)
/-- a head's bytes; none of one that may not be -/
def pkH (h : HeD) : List UInt8 := if mayH okL objs h then headB' h else []
variable {okL objs}
theorem sized_parts {u c o size : Int} {m : List Int} (h : sizedH objs u c o size m = true) : 0 ≤ size ∧ size ≤ 512 ∧ mMay m = true ∧ (m.length : Int) ≤ objs u c o size := by
  unfold sizedH at h
  simp only [Bool.and_eq_true, decide_eq_true_eq] at h
  exact ⟨h.1.1.1, h.1.1.2, h.1.2, h.2⟩
theorem snaps_parts {u c o last : Int} : ∀ (l : List SnD) (a : Int), 0 ≤ a → snapsH objs u c o last a l = true → ∀ s ∈ l, 0 ≤ s.id ∧ s.id ≤ last ∧ sizedH objs u c o s.size s.map = true
  | [], _, _, _, s, hs => by cases hs
  | x :: l, a, ha, h, s, hs => by
    unfold snapsH at h
    simp only [Bool.and_eq_true, decide_eq_true_eq] at h
    rcases List.mem_cons.1 hs with rfl | hs
    · exact ⟨by omega, h.1.1.2, h.1.2⟩
    · exact snaps_parts l x.id (by omega) h.2 s hs
structure MayP (h : HeD) : Prop where
  mk ::
  ok : okL h.u h.c h.o = true
  size : 0 ≤ h.size ∧ h.size ≤ 512
  map : mMay h.map = true
  few : h.snaps.length ≤ 4
  last : 0 ≤ h.last ∧ h.last ≤ 100
  seq : 0 ≤ h.seq ∧ h.seq ≤ 1099511627776
  snaps : ∀ s ∈ h.snaps, (0 ≤ s.id ∧ s.id ≤ 100) ∧ (0 ≤ s.size ∧ s.size ≤ 512) ∧ mMay s.map = true
theorem mayH_parts {h : HeD} (hm : mayH okL objs h = true) : MayP (okL := okL) h := by
  unfold mayH at hm
  simp only [Bool.and_eq_true, decide_eq_true_eq] at hm
  obtain ⟨⟨⟨⟨⟨h1, h2⟩, h3⟩, h4⟩, h5⟩, h6⟩ := hm
  have hs := sized_parts h2
  refine ⟨h1, ⟨hs.1, hs.2.1⟩, hs.2.2.1, h3, h4, h5, fun s hs => ?_⟩
  obtain ⟨a, b, c⟩ := snaps_parts h.snaps 0 (by omega) h6 s hs
  have hz := sized_parts c
  exact ⟨⟨a, by omega⟩, ⟨hz.1, hz.2.1⟩, hz.2.2.1⟩
/-- what was packed is taken back -/
theorem un_pkH (hL : ∀ u c o, okL u c o = true → 1 ≤ u ∧ u ≤ 64 ∧ 1 ≤ c ∧ c ≤ 8 ∧ 1 ≤ o ∧ o ≤ 64) {h : HeD} (hm : mayH okL objs h = true) : unH okL objs (pkH okL objs h) = (h, 0) := by
  have P := mayH_parts hm
  have L := hL _ _ _ P.ok
  unfold pkH
  rw [if_pos hm]
  obtain ⟨u, c, o, z, m, ss, la, sq⟩ := h
  have p1 := P.size
  have p2 := P.last
  have p3 := P.seq
  have p4 := P.few
  simp only at p1 p2 p3 p4 L
  have e : headB' ⟨u, c, o, z, m, ss, la, sq⟩ = be 1 u.toNat ++ (be 1 c.toNat ++ (be 1 o.toNat ++ (be 1 la.toNat ++ (be 2 z.toNat ++ (be 6 sq.toNat ++ (blobB (mPack m) ++ (be 1 ss.length ++ (ss.flatMap snapB ++ [])))))))) := by
    simp [headB', List.append_assoc]
  have hN : unHN (headB' ⟨u, c, o, z, m, ss, la, sq⟩) = ([u.toNat, c.toNat, o.toNat, la.toNat, z.toNat, sq.toNat], ⟨blobB (mPack m) ++ (be 1 ss.length ++ (ss.flatMap snapB ++ [])), 0⟩) := by
    unfold unHN
    rw [e]
    simp only [rdNums, wsH, List.foldl_cons, List.foldl_nil, rdStep]
    rw [Rd.num_be 1 u.toNat _ (by simp; omega)]
    simp only
    rw [Rd.num_be 1 c.toNat _ (by simp; omega)]
    simp only
    rw [Rd.num_be 1 o.toNat _ (by simp; omega)]
    simp only
    rw [Rd.num_be 1 la.toNat _ (by simp; omega)]
    simp only
    rw [Rd.num_be 2 z.toNat _ (by simp; omega)]
    simp only
    rw [Rd.num_be 6 sq.toNat _ (by simp; omega)]
    simp
  have hM : unHM (headB' ⟨u, c, o, z, m, ss, la, sq⟩) = (m, ⟨be 1 ss.length ++ (ss.flatMap snapB ++ []), 0⟩) := by
    unfold unHM
    rw [hN]
    exact rdMap_be P.map _
  have hK : unHK (headB' ⟨u, c, o, z, m, ss, la, sq⟩) = (ss.length, ⟨ss.flatMap snapB ++ [], 0⟩) := by
    unfold unHK
    rw [hM]
    exact Rd.num_be 1 _ _ (by simp; omega)
  have hF : unHF (headB' ⟨u, c, o, z, m, ss, la, sq⟩) = ⟨ss.flatMap snapB ++ [], 0⟩ := by
    unfold unHF
    rw [hK, if_neg (by simp only; omega)]
  have hS : unHS (headB' ⟨u, c, o, z, m, ss, la, sq⟩) = (ss, ⟨[], 0⟩) := by
    unfold unHS
    rw [hK, hF]
    exact rdSnaps_be ss (fun s hs => by
      obtain ⟨a, b, d⟩ := P.snaps s hs
      exact ⟨⟨a.1, by omega⟩, ⟨b.1, by omega⟩, d⟩) []
  have hP : unHP (headB' ⟨u, c, o, z, m, ss, la, sq⟩) = ⟨u, c, o, z, m, ss, la, sq⟩ := by
    unfold unHP
    rw [hN, hM, hS]
    simp only [List.getD_cons_zero, List.getD_cons_succ, HeD.mk.injEq, true_and]
    omega
  have hE : unHE okL objs (headB' ⟨u, c, o, z, m, ss, la, sq⟩) = 0 := by
    unfold unHE
    rw [hS, hP, if_neg (by simp [Rd.fin]), if_pos hm]
  unfold unH
  rw [if_pos hE, hP]
end
end Go.Proofs.YtlekdfajcpmolaaGreatDoor
