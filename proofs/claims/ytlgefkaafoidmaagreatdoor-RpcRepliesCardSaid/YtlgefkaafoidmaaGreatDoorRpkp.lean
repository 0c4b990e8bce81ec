/- The walk of terrazzoref16.PackReply at any reply. -/
import Derived.Test.YtlgefkaafoidmaaGreatDoorRpkq
import Derived.Test.YtlgefkaafoidmaaGreatDoorRmayP
import Derived.Test.YtlgefkaafoidmaaGreatDoorPkp
namespace Go.Proofs.YtlgefkaafoidmaaGreatDoor
open Go.RowKit Go.WideShapes

set_option maxRecDepth 100000 in
set_option maxHeartbeats 16000000 in
theorem rpkp_any (A B : Nat → Prop) (p : RpD) (dv kv : Value) (w : World) (hd : RB A w dv p.obj.data) (hk : SlE Enc.key B w kv p.obj.keys) (hlk : p.obj.keys.length ≤ 100000) :
    Calls Tryz.prog 16 #[rpV p dv kv] w (NewB w (pkpL p)) := by
  obtain ⟨da, dc, rfl⟩ := hd.shape
  obtain ⟨ka, kc, rfl⟩ := hk.shape
  obtain ⟨qc, ql, qs, qe, qn, qx, pt, ⟨pd, pk, qo⟩⟩ := p
  simp only at *
  have HD := Lib.hid hd
  have HK := Lib.hid hk
  have HEND : Hid (∀ v W l, OB w.heap.size W v l → Below w.heap.size w W → pkpL ⟨qc, ql, qs, qe, qn, qx, pt, ⟨pd, pk, qo⟩⟩ = l → NewB w (pkpL ⟨qc, ql, qs, qe, qn, qx, pt, ⟨pd, pk, qo⟩⟩) (.returned v) W) := Lib.hid fun v W l h1 h2 h3 => ⟨v, rfl, by rw [h3]; exact h1, h2⟩
  clear hd hk
  simp only [rpV]
  go_enter Tryz.func16, Tryz.ntmps16
  go_wp2_with fail
  refine (rmayp_any A B ⟨qc, ql, qs, qe, qn, qx, pt, ⟨pd, pk, qo⟩⟩ _ _ _ (HD.out.ext ((Below.refl _ _).alloc (Nat.le_refl _) _)) (HK.out.ext ((Below.refl _ _).alloc (Nat.le_refl _) _)) hlk).mono ?_
  rintro e w1 ⟨rfl, hb1⟩
  have hbw : Below w.heap.size w w1 := ((Below.refl _ w).alloc (Nat.le_refl _) _).trans (hb1.mono (by simp))
  cases hmay : mayRP ⟨qc, ql, qs, qe, qn, qx, pt, ⟨pd, pk, qo⟩⟩ with
  | false =>
    have HW := Lib.hid hbw
    have HP := Lib.hid (pkpL_no hmay)
    clear hb1 hmay hbw
    go_wp2
    go_ret
    exact HEND.out _ _ [] (OB.nil _ _) HW.out HP.out
  | true =>
  have HMQ := Lib.hid hmay
  obtain ⟨⟨⟨⟨i1, i2⟩, ⟨i3, i4⟩, ⟨i5, i6⟩⟩, ⟨i7, i8⟩, ⟨i9, i10⟩, ⟨i11, i12⟩⟩, hmb⟩ := mayRP_N hmay
  obtain ⟨hdl, hkl, ⟨i13, i14⟩, hks⟩ := mayB_parts hmb
  simp only at i1 i2 i3 i4 i5 i6 i7 i8 i9 i10 i11 i12 i13 i14 hdl hkl hks
  have HKS := Lib.hid hks
  clear hmay hmb hks
  obtain ⟨c, rfl⟩ := Int.eq_ofNat_of_zero_le i1
  obtain ⟨l, rfl⟩ := Int.eq_ofNat_of_zero_le i3
  obtain ⟨s, rfl⟩ := Int.eq_ofNat_of_zero_le i5
  obtain ⟨pe, rfl⟩ := Int.eq_ofNat_of_zero_le i7
  obtain ⟨n, rfl⟩ := Int.eq_ofNat_of_zero_le i9
  obtain ⟨x, rfl⟩ := Int.eq_ofNat_of_zero_le i11
  obtain ⟨po, rfl⟩ := Int.eq_ofNat_of_zero_le i13
  have hnum : Hid ((c < 256 ^ 1 ∧ l < 256 ^ 4 ∧ s < 256 ^ 6) ∧ (pe < 256 ^ 2 ∧ n < 256 ^ 6 ∧ x < 256 ^ 6) ∧ po < 256 ^ 6 ∧ pk.length < 256 ^ 1) := by
    show _ ∧ _
    omega
  clear i1 i2 i3 i4 i5 i6 i7 i8 i9 i10 i11 i12 i13 i14
  have HQ1 : Hid (w1.heap[w.heap.size]? = some (.cells (rpC ⟨(c : Int), (l : Int), (s : Int), (pe : Int), (n : Int), (x : Int), pt, ⟨pd, pk, (po : Int)⟩⟩ (.slice da pd.length dc) (.slice ka pk.length kc)) 40 (0, 0))) := Lib.hid ((hb1.block _ (by simp)).trans (heap_alloc_new _ _))
  have hs1 := hb1.size
  simp only [World.size_alloc] at hs1
  have HB1 : Hid (HBs (w.heap.size + 1) w1 w1) := Lib.hid ⟨Below.refl _ _, hs1⟩
  have HBW := Lib.hid hbw
  clear hb1 hbw
  obtain ⟨y0, y1, y2, y3, y4, y5, y6, y7, y8, y9, -⟩ := rp_cells HQ1.out
  simp only at y0 y1 y2 y3 y4 y5 y6 y7 y8 y9
  go_wp2_with fail
  refine (rhead_any c l s hnum.out.1.1 hnum.out.1.2.1 hnum.out.1.2.2 _).mono ?_
  rintro e w2 ⟨v2, rfl, ho2, hb2⟩
  obtain ⟨a2, n2, c2, rfl⟩ := ho2.shape3
  have HR := Lib.hid (ho2.base_le hs1)
  have HB := Lib.hid (hb_call HB1.out hb2)
  have HQ := Lib.hid (blkk hb2 HQ1.out)
  clear ho2 hb2 HB1 HQ1 y0 y1 y2 y3 y4 y5 y6 y7 y8 y9
  obtain ⟨y0, y1, y2, y3, y4, y5, y6, y7, y8, y9, -⟩ := rp_cells HQ.out
  simp only at y0 y1 y2 y3 y4 y5 y6 y7 y8 y9
  go_wp2_with fail
  refine (bnum_any 2 pe (by omega) (by omega) hnum.out.2.1.1 _).mono ?_
  rintro e wa ⟨va, rfl, hoa, hba⟩
  obtain ⟨xa, xn, xc, rfl⟩ := hoa.shape3
  have HOA := Lib.hid hoa
  have HRA := Lib.hid (HR.out.ext hba)
  have HBA := Lib.hid (hb_call HB.out hba)
  have HQA := Lib.hid (blkk hba HQ.out)
  clear hoa hba HR HB HQ y0 y1 y2 y3 y4 y5 y6 y7 y8 y9
  obtain ⟨y0, y1, y2, y3, y4, y5, y6, y7, y8, y9, -⟩ := rp_cells HQA.out
  simp only at y0 y1 y2 y3 y4 y5 y6 y7 y8 y9
  go_wp2_with (first | (at_builtin; refine stop_in ?_) | go_in)
  unfold Stop
  refine wpList_appB _ (by rfl) _ _ (by rfl) (w.heap.size + 1) _ _ (by rfl) HRA.out _ _ _ (by rfl) HOA.out.rb (by simp [be_length]) HBA.out.2 ?_
  intro vb wb hob hbb
  obtain ⟨ya, yn, yc, rfl⟩ := hob.shape3
  have HR : Hid (OB (w.heap.size + 1) wb (.slice ya yn yc) ((be 1 c ++ be 4 l ++ be 6 s) ++ be 2 pe)) := Lib.hid hob
  have HB := Lib.hid (hb_app HBA.out hbb)
  have HQ := Lib.hid ((hbb.block _ (by omega)).trans HQA.out)
  clear hob hbb HOA HRA HBA HQA y0 y1 y2 y3 y4 y5 y6 y7 y8 y9
  obtain ⟨y0, y1, y2, y3, y4, y5, y6, y7, y8, y9, -⟩ := rp_cells HQ.out
  simp only at y0 y1 y2 y3 y4 y5 y6 y7 y8 y9
  go_wp2_with fail
  refine (bnum_any 6 n (by omega) (by omega) hnum.out.2.1.2.1 _).mono ?_
  rintro e wa ⟨va, rfl, hoa, hba⟩
  obtain ⟨xa, xn, xc, rfl⟩ := hoa.shape3
  have HOA := Lib.hid hoa
  have HRA := Lib.hid (HR.out.ext hba)
  have HBA := Lib.hid (hb_call HB.out hba)
  have HQA := Lib.hid (blkk hba HQ.out)
  clear hoa hba HR HB HQ y0 y1 y2 y3 y4 y5 y6 y7 y8 y9
  obtain ⟨y0, y1, y2, y3, y4, y5, y6, y7, y8, y9, -⟩ := rp_cells HQA.out
  simp only at y0 y1 y2 y3 y4 y5 y6 y7 y8 y9
  go_wp2_with (first | (at_builtin; refine stop_in ?_) | go_in)
  unfold Stop
  refine wpList_appB _ (by rfl) _ _ (by rfl) (w.heap.size + 1) _ _ (by rfl) HRA.out _ _ _ (by rfl) HOA.out.rb (by simp [be_length]) HBA.out.2 ?_
  intro vb wb hob hbb
  obtain ⟨ya, yn, yc, rfl⟩ := hob.shape3
  have HR : Hid (OB (w.heap.size + 1) wb (.slice ya yn yc) ((be 1 c ++ be 4 l ++ be 6 s) ++ be 2 pe ++ be 6 n)) := Lib.hid hob
  have HB := Lib.hid (hb_app HBA.out hbb)
  have HQ := Lib.hid ((hbb.block _ (by omega)).trans HQA.out)
  clear hob hbb HOA HRA HBA HQA y0 y1 y2 y3 y4 y5 y6 y7 y8 y9
  obtain ⟨y0, y1, y2, y3, y4, y5, y6, y7, y8, y9, -⟩ := rp_cells HQ.out
  simp only at y0 y1 y2 y3 y4 y5 y6 y7 y8 y9
  go_wp2_with fail
  refine (bnum_any 6 x (by omega) (by omega) hnum.out.2.1.2.2 _).mono ?_
  rintro e wa ⟨va, rfl, hoa, hba⟩
  obtain ⟨xa, xn, xc, rfl⟩ := hoa.shape3
  have HOA := Lib.hid hoa
  have HRA := Lib.hid (HR.out.ext hba)
  have HBA := Lib.hid (hb_call HB.out hba)
  have HQA := Lib.hid (blkk hba HQ.out)
  clear hoa hba HR HB HQ y0 y1 y2 y3 y4 y5 y6 y7 y8 y9
  obtain ⟨y0, y1, y2, y3, y4, y5, y6, y7, y8, y9, -⟩ := rp_cells HQA.out
  simp only at y0 y1 y2 y3 y4 y5 y6 y7 y8 y9
  go_wp2_with (first | (at_builtin; refine stop_in ?_) | go_in)
  unfold Stop
  refine wpList_appB _ (by rfl) _ _ (by rfl) (w.heap.size + 1) _ _ (by rfl) HRA.out _ _ _ (by rfl) HOA.out.rb (by simp [be_length]) HBA.out.2 ?_
  intro vb wb hob hbb
  obtain ⟨ya, yn, yc, rfl⟩ := hob.shape3
  have HR : Hid (OB (w.heap.size + 1) wb (.slice ya yn yc) ((be 1 c ++ be 4 l ++ be 6 s) ++ be 2 pe ++ be 6 n ++ be 6 x)) := Lib.hid hob
  have HB := Lib.hid (hb_app HBA.out hbb)
  have HQ := Lib.hid ((hbb.block _ (by omega)).trans HQA.out)
  clear hob hbb HOA HRA HBA HQA y0 y1 y2 y3 y4 y5 y6 y7 y8 y9
  obtain ⟨y0, y1, y2, y3, y4, y5, y6, y7, y8, y9, -⟩ := rp_cells HQ.out
  simp only at y0 y1 y2 y3 y4 y5 y6 y7 y8 y9
  obtain ⟨th, hth, hth1⟩ : ∃ th : Nat, th = (if pt then 1 else 0) ∧ th < 256 ^ 1 := ⟨_, rfl, by cases pt <;> decide⟩
  have HTH := Lib.hid hth
  obtain ⟨w10, hw10⟩ : ∃ z, z = wb := ⟨_, rfl⟩
  subst hw10
  go_upto_if 34 with fail
  go_cut [5] (fun s6 wx => s6 = .int .i64 (th : Nat) ∧ wx = w10)
  case first =>
    cases pt with
    | true =>
      simp only [if_true] at hth
      subst hth
      go_wp2_with fail
      go_meet
      exact ⟨rfl, rfl⟩
    | false =>
      simp only [if_false, Bool.false_eq_true] at hth
      subst hth
      go_wp2_with fail
      go_meet
      exact ⟨rfl, rfl⟩
  case rest =>
    obtain ⟨rfl, hwc⟩ := hcut
    replace hwc := hwc.symm
    subst hwc
    clear hth y0 y1 y2 y3 y4 y5 y6 y7 y8 y9
    obtain ⟨y0, y1, y2, y3, y4, y5, y6, y7, y8, y9, -⟩ := rp_cells HQ.out
    simp only at y0 y1 y2 y3 y4 y5 y6 y7 y8 y9
    go_wp2_with fail
    refine (bnum_any 1 th (by omega) (by omega) hth1 _).mono ?_
    rintro e wa ⟨va, rfl, hoa, hba⟩
    obtain ⟨xa, xn, xc, rfl⟩ := hoa.shape3
    have HOA := Lib.hid hoa
    have HRA := Lib.hid (HR.out.ext hba)
    have HBA := Lib.hid (hb_call HB.out hba)
    have HQA := Lib.hid (blkk hba HQ.out)
    clear hoa hba HR HB HQ y0 y1 y2 y3 y4 y5 y6 y7 y8 y9
    obtain ⟨y0, y1, y2, y3, y4, y5, y6, y7, y8, y9, -⟩ := rp_cells HQA.out
    simp only at y0 y1 y2 y3 y4 y5 y6 y7 y8 y9
    go_wp2_with (first | (at_builtin; refine stop_in ?_) | go_in)
    unfold Stop
    refine wpList_appB _ (by rfl) _ _ (by rfl) (w.heap.size + 1) _ _ (by rfl) HRA.out _ _ _ (by rfl) HOA.out.rb (by simp [be_length]) HBA.out.2 ?_
    intro vb wb hob hbb
    obtain ⟨ya, yn, yc, rfl⟩ := hob.shape3
    have HR : Hid (OB (w.heap.size + 1) wb (.slice ya yn yc) ((be 1 c ++ be 4 l ++ be 6 s) ++ be 2 pe ++ be 6 n ++ be 6 x ++ be 1 th)) := Lib.hid hob
    have HB := Lib.hid (hb_app HBA.out hbb)
    have HQ := Lib.hid ((hbb.block _ (by omega)).trans HQA.out)
    clear hob hbb HOA HRA HBA HQA y0 y1 y2 y3 y4 y5 y6 y7 y8 y9
    obtain ⟨y0, y1, y2, y3, y4, y5, y6, y7, y8, y9, -⟩ := rp_cells HQ.out
    simp only at y0 y1 y2 y3 y4 y5 y6 y7 y8 y9
    go_wp2_with fail
    refine (bnum_any 6 po (by omega) (by omega) hnum.out.2.2.1 _).mono ?_
    rintro e wa ⟨va, rfl, hoa, hba⟩
    obtain ⟨xa, xn, xc, rfl⟩ := hoa.shape3
    have HOA := Lib.hid hoa
    have HRA := Lib.hid (HR.out.ext hba)
    have HBA := Lib.hid (hb_call HB.out hba)
    have HQA := Lib.hid (blkk hba HQ.out)
    clear hoa hba HR HB HQ y0 y1 y2 y3 y4 y5 y6 y7 y8 y9
    obtain ⟨y0, y1, y2, y3, y4, y5, y6, y7, y8, y9, -⟩ := rp_cells HQA.out
    simp only at y0 y1 y2 y3 y4 y5 y6 y7 y8 y9
    go_wp2_with (first | (at_builtin; refine stop_in ?_) | go_in)
    unfold Stop
    refine wpList_appB _ (by rfl) _ _ (by rfl) (w.heap.size + 1) _ _ (by rfl) HRA.out _ _ _ (by rfl) HOA.out.rb (by simp [be_length]) HBA.out.2 ?_
    intro vb wb hob hbb
    obtain ⟨ya, yn, yc, rfl⟩ := hob.shape3
    have HR : Hid (OB (w.heap.size + 1) wb (.slice ya yn yc) ((be 1 c ++ be 4 l ++ be 6 s) ++ be 2 pe ++ be 6 n ++ be 6 x ++ be 1 th ++ be 6 po)) := Lib.hid hob
    have HB := Lib.hid (hb_app HBA.out hbb)
    have HQ := Lib.hid ((hbb.block _ (by omega)).trans HQA.out)
    clear hob hbb HOA HRA HBA HQA y0 y1 y2 y3 y4 y5 y6 y7 y8 y9
    obtain ⟨y0, y1, y2, y3, y4, y5, y6, y7, y8, y9, -⟩ := rp_cells HQ.out
    simp only at y0 y1 y2 y3 y4 y5 y6 y7 y8 y9
    go_wp2_with fail
    refine (bblob_any A _ pd _ (HD.out.ext (HBW.out.trans (HB.out.1.mono (by omega)))) (by omega)).mono ?_
    rintro e wa ⟨va, rfl, hoa, hba⟩
    obtain ⟨xa, xn, xc, rfl⟩ := hoa.shape3
    have HOA := Lib.hid hoa
    have HRA := Lib.hid (HR.out.ext hba)
    have HBA := Lib.hid (hb_call HB.out hba)
    have HQA := Lib.hid (blkk hba HQ.out)
    clear hoa hba HR HB HQ y0 y1 y2 y3 y4 y5 y6 y7 y8 y9
    obtain ⟨y0, y1, y2, y3, y4, y5, y6, y7, y8, y9, -⟩ := rp_cells HQA.out
    simp only at y0 y1 y2 y3 y4 y5 y6 y7 y8 y9
    go_wp2_with (first | (at_builtin; refine stop_in ?_) | go_in)
    unfold Stop
    refine wpList_appB _ (by rfl) _ _ (by rfl) (w.heap.size + 1) _ _ (by rfl) HRA.out _ _ _ (by rfl) HOA.out.rb (by simp [be_length] <;> omega) HBA.out.2 ?_
    intro vb wb hob hbb
    obtain ⟨ya, yn, yc, rfl⟩ := hob.shape3
    have HR : Hid (OB (w.heap.size + 1) wb (.slice ya yn yc) ((be 1 c ++ be 4 l ++ be 6 s) ++ be 2 pe ++ be 6 n ++ be 6 x ++ be 1 th ++ be 6 po ++ (be 2 pd.length ++ pd))) := Lib.hid hob
    have HB := Lib.hid (hb_app HBA.out hbb)
    have HQ := Lib.hid ((hbb.block _ (by omega)).trans HQA.out)
    clear hob hbb HOA HRA HBA HQA y0 y1 y2 y3 y4 y5 y6 y7 y8 y9
    obtain ⟨y0, y1, y2, y3, y4, y5, y6, y7, y8, y9, -⟩ := rp_cells HQ.out
    simp only at y0 y1 y2 y3 y4 y5 y6 y7 y8 y9
    go_wp2_with fail
    refine (bnum_any 1 pk.length (by omega) (by omega) hnum.out.2.2.2 _).mono ?_
    rintro e wa ⟨va, rfl, hoa, hba⟩
    obtain ⟨xa, xn, xc, rfl⟩ := hoa.shape3
    have HOA := Lib.hid hoa
    have HRA := Lib.hid (HR.out.ext hba)
    have HBA := Lib.hid (hb_call HB.out hba)
    have HQA := Lib.hid (blkk hba HQ.out)
    clear hoa hba HR HB HQ y0 y1 y2 y3 y4 y5 y6 y7 y8 y9
    obtain ⟨y0, y1, y2, y3, y4, y5, y6, y7, y8, y9, -⟩ := rp_cells HQA.out
    simp only at y0 y1 y2 y3 y4 y5 y6 y7 y8 y9
    go_wp2_with (first | (at_builtin; refine stop_in ?_) | go_in)
    unfold Stop
    refine wpList_appB _ (by rfl) _ _ (by rfl) (w.heap.size + 1) _ _ (by rfl) HRA.out _ _ _ (by rfl) HOA.out.rb (by simp [be_length] <;> omega) HBA.out.2 ?_
    intro vb wb hob hbb
    obtain ⟨ya, yn, yc, rfl⟩ := hob.shape3
    have HR : Hid (OB (w.heap.size + 1) wb (.slice ya yn yc) ((be 1 c ++ be 4 l ++ be 6 s) ++ be 2 pe ++ be 6 n ++ be 6 x ++ be 1 th ++ be 6 po ++ (be 2 pd.length ++ pd) ++ be 1 pk.length)) := Lib.hid hob
    have HB := Lib.hid (hb_app HBA.out hbb)
    have HQ := Lib.hid ((hbb.block _ (by omega)).trans HQA.out)
    clear hob hbb HOA HRA HBA HQA y0 y1 y2 y3 y4 y5 y6 y7 y8 y9
    obtain ⟨y0, y1, y2, y3, y4, y5, y6, y7, y8, y9, -⟩ := rp_cells HQ.out
    simp only at y0 y1 y2 y3 y4 y5 y6 y7 y8 y9
    obtain ⟨L0, hL0⟩ : ∃ L0, L0 = ((be 1 c ++ be 4 l ++ be 6 s) ++ be 2 pe ++ be 6 n ++ be 6 x ++ be 1 th ++ be 6 po ++ (be 2 pd.length ++ pd) ++ be 1 pk.length) := ⟨_, rfl⟩
    rw [← hL0] at HR
    have HL0 : Hid (L0.length ≤ 200) := by
      show _ ≤ _
      rw [hL0]
      simp [be_length]
      omega
    have HBO : Hid (pkL L0 pk pk.length = bodyOf ⟨(c : Int), (l : Int), (s : Int), (pe : Int), (n : Int), (x : Int), pt, ⟨pd, pk, (po : Int)⟩⟩) := by
      show pkL _ _ _ = _
      rw [hL0, bodyOf_nat HTH.out]
      simp [catB]
    clear hL0
    go_wp2
    go_loopw [4, 6] (fun o q wr => ∃ (k : Nat) (ra : Option Addr) (rn rc : Nat), k ≤ pk.length ∧ q = .int .i64 k ∧ o = .slice ra rn rc ∧ OB (w.heap.size + 1) wr (.slice ra rn rc) (pkL L0 pk k) ∧ HBs (w.heap.size + 1) w1 wr ∧ wr.heap[w.heap.size]? = some (.cells (rpC ⟨(c : Int), (l : Int), (s : Int), (pe : Int), (n : Int), (x : Int), pt, ⟨pd, pk, (po : Int)⟩⟩ (.slice da pd.length dc) (.slice ka pk.length kc)) 40 (0, 0)) ∧ (pkL L0 pk k).length ≤ 200 + 3104 * k) (fun _ q _ => pk.length - (intOf q).toNat)
    case atStart => exact ⟨0, _, _, _, Nat.zero_le _, rfl, rfl, by rw [pkL_zero]; exact HR.out, HB.out, HQ.out, by rw [pkL_zero]; exact HL0.out⟩
    case round =>
      obtain ⟨k, ra, rn, rc, hk, rfl, rfl, hR, hB, hQ, hlen⟩ := hrel
      replace HR := Lib.hid hR
      replace HB := Lib.hid hB
      replace HQ := Lib.hid hQ
      have HLR := Lib.hid hlen
      clear hR hB hQ hlen y0 y1 y2 y3 y4 y5 y6 y7 y8 y9
      obtain ⟨y0, y1, y2, y3, y4, y5, y6, y7, y8, y9, -⟩ := rp_cells HQ.out
      simp only at y0 y1 y2 y3 y4 y5 y6 y7 y8 y9
      by_cases hlt : k < pk.length
      · have HSU : Hid (pkL L0 pk (k + 1) = pkL L0 pk k ++ (be 2 pk[k].name.data.toList.length ++ pk[k].name.data.toList) ++ (be 2 pk[k].value.length ++ pk[k].value)) := Lib.hid ((pkL_succ L0 hlt).trans (by simp [List.append_assoc]))
        have HKN := Lib.hid (HKS.out pk[k] (List.getElem_mem hlt))
        obtain ⟨b, off, v, rfl, hb, -, c3w, c4w, hv⟩ := Keys.at HK.out hlt
        have hBw : Below w.heap.size w wr := HBW.out.trans (HB.out.1.mono (by omega))
        have c3 := cellExt hBw c3w
        obtain ⟨va, vc, rfl⟩ := hv.shape
        have HV := Lib.hid hv
        have HC4 := Lib.hid c4w
        clear hv c4w c3w hBw
        generalize pk[k] = ky at *
        obtain ⟨nm, vl⟩ := ky
        simp only at c3 HC4 HSU HKN HV
        have hnl : nm.data.toList.length = nm.size := by simp
        have HNL := Lib.hid hnl
        have HLK : Hid (nm.size ≤ 100 ∧ vl.length ≤ 3000) := HKN.out
        clear hnl HKN
        have hcs := fun W : World => run_bytes_of_string (P := Tryz.prog) W 9 27 5 nm Tryz.underlying9 Tryz.underlying27 Tryz.underlying5
        replace HR := Lib.hid (HR.out.ext (str_below wr nm))
        replace HB := Lib.hid (hb_call HB.out (str_below wr nm))
        replace HQ := Lib.hid (blkk (str_below wr nm) HQ.out)
        go_wp2_with fail
        refine (bblob_any _ _ nm.data.toList _ (str_row wr nm) (by rw [HNL.out]; have := HLK.out.1; omega)).mono ?_
        rintro e wa ⟨va2, rfl, hoa, hba⟩
        obtain ⟨xa, xn, xc, rfl⟩ := hoa.shape3
        have HOA := Lib.hid hoa
        have HRA := Lib.hid (HR.out.ext hba)
        have HBA := Lib.hid (hb_call HB.out hba)
        have HQA := Lib.hid (blkk hba HQ.out)
        clear hoa hba HR HB HQ hcs c3 y0 y1 y2 y3 y4 y5 y6 y7 y8 y9
        obtain ⟨y0, y1, y2, y3, y4, y5, y6, y7, y8, y9, -⟩ := rp_cells HQA.out
        simp only at y0 y1 y2 y3 y4 y5 y6 y7 y8 y9
        go_wp2_with (first | (at_builtin; refine stop_in ?_) | go_in)
        unfold Stop
        refine wpList_appB _ (by rfl) _ _ (by rfl) (w.heap.size + 1) _ _ (by rfl) HRA.out _ _ _ (by rfl) HOA.out.rb (by have := HLR.out; have := HLK.out.1; have := HNL.out; simp only [List.length_append, be_length]; omega) HBA.out.2 ?_
        intro vb wb hob hbb
        obtain ⟨ya, yn, yc, rfl⟩ := hob.shape3
        have HR := Lib.hid hob
        have HB := Lib.hid (hb_app HBA.out hbb)
        have HQ := Lib.hid ((hbb.block _ (by omega)).trans HQA.out)
        clear hob hbb HOA HRA HBA HQA y0 y1 y2 y3 y4 y5 y6 y7 y8 y9
        obtain ⟨y0, y1, y2, y3, y4, y5, y6, y7, y8, y9, -⟩ := rp_cells HQ.out
        simp only at y0 y1 y2 y3 y4 y5 y6 y7 y8 y9
        have hBw : Below w.heap.size w wb := HBW.out.trans (HB.out.1.mono (by omega))
        have c4 := cellExt hBw HC4.out
        have HVB := Lib.hid (HV.out.ext hBw)
        clear hBw
        go_wp2_with fail
        refine (bblob_any _ _ vl _ HVB.out (by have := HLK.out.2; omega)).mono ?_
        rintro e wa ⟨va2, rfl, hoa, hba⟩
        obtain ⟨xa, xn, xc, rfl⟩ := hoa.shape3
        have HOA := Lib.hid hoa
        have HRA := Lib.hid (HR.out.ext hba)
        have HBA := Lib.hid (hb_call HB.out hba)
        have HQA := Lib.hid (blkk hba HQ.out)
        clear hoa hba HR HB HQ HVB c4 y0 y1 y2 y3 y4 y5 y6 y7 y8 y9
        obtain ⟨y0, y1, y2, y3, y4, y5, y6, y7, y8, y9, -⟩ := rp_cells HQA.out
        simp only at y0 y1 y2 y3 y4 y5 y6 y7 y8 y9
        go_wp2_with (first | (at_builtin; refine stop_in ?_) | go_in)
        unfold Stop
        refine wpList_appB _ (by rfl) _ _ (by rfl) (w.heap.size + 1) _ _ (by rfl) HRA.out _ _ _ (by rfl) HOA.out.rb (by have := HLR.out; have := HLK.out; have := HNL.out; simp only [List.length_append, be_length]; omega) HBA.out.2 ?_
        intro vb wb hob hbb
        obtain ⟨ya, yn, yc, rfl⟩ := hob.shape3
        have HR := Lib.hid hob
        have HB := Lib.hid (hb_app HBA.out hbb)
        have HQ := Lib.hid ((hbb.block _ (by omega)).trans HQA.out)
        clear hob hbb HOA HRA HBA HQA y0 y1 y2 y3 y4 y5 y6 y7 y8 y9
        go_wp2
        go_roundw
        case rel =>
          refine ⟨k + 1, _, _, _, by omega, by go_num, rfl, by rw [HSU.out]; exact HR.out, HB.out, HQ.out, ?_⟩
          rw [HSU.out]
          have := HLR.out
          have := HLK.out
          have := HNL.out
          simp only [List.length_append, be_length]
          omega
        case measure => simp [intOf]; omega
      · obtain rfl : k = pk.length := by omega
        clear hlt
        go_wp2_with fail
        refine (rframed_any _ 2 _ _ _ (by decide) HR.out.rb (by have := HLR.out; omega)).mono ?_
        rintro e wf ⟨vf, rfl, hof, hbf⟩
        obtain ⟨ta, tn, tc, rfl⟩ := hof.shape3
        have HOF := Lib.hid hof
        have HBF := Lib.hid (hb_call HB.out hbf)
        have hse := HB.out.2
        clear hof hbf
        go_wp2
        go_ret
        exact HEND.out _ _ _ (HOF.out.base_le (by omega)) (HBW.out.trans (HBF.out.1.mono (by omega))) (pkpL_if HMQ.out HBO.out.symm)
end Go.Proofs.YtlgefkaafoidmaaGreatDoor
