/- The walks of terrazzoref16.head, framed, PackRequest at any request that is small enough to be asked about. -/
import Derived.Test.YtlgefkaafoidmaaGreatDoorGN
import Derived.Test.YtlgefkaafoidmaaGreatDoorRmay
import Derived.Test.YtlgefkaafoidmaaGreatDoorRpk9
namespace Go.Proofs.YtlgefkaafoidmaaGreatDoor
open Go.RowKit Go.WideShapes

theorem rpk_ops_len : ∀ (l : List OpD), (∀ o ∈ l, opP o) → (l.flatMap opBytes).length ≤ 2100 * l.length
  | [], _ => by simp
  | o :: l, h => by
    have h1 := rpk_ops_len l fun o ho => h o (by simp [ho])
    obtain ⟨-, -, -, -, -, -, p7, p8⟩ := h o (by simp)
    have hnl : o.name.data.toList.length = o.name.size := by simp
    have h2 : (opBytes o).length ≤ 2100 := by
      simp only [opBytes, List.length_append, be_length]
      omega
    simp only [List.flatMap_cons, List.length_append, List.length_cons]
    omega
theorem txL_len {t : TxD} (h : txE t = 0) : (txL t t.ops.length).length ≤ 40000 := by
  have ha : txL t t.ops.length = be 2 t.obj.data.toList.length ++ t.obj.data.toList ++ be 1 t.ops.length ++ t.ops.flatMap opBytes := by
    unfold txL
    rw [List.take_length, List.nil_append]
  rw [ha]
  obtain ⟨hl, hnm, hall⟩ := txE_ok h
  have hop : ∀ o ∈ t.ops, opP o := fun o ho => of_decide_eq_true (List.all_eq_true.1 hall o ho)
  have h1 := rpk_ops_len t.ops hop
  have h2 := nameB_len hnm
  have hol : t.obj.data.toList.length = t.obj.size := by simp
  simp only [List.length_append, be_length]
  omega
theorem pkqL_if {q : RqD} {x L : List UInt8} (hq : mayQ q = true) (hx : blobQ q = x) (hL : bodyQ q.client.toNat q.life.toNat q.seq.toNat q.kind.toNat q.image.toNat q.who.toNat q.n.toNat x = L) : pkqL q = if L.length ≤ 8192 then frm 1 L else [] := by
  have hl := bodyQ_length q.client.toNat q.life.toNat q.seq.toNat q.kind.toNat q.image.toNat q.who.toNat q.n.toNat x
  rw [hL] at hl
  by_cases h : L.length ≤ 8192
  · rw [if_pos h, pkqL_ok hq hx (by omega), hL]
  · rw [if_neg h, pkqL_long hx (by omega)]
/-- what has been made since w, and no less than so many blocks -/
def HBs (base : Nat) (w W : World) : Prop := Below base w W ∧ base ≤ W.heap.size
theorem hb_call {base : Nat} {w W W' : World} (h : HBs base w W) (hb : Below W.heap.size W W') : HBs base w W' := ⟨h.1.trans (hb.mono h.2), Nat.le_trans h.2 hb.size⟩
theorem hb_app {base : Nat} {w W W' : World} (h : HBs base w W) (hb : Below base W W') : HBs base w W' := ⟨h.1.trans hb, Nat.le_trans h.2 hb.size⟩
set_option maxRecDepth 100000 in
set_option maxHeartbeats 1600000 in
theorem rhead_any (c l s : Nat) (hc : c < 256 ^ 1) (hl : l < 256 ^ 4) (hs : s < 256 ^ 6) (w : World) : Calls Tryz.prog 41 #[.int .i64 c, .int .i64 l, .int .i64 s] w (NewB w (be 1 c ++ be 4 l ++ be 6 s)) := by
  go_enter Tryz.func41, Tryz.ntmps41
  go_wp2_with fail
  refine (bnum_any 1 c (by omega) (by omega) hc _).mono ?_
  rintro e w1 ⟨v1, rfl, ho1, hb1⟩
  obtain ⟨a1, n1, c1, rfl⟩ := ho1.shape3
  have HR := Lib.hid ho1
  have HB : Hid (HBs w.heap.size w w1) := Lib.hid ⟨hb1, hb1.size⟩
  clear ho1 hb1
  go_wp2_with fail
  refine (bnum_any 4 l (by omega) (by omega) hl _).mono ?_
  rintro e wa ⟨va, rfl, hoa, hba⟩
  obtain ⟨xa, xn, xc, rfl⟩ := hoa.shape3
  have HOA := Lib.hid hoa
  have HRA := Lib.hid (HR.out.ext hba)
  have HBA := Lib.hid (hb_call HB.out hba)
  clear hoa hba HR HB
  go_wp2_with (first | (at_builtin; refine stop_in ?_) | go_in)
  unfold Stop
  refine wpList_appB _ (by rfl) _ _ (by rfl) w.heap.size _ _ (by rfl) HRA.out _ _ _ (by rfl) HOA.out.rb (by simp [be_length]) HBA.out.2 ?_
  intro vb wb hob hbb
  obtain ⟨ya, yn, yc, rfl⟩ := hob.shape3
  have HR : Hid (OB w.heap.size wb (.slice ya yn yc) (be 1 c ++ be 4 l)) := Lib.hid hob
  have HB := Lib.hid (hb_app HBA.out hbb)
  clear hob hbb HOA HRA HBA
  go_wp2_with fail
  refine (bnum_any 6 s (by omega) (by omega) hs _).mono ?_
  rintro e wa ⟨va, rfl, hoa, hba⟩
  obtain ⟨xa, xn, xc, rfl⟩ := hoa.shape3
  have HOA := Lib.hid hoa
  have HRA := Lib.hid (HR.out.ext hba)
  have HBA := Lib.hid (hb_call HB.out hba)
  clear hoa hba HR HB
  go_wp2_with (first | (at_builtin; refine stop_in ?_) | go_in)
  unfold Stop
  refine wpList_appB _ (by rfl) _ _ (by rfl) w.heap.size _ _ (by rfl) HRA.out _ _ _ (by rfl) HOA.out.rb (by simp [be_length]) HBA.out.2 ?_
  intro vb wb hob hbb
  obtain ⟨ya, yn, yc, rfl⟩ := hob.shape3
  have HR : Hid (OB w.heap.size wb (.slice ya yn yc) (be 1 c ++ be 4 l ++ be 6 s)) := Lib.hid hob
  have HB := Lib.hid (hb_app HBA.out hbb)
  clear hob hbb HOA HRA HBA
  go_wp2
  go_ret
  exact ⟨_, rfl, HR.out, HB.out.1⟩
set_option maxRecDepth 100000 in
set_option maxHeartbeats 1600000 in
theorem rframed_any (A : Nat → Prop) (k : Nat) (x : Value) (m : List UInt8) (w : World) (hk : k < 256) (hx : RB A w x m) (hm : m.length ≤ 1000000) : Calls Tryz.prog 45 #[.int .i64 k, x] w (NewB w (if m.length ≤ 8192 then frm k m else [])) := by
  obtain ⟨xa, xc, rfl⟩ := hx.shape
  have HX := Lib.hid hx
  obtain ⟨X, hX⟩ : ∃ X, X = (if m.length ≤ 8192 then frm k m else []) := ⟨_, rfl⟩
  rw [← hX]
  have HXX := Lib.hid hX
  clear hx hX
  go_enter Tryz.func45, Tryz.ntmps45
  go_wp2_with fail
  refine (rmk_any A k _ m _ hk HX.out hm).mono ?_
  rintro e w1 ⟨v1, rfl, ho1, hb1⟩
  by_cases hl : m.length ≤ 8192
  · rw [if_pos hl] at ho1 ⊢
    have HE : Hid (X = frm k m) := Lib.hid (HXX.out.trans (if_pos hl))
    obtain ⟨a1, c1, rfl⟩ := ho1.rb.shape
    have HO := Lib.hid ho1
    have HB := Lib.hid hb1
    clear ho1 hb1 HXX
    go_wp2
    go_ret
    rw [HE.out]
    exact ⟨_, rfl, HO.out, HB.out⟩
  · rw [if_neg hl] at ho1 ⊢
    have HE : Hid (X = []) := Lib.hid (HXX.out.trans (if_neg hl))
    obtain ⟨a1, c1, rfl⟩ := ho1.rb.shape
    have HB := Lib.hid hb1
    clear ho1 hb1 HXX
    go_wp2
    go_ret
    rw [HE.out]
    exact ⟨_, rfl, OB.nil _ _, HB.out⟩
set_option maxRecDepth 100000 in
set_option maxHeartbeats 8000000 in
theorem rpkq_any (A : Nat → Prop) (q : RqD) (ov : Value) (w : World) (h : SlE Enc.op A w ov q.txn.ops) (hsz : q.txn.obj.size ≤ 50) : Calls Tryz.prog 10 #[rqV q ov] w (NewB w (pkqL q)) := by
  obtain ⟨oa, oc, rfl⟩ := h.shape
  obtain ⟨qc, ql, qs, qk, qi, qw, qn, tx⟩ := q
  simp only at *
  have HS := Lib.hid h
  have HEND : Hid (∀ v W l, OB w.heap.size W v l → Below w.heap.size w W → pkqL ⟨qc, ql, qs, qk, qi, qw, qn, tx⟩ = l → NewB w (pkqL ⟨qc, ql, qs, qk, qi, qw, qn, tx⟩) (.returned v) W) := Lib.hid fun v W l h1 h2 h3 => ⟨v, rfl, by rw [h3]; exact h1, h2⟩
  clear h
  simp only [rqV]
  go_enter Tryz.func10, Tryz.ntmps10
  go_wp2_with fail
  refine (rmay_any A ⟨qc, ql, qs, qk, qi, qw, qn, tx⟩ _ _ (HS.out.ext ((Below.refl _ _).alloc (Nat.le_refl _) _))).mono ?_
  rintro e w1 ⟨rfl, hb1⟩
  have hbw : Below w.heap.size w w1 := ((Below.refl _ w).alloc (Nat.le_refl _) _).trans (hb1.mono (by simp))
  cases hmay : mayQ ⟨qc, ql, qs, qk, qi, qw, qn, tx⟩ with
  | false =>
    have HW := Lib.hid hbw
    have HP := Lib.hid (pkqL_no hmay)
    clear hb1 hmay hbw
    go_wp2
    go_ret
    exact HEND.out _ _ [] (OB.nil _ _) HW.out HP.out
  | true =>
  have HMQ := Lib.hid hmay
  have HTX : Hid (qk = 1 → txE tx = 0) := Lib.hid fun h => mayQ_tx hmay h
  have HOB : Hid (qk ≠ 1 → qk ≠ 2 → tx.obj = ByteArray.empty) := Lib.hid fun h1 h2 => by
    rw [mayQ_yes (mayQ_N hmay), if_neg h1, if_neg h2, Bool.and_eq_true] at hmay
    exact of_decide_eq_true hmay.1
  obtain ⟨⟨⟨i1, i2⟩, ⟨i3, i4⟩, ⟨i5, i6⟩⟩, ⟨i7, i8⟩, ⟨i9, i10⟩, ⟨i11, i12⟩, ⟨i13, i14⟩⟩ := mayQ_N hmay
  simp only at i1 i2 i3 i4 i5 i6 i7 i8 i9 i10 i11 i12 i13 i14
  clear hmay
  obtain ⟨c, rfl⟩ := Int.eq_ofNat_of_zero_le i1
  obtain ⟨l, rfl⟩ := Int.eq_ofNat_of_zero_le i3
  obtain ⟨s, rfl⟩ := Int.eq_ofNat_of_zero_le i5
  obtain ⟨k, rfl⟩ := Int.eq_ofNat_of_zero_le (by omega : 0 ≤ qk)
  obtain ⟨i, rfl⟩ := Int.eq_ofNat_of_zero_le i9
  obtain ⟨wh, rfl⟩ := Int.eq_ofNat_of_zero_le i11
  obtain ⟨n, rfl⟩ := Int.eq_ofNat_of_zero_le i13
  have hnum : Hid ((c < 256 ^ 1 ∧ l < 256 ^ 4 ∧ s < 256 ^ 6) ∧ (k < 256 ^ 1 ∧ i < 256 ^ 1 ∧ wh < 256 ^ 1) ∧ n < 256 ^ 6 ∧ 1 ≤ k) := by
    show _ ∧ _
    omega
  clear i1 i2 i3 i4 i5 i6 i7 i8 i9 i10 i11 i12 i13 i14
  have HQ1 : Hid (w1.heap[w.heap.size]? = some (.cells (rqC ⟨c, l, s, k, i, wh, n, tx⟩ (.slice oa tx.ops.length oc)) 26 (0, 0))) := Lib.hid ((hb1.block _ (by simp)).trans (heap_alloc_new _ _))
  have hs1 := hb1.size
  simp only [World.size_alloc] at hs1
  have HB1 : Hid (HBs (w.heap.size + 1) w1 w1) := Lib.hid ⟨Below.refl _ _, hs1⟩
  have HBW := Lib.hid hbw
  clear hb1 hbw
  obtain ⟨y0, y1, y2, y3, y4, y5, y6, y7, y8⟩ := rq_cells HQ1.out
  simp only at y0 y1 y2 y3 y4 y5 y6 y7 y8
  go_wp2_with fail
  refine (rhead_any c l s hnum.out.1.1 hnum.out.1.2.1 hnum.out.1.2.2 _).mono ?_
  rintro e w2 ⟨v2, rfl, ho2, hb2⟩
  obtain ⟨a2, n2, c2, rfl⟩ := ho2.shape3
  have HR := Lib.hid (ho2.base_le hs1)
  have HB := Lib.hid (hb_call HB1.out hb2)
  have HQ := Lib.hid (blkk hb2 HQ1.out)
  have hs2 := hb2.size
  clear ho2 hb2 HB1 HQ1 y0 y1 y2 y3 y4 y5 y6 y7 y8
  obtain ⟨y0, y1, y2, y3, y4, y5, y6, y7, y8⟩ := rq_cells HQ.out
  simp only at y0 y1 y2 y3 y4 y5 y6 y7 y8
  go_wp2_with fail
  refine (bnum_any 1 k (by omega) (by omega) hnum.out.2.1.1 _).mono ?_
  rintro e wa ⟨va, rfl, hoa, hba⟩
  obtain ⟨xa, xn, xc, rfl⟩ := hoa.shape3
  have HOA := Lib.hid hoa
  have HRA := Lib.hid (HR.out.ext hba)
  have HBA := Lib.hid (hb_call HB.out hba)
  have HQA := Lib.hid (blkk hba HQ.out)
  clear hoa hba HR HB HQ y0 y1 y2 y3 y4 y5 y6 y7 y8
  obtain ⟨y0, y1, y2, y3, y4, y5, y6, y7, y8⟩ := rq_cells HQA.out
  simp only at y0 y1 y2 y3 y4 y5 y6 y7 y8
  go_wp2_with (first | (at_builtin; refine stop_in ?_) | go_in)
  unfold Stop
  refine wpList_appB _ (by rfl) _ _ (by rfl) (w.heap.size + 1) _ _ (by rfl) HRA.out _ _ _ (by rfl) HOA.out.rb (by simp [be_length]) HBA.out.2 ?_
  intro vb wb hob hbb
  obtain ⟨ya, yn, yc, rfl⟩ := hob.shape3
  have HR : Hid (OB (w.heap.size + 1) wb (.slice ya yn yc) ((be 1 c ++ be 4 l ++ be 6 s) ++ be 1 k)) := Lib.hid hob
  have HB := Lib.hid (hb_app HBA.out hbb)
  have HQ := Lib.hid ((hbb.block _ (by omega)).trans HQA.out)
  clear hob hbb HOA HRA HBA HQA y0 y1 y2 y3 y4 y5 y6 y7 y8
  obtain ⟨y0, y1, y2, y3, y4, y5, y6, y7, y8⟩ := rq_cells HQ.out
  simp only at y0 y1 y2 y3 y4 y5 y6 y7 y8
  go_wp2_with fail
  refine (bnum_any 1 i (by omega) (by omega) hnum.out.2.1.2.1 _).mono ?_
  rintro e wa ⟨va, rfl, hoa, hba⟩
  obtain ⟨xa, xn, xc, rfl⟩ := hoa.shape3
  have HOA := Lib.hid hoa
  have HRA := Lib.hid (HR.out.ext hba)
  have HBA := Lib.hid (hb_call HB.out hba)
  have HQA := Lib.hid (blkk hba HQ.out)
  clear hoa hba HR HB HQ y0 y1 y2 y3 y4 y5 y6 y7 y8
  obtain ⟨y0, y1, y2, y3, y4, y5, y6, y7, y8⟩ := rq_cells HQA.out
  simp only at y0 y1 y2 y3 y4 y5 y6 y7 y8
  go_wp2_with (first | (at_builtin; refine stop_in ?_) | go_in)
  unfold Stop
  refine wpList_appB _ (by rfl) _ _ (by rfl) (w.heap.size + 1) _ _ (by rfl) HRA.out _ _ _ (by rfl) HOA.out.rb (by simp [be_length]) HBA.out.2 ?_
  intro vb wb hob hbb
  obtain ⟨ya, yn, yc, rfl⟩ := hob.shape3
  have HR : Hid (OB (w.heap.size + 1) wb (.slice ya yn yc) ((be 1 c ++ be 4 l ++ be 6 s) ++ be 1 k ++ be 1 i)) := Lib.hid hob
  have HB := Lib.hid (hb_app HBA.out hbb)
  have HQ := Lib.hid ((hbb.block _ (by omega)).trans HQA.out)
  clear hob hbb HOA HRA HBA HQA y0 y1 y2 y3 y4 y5 y6 y7 y8
  obtain ⟨y0, y1, y2, y3, y4, y5, y6, y7, y8⟩ := rq_cells HQ.out
  simp only at y0 y1 y2 y3 y4 y5 y6 y7 y8
  go_wp2_with fail
  refine (bnum_any 1 wh (by omega) (by omega) hnum.out.2.1.2.2 _).mono ?_
  rintro e wa ⟨va, rfl, hoa, hba⟩
  obtain ⟨xa, xn, xc, rfl⟩ := hoa.shape3
  have HOA := Lib.hid hoa
  have HRA := Lib.hid (HR.out.ext hba)
  have HBA := Lib.hid (hb_call HB.out hba)
  have HQA := Lib.hid (blkk hba HQ.out)
  clear hoa hba HR HB HQ y0 y1 y2 y3 y4 y5 y6 y7 y8
  obtain ⟨y0, y1, y2, y3, y4, y5, y6, y7, y8⟩ := rq_cells HQA.out
  simp only at y0 y1 y2 y3 y4 y5 y6 y7 y8
  go_wp2_with (first | (at_builtin; refine stop_in ?_) | go_in)
  unfold Stop
  refine wpList_appB _ (by rfl) _ _ (by rfl) (w.heap.size + 1) _ _ (by rfl) HRA.out _ _ _ (by rfl) HOA.out.rb (by simp [be_length]) HBA.out.2 ?_
  intro vb wb hob hbb
  obtain ⟨ya, yn, yc, rfl⟩ := hob.shape3
  have HR : Hid (OB (w.heap.size + 1) wb (.slice ya yn yc) ((be 1 c ++ be 4 l ++ be 6 s) ++ be 1 k ++ be 1 i ++ be 1 wh)) := Lib.hid hob
  have HB := Lib.hid (hb_app HBA.out hbb)
  have HQ := Lib.hid ((hbb.block _ (by omega)).trans HQA.out)
  clear hob hbb HOA HRA HBA HQA y0 y1 y2 y3 y4 y5 y6 y7 y8
  obtain ⟨y0, y1, y2, y3, y4, y5, y6, y7, y8⟩ := rq_cells HQ.out
  simp only at y0 y1 y2 y3 y4 y5 y6 y7 y8
  go_wp2_with fail
  refine (bnum_any 6 n (by omega) (by omega) hnum.out.2.2.1 _).mono ?_
  rintro e wa ⟨va, rfl, hoa, hba⟩
  obtain ⟨xa, xn, xc, rfl⟩ := hoa.shape3
  have HOA := Lib.hid hoa
  have HRA := Lib.hid (HR.out.ext hba)
  have HBA := Lib.hid (hb_call HB.out hba)
  have HQA := Lib.hid (blkk hba HQ.out)
  clear hoa hba HR HB HQ y0 y1 y2 y3 y4 y5 y6 y7 y8
  obtain ⟨y0, y1, y2, y3, y4, y5, y6, y7, y8⟩ := rq_cells HQA.out
  simp only at y0 y1 y2 y3 y4 y5 y6 y7 y8
  go_wp2_with (first | (at_builtin; refine stop_in ?_) | go_in)
  unfold Stop
  refine wpList_appB _ (by rfl) _ _ (by rfl) (w.heap.size + 1) _ _ (by rfl) HRA.out _ _ _ (by rfl) HOA.out.rb (by simp [be_length]) HBA.out.2 ?_
  intro vb wb hob hbb
  obtain ⟨ya, yn, yc, rfl⟩ := hob.shape3
  have HR : Hid (OB (w.heap.size + 1) wb (.slice ya yn yc) ((be 1 c ++ be 4 l ++ be 6 s) ++ be 1 k ++ be 1 i ++ be 1 wh ++ be 6 n)) := Lib.hid hob
  have HB := Lib.hid (hb_app HBA.out hbb)
  have HQ := Lib.hid ((hbb.block _ (by omega)).trans HQA.out)
  clear hob hbb HOA HRA HBA HQA y0 y1 y2 y3 y4 y5 y6 y7 y8
  obtain ⟨y0, y1, y2, y3, y4, y5, y6, y7, y8⟩ := rq_cells HQ.out
  simp only at y0 y1 y2 y3 y4 y5 y6 y7 y8
  by_cases hk1 : k = 1
  · subst hk1
    have HBQ : Hid (blobQ ⟨(c : Int), (l : Int), (s : Int), ((1 : Nat) : Int), (i : Int), (wh : Int), (n : Int), tx⟩ = txL tx tx.ops.length) := Lib.hid (blobQ_1 rfl)
    go_wp2_with fail
    refine (rpackL_any A tx _ _ (HS.out.ext (HBW.out.trans (HB.out.1.mono (by omega))))).mono ?_
    rw [show packL tx = txL tx tx.ops.length from if_pos (HTX.out rfl)]
    rintro e wc ⟨vc, rfl, hoc, hbc⟩
    obtain ⟨pa, pn, pc, rfl⟩ := hoc.shape3
    have hxl := txL_len (HTX.out rfl)
    have hn := RB.len hoc.rb
    have HOC := Lib.hid hoc
    have HRX := Lib.hid (HR.out.ext hbc)
    have HBX := Lib.hid (hb_call HB.out hbc)
    have HQC := Lib.hid (blkk hbc HQ.out)
    clear hoc hbc HR HB HQ y0 y1 y2 y3 y4 y5 y6 y7 y8
    obtain ⟨y0, y1, y2, y3, y4, y5, y6, y7, y8⟩ := rq_cells HQC.out
    simp only at y0 y1 y2 y3 y4 y5 y6 y7 y8
    generalize txL tx tx.ops.length = X at *
    have h65 : ¬ (65535 : Int) < (pn : Nat) := by omega
    go_wp2_with fail
    refine (bblob_any _ _ X _ HOC.out.rb (by omega)).mono ?_
    rintro e wd ⟨vd, rfl, hod, hbd⟩
    obtain ⟨za, zn, zc, rfl⟩ := hod.shape3
    have HOD := Lib.hid hod
    have HRD := Lib.hid (HRX.out.ext hbd)
    have HBD := Lib.hid (hb_call HBX.out hbd)
    clear hod hbd HRX HBX
    go_wp2_with (first | (at_builtin; refine stop_in ?_) | go_in)
    unfold Stop
    refine wpList_appB _ (by rfl) _ _ (by rfl) (w.heap.size + 1) _ _ (by rfl) HRD.out _ _ _ (by rfl) HOD.out.rb (by simp [be_length] <;> omega) HBD.out.2 ?_
    intro ve we hoe hbe
    obtain ⟨ua, un, uc, rfl⟩ := hoe.shape3
    have HOE := Lib.hid hoe
    have HBE := Lib.hid (hb_app HBD.out hbe)
    clear hoe hbe HOD HRD HBD
    go_wp2_with fail
    refine (rframed_any _ 1 _ _ _ (by decide) HOE.out.rb (by simp [be_length] <;> omega)).mono ?_
    rintro e wf ⟨vf, rfl, hof, hbf⟩
    obtain ⟨ta, tn, tc, rfl⟩ := hof.shape3
    have HOF := Lib.hid hof
    have HBF := Lib.hid (hb_call HBE.out hbf)
    have hse := HBE.out.2
    clear hof hbf
    go_wp2
    go_ret
    exact HEND.out _ _ _ (HOF.out.base_le (by omega)) (HBW.out.trans (HBF.out.1.mono (by omega))) (pkqL_if HMQ.out HBQ.out (by simp [bodyQ, catB]))
  · have hk1' : ((k : Int) == 1) = false := by simp; omega
    have HBQ : Hid (blobQ ⟨(c : Int), (l : Int), (s : Int), (k : Int), (i : Int), (wh : Int), (n : Int), tx⟩ = tx.obj.data.toList) := Lib.hid (blobQ_n (by show ¬ (k : Int) = 1; omega))
    have hol : tx.obj.data.toList.length = tx.obj.size := by simp
    by_cases hk2 : k = 2
    · have hk2' : ((k : Int) == 2) = true := by simp [hk2]
      have hcs := fun W : World => run_bytes_of_string (P := Tryz.prog) W 9 27 5 tx.obj Tryz.underlying9 Tryz.underlying27 Tryz.underlying5
      have HRX := Lib.hid (HR.out.ext (str_below wb tx.obj))
      have HBX := Lib.hid (hb_call HB.out (str_below wb tx.obj))
      have h65 : ¬ (65535 : Int) < (tx.obj.size : Int) := by omega
      clear hk1 hk2
      go_wp2_with fail
      refine (bblob_any _ _ tx.obj.data.toList _ (str_row wb tx.obj) (by omega)).mono ?_
      rintro e wd ⟨vd, rfl, hod, hbd⟩
      obtain ⟨za, zn, zc, rfl⟩ := hod.shape3
      have HOD := Lib.hid hod
      have HRD := Lib.hid (HRX.out.ext hbd)
      have HBD := Lib.hid (hb_call HBX.out hbd)
      clear hod hbd HRX HBX
      go_wp2_with (first | (at_builtin; refine stop_in ?_) | go_in)
      unfold Stop
      refine wpList_appB _ (by rfl) _ _ (by rfl) (w.heap.size + 1) _ _ (by rfl) HRD.out _ _ _ (by rfl) HOD.out.rb (by simp [be_length] <;> omega) HBD.out.2 ?_
      intro ve we hoe hbe
      obtain ⟨ua, un, uc, rfl⟩ := hoe.shape3
      have HOE := Lib.hid hoe
      have HBE := Lib.hid (hb_app HBD.out hbe)
      clear hoe hbe HOD HRD HBD
      go_wp2_with fail
      refine (rframed_any _ 1 _ _ _ (by decide) HOE.out.rb (by simp [be_length] <;> omega)).mono ?_
      rintro e wf ⟨vf, rfl, hof, hbf⟩
      obtain ⟨ta, tn, tc, rfl⟩ := hof.shape3
      have HOF := Lib.hid hof
      have HBF := Lib.hid (hb_call HBE.out hbf)
      have hse := HBE.out.2
      clear hof hbf
      go_wp2
      go_ret
      exact HEND.out _ _ _ (HOF.out.base_le (by omega)) (HBW.out.trans (HBF.out.1.mono (by omega))) (pkqL_if HMQ.out HBQ.out (by simp [bodyQ, catB]))
    · have hk2' : ((k : Int) == 2) = false := by simp; omega
      have hob := HOB.out (by omega) (by omega)
      rw [hob] at HBQ
      have HBQ' : Hid (blobQ ⟨(c : Int), (l : Int), (s : Int), (k : Int), (i : Int), (wh : Int), (n : Int), tx⟩ = []) := Lib.hid (HBQ.out.trans rfl)
      have HRX := HR
      have HBX := HB
      clear hk1 hk2 hob HBQ
      go_wp2_with fail
      refine (bblob_any _ _ [] _ (RB.nil (fun _ => True) _) (by simp)).mono ?_
      rintro e wd ⟨vd, rfl, hod, hbd⟩
      obtain ⟨za, zn, zc, rfl⟩ := hod.shape3
      have HOD := Lib.hid hod
      have HRD := Lib.hid (HRX.out.ext hbd)
      have HBD := Lib.hid (hb_call HBX.out hbd)
      clear hod hbd HRX HBX
      go_wp2_with (first | (at_builtin; refine stop_in ?_) | go_in)
      unfold Stop
      refine wpList_appB _ (by rfl) _ _ (by rfl) (w.heap.size + 1) _ _ (by rfl) HRD.out _ _ _ (by rfl) HOD.out.rb (by simp [be_length] <;> simp) HBD.out.2 ?_
      intro ve we hoe hbe
      obtain ⟨ua, un, uc, rfl⟩ := hoe.shape3
      have HOE := Lib.hid hoe
      have HBE := Lib.hid (hb_app HBD.out hbe)
      clear hoe hbe HOD HRD HBD
      go_wp2_with fail
      refine (rframed_any _ 1 _ _ _ (by decide) HOE.out.rb (by simp [be_length] <;> simp)).mono ?_
      rintro e wf ⟨vf, rfl, hof, hbf⟩
      obtain ⟨ta, tn, tc, rfl⟩ := hof.shape3
      have HOF := Lib.hid hof
      have HBF := Lib.hid (hb_call HBE.out hbf)
      have hse := HBE.out.2
      clear hof hbf
      go_wp2
      go_ret
      exact HEND.out _ _ _ (HOF.out.base_le (by omega)) (HBW.out.trans (HBF.out.1.mono (by omega))) (pkqL_if HMQ.out HBQ'.out (by simp [bodyQ, catB]))
end Go.Proofs.YtlgefkaafoidmaaGreatDoor
