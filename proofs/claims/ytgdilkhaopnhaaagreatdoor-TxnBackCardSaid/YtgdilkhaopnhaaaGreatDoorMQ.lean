/- The walk of terrazzolaw09.TxnPacks. The walk of terrazzolaw09.TxnBack. -/
import Derived.Test.YtgdilkhaopnhaaaGreatDoorMN
import Derived.Test.YtgdilkhaopnhaaaGreatDoorMP
import Derived.Deep.RegionHeldLaw
namespace Go.Proofs.YtgdilkhaopnhaaaGreatDoor
open Go.RowKit Go.WideShapes

theorem unpOps_len : ∀ (n : Nat) (r : Rd), (unpOps n r).1.length ≤ n
  | 0, r => by simp [unpOps]
  | n + 1, r => by
    by_cases h : r.e = 0
    · rw [unpOps_go h]
      have := unpOps_len n (unpOp r).2
      simp only [List.length_cons]
      omega
    · rw [unpOps_halt h]
      simp
theorem txUn_len (l : List UInt8) : (txUn l).1.ops.length ≤ 100000 := by
  unfold txUn
  split
  · have h1 := unpOps_len (unpN l).1 (unpC l)
    have h2 : (unpN l).1 < 256 ^ 1 := Rd.num_lt (unpHead l).2 1
    show (unpY l).1.length ≤ _
    unfold unpY
    omega
  · simp
theorem obv_nil (A : Nat → Prop) (w : World) : ObV A w (.agg #[.slice none 0 0, .slice none 0 0, .int .i64 0]) ObD.none := ⟨_, _, rfl, RB.nil _ _, SlE.nil _ _ _⟩
set_option maxRecDepth 100000 in
set_option maxHeartbeats 16000000 in
theorem tpacks_law (A B : Nat → Prop) (va vb : Value) (t : TxD) (l : List UInt8) (w : World) (hE : ErrT w) (h : SlE Enc.op B w va t.ops) (hv : RB A w vb l) :
    Calls Tryz.prog 4 #[.agg #[.string t.obj, va], vb] w (Says true w) := by
  obtain ⟨ta, tc, rfl⟩ := h.shape
  obtain ⟨ba, bc, rfl⟩ := hv.shape
  have HS := Lib.hid h
  have HV := Lib.hid hv
  have HE := Lib.hid hE
  obtain ⟨ob, ops⟩ := t
  simp only at HS ⊢
  clear hv h hE
  go_enter Tryz.func4, Tryz.ntmps4
  go_wp2_with fail
  obtain ⟨w0, hw0⟩ : ∃ w0, w0 = w.alloc (.cells #[.string ob, .slice ta ops.length tc] 28) := ⟨_, rfl⟩
  rw [← hw0]
  have b0 : w0.heap[w.heap.size]? = some (.cells #[.string ob, .slice ta ops.length tc] 28 (0, 0)) := by rw [hw0]; exact heap_alloc_new _ _
  have hw : Below w.heap.size w w0 := by rw [hw0]; ((repeat' (first | exact Below.refl _ _ | refine below_drewN ?_ _ | refine Below.drew ?_ | refine Below.alloc ?_ ?_ _ | refine Below.trans ?_ (Below.mono (by assumption) ?_))); all_goals (first | exact Nat.le_refl _ | exact Below.size (by assumption) | omega | (simp; done) | (simp; omega)))
  clear hw0
  refine (awake9_any _ (HE.out.ext hw)).mono ?_
  rintro e w1 ⟨rfl, hb1⟩
  have HW1 := Lib.hid (dcall hw hb1)
  have R1 := Lib.hid (dblk hb1 b0)
  clear hb1 b0 hw
  obtain ⟨t0, -⟩ := blk_cell (i := 0) R1.out
  obtain ⟨t1, -⟩ := blk_cell (i := 1) R1.out
  simp at t0 t1
  go_wp2_with fail
  refine (few9_any (fun _ => True) B _ _ ObD.none ⟨ob, ops⟩ _ (obv_nil _ _) (HS.out.ext HW1.out)).mono ?_
  rintro e w2 ⟨p1, rfl, hf1, hb2⟩
  have HW2 := Lib.hid (dcall HW1.out hb2)
  have R2 := Lib.hid (dblk hb2 R1.out)
  clear hb2 R1 HW1 hf1 t0 t1
  rcases p1 with _ | _
  · go_wp2
    go_ret
    exact ⟨rfl, HW2.out⟩
  rcases Nat.lt_or_ge 20000 l.length with hlb | hlb
  · have hlb' : (20000 : Int) < l.length := by omega
    go_wp2
    go_ret
    exact ⟨rfl, HW2.out⟩
  have hlb' : ¬ (20000 : Int) < l.length := by omega
  obtain ⟨t0, -⟩ := blk_cell (i := 0) R2.out
  obtain ⟨t1, -⟩ := blk_cell (i := 1) R2.out
  simp at t0 t1
  have HLX := Lib.hid (txUn_len l)
  have HUN := Lib.hid fun W (h : RB A W (.slice ba l.length bc) l) => tunpack_any A _ l W h (by omega)
  have HRU := Lib.hid fun W (h : RB A W (.slice ba l.length bc) l) => runpack_any A _ l W h (by omega)
  generalize txUn l = X at *
  obtain ⟨⟨xo, xs⟩, xe⟩ := X
  go_wp2_with fail
  refine (HUN.out _ (HV.out.ext HW2.out)).mono ?_
  rintro e w3 ⟨v3, rfl, h3, hb3⟩
  simp only at h3 ⊢
  obtain ⟨a3, c3, rfl⟩ := h3.shape
  have HX3 := Lib.hid h3
  have HW3 := Lib.hid (dcall HW2.out hb3)
  have R3 := Lib.hid (dblk hb3 R2.out)
  clear h3 hb3 R2 HW2 HUN t0 t1
  go_upto_region 8 with fail
  obtain ⟨w4, hw4⟩ : ∃ w4, w4 = w3.alloc (.cells #[.string xo, .slice a3 xs.length c3] 28) := ⟨_, rfl⟩
  rw [← hw4]
  have hb4 : Below w3.heap.size w3 w4 := by rw [hw4]; ((repeat' (first | exact Below.refl _ _ | refine below_drewN ?_ _ | refine Below.drew ?_ | refine Below.alloc ?_ ?_ _ | refine Below.trans ?_ (Below.mono (by assumption) ?_))); all_goals (first | exact Nat.le_refl _ | exact Below.size (by assumption) | omega | (simp; done) | (simp; omega)))
  have Q4 := Lib.hid (show w4.heap[w3.heap.size]? = some (.cells #[.string xo, .slice a3 xs.length c3] 28 (0, 0)) from by rw [hw4]; exact heap_alloc_new _ _)
  have HX4 := Lib.hid (HX3.out.ext hb4)
  have R4 := Lib.hid (dblk hb4 R3.out)
  have HW4 := Lib.hid (dcall HW3.out hb4)
  clear hw4 hb4 R3 HX3 HW3
  go_wp2_with fail
  refine (HRU.out _ (HV.out.ext HW4.out)).mono ?_
  rintro e w5 ⟨v5, rfl, h5, hb5⟩
  simp only at h5 ⊢
  obtain ⟨a5, c5, rfl⟩ := h5.shape
  have HY5 := Lib.hid h5
  have HX5 := Lib.hid (HX4.out.ext hb5)
  have HW5 := Lib.hid (dcall HW4.out hb5)
  have R5 := Lib.hid (dblk hb5 R4.out)
  have Q5 := Lib.hid (dblk hb5 Q4.out)
  clear h5 hb5 R4 Q4 HX4 HW4 HRU
  go_upto_region 9 with fail
  obtain ⟨wB, hwB⟩ : ∃ wB, wB = w5.alloc (.cells #[.string xo, .slice a5 xs.length c5] 28) := ⟨_, rfl⟩
  rw [← hwB]
  have hbB : Below w5.heap.size w5 wB := by rw [hwB]; ((repeat' (first | exact Below.refl _ _ | refine below_drewN ?_ _ | refine Below.drew ?_ | refine Below.alloc ?_ ?_ _ | refine Below.trans ?_ (Below.mono (by assumption) ?_))); all_goals (first | exact Nat.le_refl _ | exact Below.size (by assumption) | omega | (simp; done) | (simp; omega)))
  have ZB := Lib.hid (show wB.heap[w5.heap.size]? = some (.cells #[.string xo, .slice a5 xs.length c5] 28 (0, 0)) from by rw [hwB]; exact heap_alloc_new _ _)
  have HXB := Lib.hid (HX5.out.ext hbB)
  have HYB := Lib.hid (HY5.out.ext hbB)
  have RB' := Lib.hid (dblk hbB R5.out)
  have QB := Lib.hid (dblk hbB Q5.out)
  have HWB := Lib.hid (dcall HW5.out hbB)
  clear hwB hbB R5 Q5 HX5 HY5 HW5
  obtain ⟨t0, -⟩ := blk_cell (i := 0) RB'.out
  obtain ⟨t1, -⟩ := blk_cell (i := 1) RB'.out
  obtain ⟨x0, -⟩ := blk_cell (i := 0) QB.out
  obtain ⟨x1, -⟩ := blk_cell (i := 1) QB.out
  obtain ⟨z0, -⟩ := blk_cell (i := 0) ZB.out
  obtain ⟨z1, -⟩ := blk_cell (i := 1) ZB.out
  simp at t0 t1 x0 x1 z0 z1
  have hcells : Hid (∀ W, Below wB.heap.size wB W → Below wB.heap.size wB W ∧ W.cell? ⟨w.heap.size, 0, none⟩ = some (.string ob) ∧ W.cell? ⟨w.heap.size, 1, none⟩ = some (.slice ta ops.length tc) ∧
      W.cell? ⟨w3.heap.size, 0, none⟩ = some (.string xo) ∧ W.cell? ⟨w3.heap.size, 1, none⟩ = some (.slice a3 xs.length c3) ∧ W.cell? ⟨w5.heap.size, 0, none⟩ = some (.string xo) ∧ W.cell? ⟨w5.heap.size, 1, none⟩ = some (.slice a5 xs.length c5)) := Lib.hid fun W h =>
    ⟨h, cellExt h t0, cellExt h t1, cellExt h x0, cellExt h x1, cellExt h z0, cellExt h z1⟩
  have HTP := Lib.hid fun W (h : Below wB.heap.size wB W) => tpackL_any B ⟨ob, ops⟩ _ W (HS.out.ext (dcall HWB.out h))
  have HRP := Lib.hid fun W (h : Below wB.heap.size wB W) => rpackL_any B ⟨ob, ops⟩ _ W (HS.out.ext (dcall HWB.out h))
  have HSM := Lib.hid fun W (h : Below wB.heap.size wB W) => same9_yes _ _ ⟨xo, xs⟩ _ _ W (HXB.out.ext h) (HYB.out.ext h) HLX.out
  generalize packL ⟨ob, ops⟩ = L at *
  have g2 : (xe == xe) = true := by simp
  clear t0 t1 x0 x1 z0 z1
  go_region_held_law (fun W => Below wB.heap.size wB W ∧ W.cell? ⟨w.heap.size, 0, none⟩ = some (.string ob) ∧ W.cell? ⟨w.heap.size, 1, none⟩ = some (.slice ta ops.length tc) ∧
      W.cell? ⟨w3.heap.size, 0, none⟩ = some (.string xo) ∧ W.cell? ⟨w3.heap.size, 1, none⟩ = some (.slice a3 xs.length c3) ∧ W.cell? ⟨w5.heap.size, 0, none⟩ = some (.string xo) ∧ W.cell? ⟨w5.heap.size, 1, none⟩ = some (.slice a5 xs.length c5))
    ((refine hcells.out _ ?_; first
      | (with_reducible exact Below.drew (Below.refl _ _))
      | (with_reducible exact hz6)
      | (with_reducible exact hz7)
      | (with_reducible exact hz8)))
    (first
      | (go_at_call 20; refine (HSM.out _ hz7).mono ?_; rintro e w13 ⟨rfl, hb13⟩; have hz8 : Below wB.heap.size wB w13 := dcall hz7 hb13)
      | (go_at_call 19; refine (HRP.out _ hz6).mono ?_; rintro e w12 ⟨v12, rfl, h12, hb12⟩; obtain ⟨a12, c12, rfl⟩ := h12.rb.shape; have hz7 : Below wB.heap.size wB w12 := dcall hz6 hb12; have s3 := cnv_bytes h12.rb w12 (Below.refl _ _); have s4 := cnv_bytes h11.rb w12 hb12)
      | (go_at_call 18; refine (HTP.out _ (Below.drew (Below.refl _ _))).mono ?_; rintro e w11 ⟨v11, rfl, h11, hb11⟩; obtain ⟨a11, c11, rfl⟩ := h11.rb.shape; have hz6 : Below wB.heap.size wB w11 := dcall (Below.drew (Below.refl _ _)) hb11; have s2 := cnv_bytes h11.rb w11 (Below.refl _ _)))
  all_goals
    go_wp2
    go_ret
    exact ⟨rfl, dcall HWB.out hz8⟩
end Go.Proofs.YtgdilkhaopnhaaaGreatDoor
namespace Go.Proofs.YtgdilkhaopnhaaaGreatDoor
open Go.RowKit Go.WideShapes

theorem ops_len : ∀ (l : List OpD), (∀ o ∈ l, opP o) → (l.flatMap opBytes).length ≤ 2100 * l.length
  | [], _ => by simp
  | o :: l, h => by
    have h1 := ops_len l fun o ho => h o (by simp [ho])
    obtain ⟨-, -, -, -, -, -, p7, p8⟩ := h o (by simp)
    have hnl : o.name.data.toList.length = o.name.size := by simp
    have h2 : (opBytes o).length ≤ 2100 := by
      simp only [opBytes, List.length_append, be_length]
      omega
    simp only [List.flatMap_cons, List.length_append, List.length_cons]
    omega
theorem packL_len (t : TxD) : (packL t).length ≤ 40000 := by
  by_cases h : txE t = 0
  · rw [show packL t = txL t t.ops.length from if_pos h, txL_all]
    obtain ⟨hl, hnm, -⟩ := txE_ok h
    obtain ⟨-, hop⟩ := txE_ok' h
    have h1 := ops_len t.ops hop
    have h2 := nameB_len hnm
    have hol : t.obj.data.toList.length = t.obj.size := by simp
    simp only [List.length_append, be_length]
    omega
  · rw [show packL t = [] from if_neg h]
    simp
theorem txL_pos (t : TxD) : 0 < (txL t t.ops.length).length := by
  rw [txL_all]
  simp [be_length]
  omega
theorem txUn_e (l : List UInt8) : (txUn l).2 = unpE l := by
  unfold txUn
  split
  · rename_i h; exact h.symm
  · rfl
theorem txUn_pk {l : List UInt8} {x : TxD} (h : txUn l = (x, 0)) : packL x = l := by
  have h0 : unpE l = 0 := by rw [← txUn_e, h]
  rw [txUn_ok h0] at h
  rw [← (Prod.mk.inj h).1]
  exact pack_of_un h0
set_option maxRecDepth 100000 in
set_option maxHeartbeats 16000000 in
theorem tback_law (A B : Nat → Prop) (va vb : Value) (t : TxD) (l : List UInt8) (w : World) (hE : ErrT w) (h : SlE Enc.op B w va t.ops) (hv : RB A w vb l) :
    Calls Tryz.prog 5 #[.agg #[.string t.obj, va], vb] w (Says true w) := by
  obtain ⟨ta, tc, rfl⟩ := h.shape
  obtain ⟨ba, bc, rfl⟩ := hv.shape
  have HS := Lib.hid h
  have HV := Lib.hid hv
  have HE := Lib.hid hE
  obtain ⟨ob, ops⟩ := t
  simp only at HS ⊢
  clear hv h hE
  go_enter Tryz.func5, Tryz.ntmps5
  go_wp2_with fail
  obtain ⟨w0, hw0⟩ : ∃ w0, w0 = w.alloc (.cells #[.string ob, .slice ta ops.length tc] 28) := ⟨_, rfl⟩
  rw [← hw0]
  have b0 : w0.heap[w.heap.size]? = some (.cells #[.string ob, .slice ta ops.length tc] 28 (0, 0)) := by rw [hw0]; exact heap_alloc_new _ _
  have hw : Below w.heap.size w w0 := by rw [hw0]; ((repeat' (first | exact Below.refl _ _ | refine below_drewN ?_ _ | refine Below.drew ?_ | refine Below.alloc ?_ ?_ _ | refine Below.trans ?_ (Below.mono (by assumption) ?_))); all_goals (first | exact Nat.le_refl _ | exact Below.size (by assumption) | omega | (simp; done) | (simp; omega)))
  clear hw0
  refine (awake9_any _ (HE.out.ext hw)).mono ?_
  rintro e w1 ⟨rfl, hb1⟩
  have HW1 := Lib.hid (dcall hw hb1)
  have R1 := Lib.hid (dblk hb1 b0)
  clear hb1 b0 hw
  obtain ⟨t0, -⟩ := blk_cell (i := 0) R1.out
  obtain ⟨t1, -⟩ := blk_cell (i := 1) R1.out
  simp at t0 t1
  go_wp2_with fail
  refine (few9_any (fun _ => True) B _ _ ObD.none ⟨ob, ops⟩ _ (obv_nil _ _) (HS.out.ext HW1.out)).mono ?_
  rintro e w2 ⟨p1, rfl, hf1, hb2⟩
  have HW2 := Lib.hid (dcall HW1.out hb2)
  have R2 := Lib.hid (dblk hb2 R1.out)
  clear hb2 R1 HW1 hf1 t0 t1
  rcases p1 with _ | _
  · go_wp2
    go_ret
    exact ⟨rfl, HW2.out⟩
  rcases Nat.lt_or_ge 20000 l.length with hlb | hlb
  · have hlb' : (20000 : Int) < l.length := by omega
    go_wp2
    go_ret
    exact ⟨rfl, HW2.out⟩
  have hlb' : ¬ (20000 : Int) < l.length := by omega
  obtain ⟨t0, -⟩ := blk_cell (i := 0) R2.out
  obtain ⟨t1, -⟩ := blk_cell (i := 1) R2.out
  simp at t0 t1
  have HLX := Lib.hid (txUn_len l)
  have HUN := Lib.hid fun A' v' l' W (h : RB A' W v' l') (hl : l'.length ≤ 100000) => tunpack_any A' v' l' W h hl
  have HX : Hid (txUn l = txUn l) := Lib.hid rfl
  obtain ⟨X, hX⟩ : ∃ X, X = txUn l := ⟨_, rfl⟩
  have HXE := Lib.hid hX
  clear hX HX
  rw [← HXE.out] at HLX
  obtain ⟨⟨xo, xs⟩, xe⟩ := X
  go_wp2_with fail
  refine (HUN.out _ _ l _ (HV.out.ext HW2.out) (by omega)).mono ?_
  rw [← HXE.out]
  rintro e w3 ⟨v3, rfl, h3, hb3⟩
  simp only at h3 ⊢
  obtain ⟨a3, c3, rfl⟩ := h3.shape
  have HX3 := Lib.hid h3
  have HW3 := Lib.hid (dcall HW2.out hb3)
  have R3 := Lib.hid (dblk hb3 R2.out)
  clear h3 hb3 R2 HW2 t0 t1
  go_upto_region 8 with fail
  obtain ⟨w4, hw4⟩ : ∃ w4, w4 = w3.alloc (.cells #[.string xo, .slice a3 xs.length c3] 28) := ⟨_, rfl⟩
  rw [← hw4]
  have hb4 : Below w3.heap.size w3 w4 := by rw [hw4]; ((repeat' (first | exact Below.refl _ _ | refine below_drewN ?_ _ | refine Below.drew ?_ | refine Below.alloc ?_ ?_ _ | refine Below.trans ?_ (Below.mono (by assumption) ?_))); all_goals (first | exact Nat.le_refl _ | exact Below.size (by assumption) | omega | (simp; done) | (simp; omega)))
  have Q4 := Lib.hid (show w4.heap[w3.heap.size]? = some (.cells #[.string xo, .slice a3 xs.length c3] 28 (0, 0)) from by rw [hw4]; exact heap_alloc_new _ _)
  have HX4 := Lib.hid (HX3.out.ext hb4)
  have R4 := Lib.hid (dblk hb4 R3.out)
  have HW4 := Lib.hid (dcall HW3.out hb4)
  clear hw4 hb4 R3 HX3 HW3
  obtain ⟨x0, -⟩ := blk_cell (i := 0) Q4.out
  obtain ⟨x1, -⟩ := blk_cell (i := 1) Q4.out
  simp at x0 x1
  have hcells : Hid (∀ W, Below w4.heap.size w4 W → Below w4.heap.size w4 W ∧ W.cell? ⟨w3.heap.size, 0, none⟩ = some (.string xo) ∧ W.cell? ⟨w3.heap.size, 1, none⟩ = some (.slice a3 xs.length c3) ∧ (Go.convert 22 9 (.slice ba l.length bc)).run Tryz.prog W = .ok (.string ⟨l.toArray⟩) W) := Lib.hid fun W h =>
    ⟨h, cellExt h x0, cellExt h x1, cnv_bytes (HV.out.ext HW4.out) W h⟩
  have HTP := Lib.hid fun W (h : Below w4.heap.size w4 W) => tpackL_any _ ⟨xo, xs⟩ _ W (HX4.out.ext h)
  clear x0 x1
  go_cut [43] (fun s43 wx => s43 = .bool false ∧ Below w4.heap.size w4 wx)
  case first =>
    by_cases hxe : xe = 0
    · have hpk := txUn_pk (l := l) (x := ⟨xo, xs⟩) (by rw [← HXE.out, hxe])
      rw [hpk] at HTP
      have g1 : (xe == 0) = true := by simp [hxe]
      clear hpk hxe
      go_region_held_law (fun W => Below w4.heap.size w4 W ∧ W.cell? ⟨w3.heap.size, 0, none⟩ = some (.string xo) ∧ W.cell? ⟨w3.heap.size, 1, none⟩ = some (.slice a3 xs.length c3) ∧ (Go.convert 22 9 (.slice ba l.length bc)).run Tryz.prog W = .ok (.string ⟨l.toArray⟩) W)
        ((refine hcells.out _ ?_; first
          | (with_reducible exact Below.drew (Below.refl _ _))
          | (with_reducible exact hz6)))
        (first
          | (go_at_call 18; refine (HTP.out _ (Below.drew (Below.refl _ _))).mono ?_; rintro e w11 ⟨v11, rfl, h11, hb11⟩; obtain ⟨a11, c11, rfl⟩ := h11.rb.shape; have hz6 : Below w4.heap.size w4 w11 := dcall (Below.drew (Below.refl _ _)) hb11; have s2 := cnv_bytes h11.rb w11 (Below.refl _ _)))
      all_goals
        go_wp2_with fail
        go_meet
        exact ⟨rfl, hz6⟩
    · have g1 : (xe == 0) = false := by simpa using hxe
      clear hxe
      go_quiet (fail)
      go_wp2_with fail
      go_meet
      exact ⟨rfl, by first | exact Below.drew (Below.refl _ _) | exact below_drewN (Below.refl _ _) _ | exact Below.drew (below_drewN (Below.refl _ _) _) | ((repeat' (first | exact Below.refl _ _ | refine below_drewN ?_ _ | refine Below.drew ?_ | refine Below.alloc ?_ ?_ _ | refine Below.trans ?_ (Below.mono (by assumption) ?_))); all_goals (first | exact Nat.le_refl _ | exact Below.size (by assumption) | omega | (simp; done) | (simp; omega)))⟩
  case rest =>
    obtain ⟨rfl, hc⟩ := hcut
    have HWC := Lib.hid (dcall HW4.out hc)
    have RC := Lib.hid (dblk hc R4.out)
    clear hc HTP hcells R4 Q4 HX4 HW4 HLX HXE
    obtain ⟨t0, -⟩ := blk_cell (i := 0) RC.out
    obtain ⟨t1, -⟩ := blk_cell (i := 1) RC.out
    simp at t0 t1
    go_wp2_with fail
    refine (tpackL_any B ⟨ob, ops⟩ _ _ (HS.out.ext HWC.out)).mono ?_
    rintro e w6 ⟨v6, rfl, ho6, hb6⟩
    have HO6 := Lib.hid ho6
    have HW6 := Lib.hid (dcall HWC.out hb6)
    have R6 := Lib.hid (dblk hb6 RC.out)
    clear ho6 hb6 RC t0 t1
    obtain ⟨t0, -⟩ := blk_cell (i := 0) R6.out
    obtain ⟨t1, -⟩ := blk_cell (i := 1) R6.out
    simp at t0 t1
    go_wp2_with fail
    refine (tcheck_any B ⟨ob, ops⟩ _ _ (HS.out.ext HW6.out)).mono ?_
    rintro e w7 ⟨rfl, hb7⟩
    have HO7 := Lib.hid (HO6.out.ext hb7)
    have HW7 := Lib.hid (dcall HW6.out hb7)
    have R7 := Lib.hid (dblk hb7 R6.out)
    clear hb7 R6 HO6 t0 t1
    obtain ⟨t0, -⟩ := blk_cell (i := 0) R7.out
    obtain ⟨t1, -⟩ := blk_cell (i := 1) R7.out
    simp at t0 t1
    by_cases hte : txE ⟨ob, ops⟩ = 0
    · have hP : packL ⟨ob, ops⟩ = txL ⟨ob, ops⟩ ops.length := if_pos hte
      have HUP := Lib.hid (un_of_pack hte)
      have HUL := Lib.hid (un_less hte)
      have HUM := Lib.hid (un_more hte 0)
      have hlen := packL_len ⟨ob, ops⟩
      have hpos := txL_pos ⟨ob, ops⟩
      have HOL := Lib.hid (txE_ok hte).1
      simp only at HUP HUL HUM hpos HOL
      rw [hP] at HO7 hlen
      rw [hte]
      clear hP hte
      generalize txL ⟨ob, ops⟩ ops.length = P at *
      obtain ⟨g, cp, rfl, hgb, hgl, hcp, -, -⟩ := HO7.out.lies hpos
      go_wp2_with fail
      refine (HUN.out _ _ P _ HO7.out.rb (by omega)).mono ?_
      rw [HUP.out]
      rintro e w8 ⟨v8, rfl, h8, hb8⟩
      simp only at h8 ⊢
      obtain ⟨a8, c8, rfl⟩ := h8.shape
      have HU8 := Lib.hid h8
      have HW8 := Lib.hid (dcall HW7.out hb8)
      have HO8 := Lib.hid (HO7.out.ext hb8)
      have R8 := Lib.hid (dblk hb8 R7.out)
      have hg8 : g < w8.heap.size := by have := hb8.size; omega
      clear h8 hb8 HW7 HO7 R7 hgl t0 t1
      go_upto_region 14 with fail
      obtain ⟨w9, hw9⟩ : ∃ w9, w9 = w8.alloc (.cells #[.string ob, .slice a8 ops.length c8] 28) := ⟨_, rfl⟩
      rw [← hw9]
      have hb9 : Below w8.heap.size w8 w9 := by rw [hw9]; ((repeat' (first | exact Below.refl _ _ | refine below_drewN ?_ _ | refine Below.drew ?_ | refine Below.alloc ?_ ?_ _ | refine Below.trans ?_ (Below.mono (by assumption) ?_))); all_goals (first | exact Nat.le_refl _ | exact Below.size (by assumption) | omega | (simp; done) | (simp; omega)))
      have Q9 := Lib.hid (show w9.heap[w8.heap.size]? = some (.cells #[.string ob, .slice a8 ops.length c8] 28 (0, 0)) from by rw [hw9]; exact heap_alloc_new _ _)
      have HU9 := Lib.hid (HU8.out.ext hb9)
      have HO9 := Lib.hid (HO8.out.ext hb9)
      have R9 := Lib.hid (dblk hb9 R8.out)
      have HW9 := Lib.hid (dcall HW8.out hb9)
      clear hw9 hb9 HU8 HO8 R8 HW8
      have HD : Hid (P.dropLast = P.take (P.length - 1)) := Lib.hid (List.dropLast_eq_take ..)
      go_wp2_with fail
      refine (HUN.out _ _ P.dropLast _ (by rw [HD.out]; exact HO9.out.rb.takeN (by omega)) (by rw [HD.out]; simp; omega)).mono ?_
      obtain ⟨X, hX⟩ : ∃ X, X = txUn P.dropLast := ⟨_, rfl⟩
      rw [← hX] at HUL ⊢
      clear hX HD
      obtain ⟨⟨yo, ys⟩, ye⟩ := X
      obtain rfl : ye = 10 := HUL.out
      clear HUL
      rintro e w10 ⟨v10, rfl, h10, hb10⟩
      simp only at h10 ⊢
      obtain ⟨a10, c10, rfl⟩ := h10.shape
      have HU10 := Lib.hid (HU9.out.ext hb10)
      have HO10 := Lib.hid (HO9.out.ext hb10)
      have R10 := Lib.hid (dblk hb10 R9.out)
      have Q10 := Lib.hid (dblk hb10 Q9.out)
      have HW10 := Lib.hid (dcall HW9.out hb10)
      clear h10 hb10 HU9 HO9 R9 Q9 HW9
      go_upto_region 15 with fail
      obtain ⟨w11, hw11⟩ : ∃ w11, w11 = w10.alloc (.cells #[.string yo, .slice a10 ys.length c10] 28) := ⟨_, rfl⟩
      rw [← hw11]
      have hb11 : Below w10.heap.size w10 w11 := by rw [hw11]; ((repeat' (first | exact Below.refl _ _ | refine below_drewN ?_ _ | refine Below.drew ?_ | refine Below.alloc ?_ ?_ _ | refine Below.trans ?_ (Below.mono (by assumption) ?_))); all_goals (first | exact Nat.le_refl _ | exact Below.size (by assumption) | omega | (simp; done) | (simp; omega)))
      have HU11 := Lib.hid (HU10.out.ext hb11)
      have HO11 := Lib.hid (HO10.out.ext hb11)
      have R11 := Lib.hid (dblk hb11 R10.out)
      have Q11 := Lib.hid (dblk hb11 Q10.out)
      have HW11 := Lib.hid (dcall HW10.out hb11)
      clear hw11 hb11 HU10 HO10 R10 Q10 HW10
      go_wp2_with (first | (at_builtin; refine stop_in ?_) | go_in)
      unfold Stop
      obtain ⟨w12, hw12⟩ : ∃ w12, w12 = w11.alloc (.cells #[] 5) := ⟨_, rfl⟩
      rw [← hw12]
      have hb12 : Below w11.heap.size w11 w12 := by rw [hw12]; ((repeat' (first | exact Below.refl _ _ | refine below_drewN ?_ _ | refine Below.drew ?_ | refine Below.alloc ?_ ?_ _ | refine Below.trans ?_ (Below.mono (by assumption) ?_))); all_goals (first | exact Nat.le_refl _ | exact Below.size (by assumption) | omega | (simp; done) | (simp; omega)))
      have E12 : Hid (OB w11.heap.size w12 (.slice (some ⟨w11.heap.size, 0, none⟩) 0 0) []) := Lib.hid (OB.of_blk (t := []) (by rw [hw12]; exact heap_alloc_new _ _) (Nat.le_refl _) rfl rfl (by omega))
      have hs12 : w11.heap.size ≤ w12.heap.size := hb12.size
      have HO12 := Lib.hid (HO11.out.ext hb12)
      have HB12 := Lib.hid hb12
      clear hw12 hb12
      refine wpList_appB _ (by rfl) (.tmp 67) (.tmp 68) (by rfl) w11.heap.size _ [] (by rfl) E12.out _ _ P (by rfl) HO12.out.rb (by simp; omega) hs12 ?_
      intro v13 w13 ho13 hb13
      rw [List.nil_append] at ho13
      have HO13 := Lib.hid ho13
      have HB13 := Lib.hid (HB12.out.trans hb13)
      have hs13 : w11.heap.size ≤ w13.heap.size := Nat.le_trans hs12 hb13.size
      clear ho13 hb13 HB12 HO12 E12 hs12
      go_wp2_with (first | (at_builtin; refine stop_in ?_) | go_in)
      unfold Stop
      refine wpList_pushB w13 (by rfl) (.tmp 69) (.tmp 70) (by rfl) w11.heap.size _ P (by rfl) HO13.out [bv 0] 5 0 rfl (by rfl) (by omega) hs13 ?_
      intro v14 w14 ho14 hb14
      have HO14 := Lib.hid ho14
      have HB14 := Lib.hid (HB13.out.trans hb14)
      clear ho14 hb14 HB13 HO13 hs13
      go_wp2_with fail
      refine (HUN.out _ _ (P ++ [0]) _ HO14.out.rb (by simp; omega)).mono ?_
      obtain ⟨X, hX⟩ : ∃ X, X = txUn (P ++ [0]) := ⟨_, rfl⟩
      rw [← hX] at HUM ⊢
      clear hX
      obtain ⟨⟨zo, zs⟩, ze⟩ := X
      obtain rfl : ze = 11 := HUM.out
      clear HUM
      rintro e w15 ⟨v15, rfl, h15, hb15⟩
      simp only at h15 ⊢
      obtain ⟨a15, c15, rfl⟩ := h15.shape
      have HB15 : Hid (Below w11.heap.size w11 w15) := Lib.hid (dcall HB14.out hb15)
      clear h15 hb15 HB14 HO14
      go_upto_region 16 with fail
      obtain ⟨w16, hw16⟩ : ∃ w16, w16 = w15.alloc (.cells #[.string zo, .slice a15 zs.length c15] 28) := ⟨_, rfl⟩
      rw [← hw16]
      have hb16 : Below w15.heap.size w15 w16 := by rw [hw16]; ((repeat' (first | exact Below.refl _ _ | refine below_drewN ?_ _ | refine Below.drew ?_ | refine Below.alloc ?_ ?_ _ | refine Below.trans ?_ (Below.mono (by assumption) ?_))); all_goals (first | exact Nat.le_refl _ | exact Below.size (by assumption) | omega | (simp; done) | (simp; omega)))
      have HB16 := dcall HB15.out hb16
      have R16 := dblk HB16 R11.out
      have Q16 := dblk HB16 Q11.out
      have HU16 := Lib.hid (HU11.out.ext HB16)
      have HW16 := Lib.hid (dcall HW11.out HB16)
      obtain ⟨x0, -⟩ := blk_cell (i := 0) Q16
      obtain ⟨x1, -⟩ := blk_cell (i := 1) Q16
      obtain ⟨t0, -⟩ := blk_cell (i := 0) R16
      obtain ⟨t1, -⟩ := blk_cell (i := 1) R16
      simp at x0 x1 t0 t1
      clear hw16 hb16 HB16 R16 Q16 R11 Q11 HU11 HW11 HO11 HB15
      go_wp2_with fail
      refine (same9_yes _ _ ⟨ob, ops⟩ _ _ w16 HU16.out (HS.out.ext HW16.out) (by have := HOL.out; show ops.length ≤ _; omega)).mono ?_
      rintro e w17 ⟨rfl, hb17⟩
      have HQ := Lib.hid hb17
      clear hb17
      go_wp2
      go_ret
      exact ⟨rfl, dcall HW16.out HQ.out⟩
    · have hP : packL ⟨ob, ops⟩ = [] := if_neg hte
      rw [hP] at HO7
      obtain ⟨a7, c7, rfl⟩ := HO7.out.rb.shape
      have v0 : (txE ⟨ob, ops⟩ != 0) = true := by simpa using hte
      have v1 : (txE ⟨ob, ops⟩ == 0) = false := by simpa using hte
      generalize txE ⟨ob, ops⟩ = E at *
      clear hP hte
      go_wp2
      go_ret
      exact ⟨rfl, HW7.out⟩
end Go.Proofs.YtgdilkhaopnhaaaGreatDoor
