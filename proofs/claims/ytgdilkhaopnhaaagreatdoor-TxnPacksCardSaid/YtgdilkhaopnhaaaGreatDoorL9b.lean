/- The walk of terrazzolaw09.TxnPacks. -/
import Derived.Test.YtgdilkhaopnhaaaGreatDoorMN
import Derived.Test.YtgdilkhaopnhaaaGreatDoorMP
import Derived.Deep.RegionHeldLaw
namespace Go.Proofs.YtgdilkhaopnhaaaGreatDoor
open Go.RowKit Go.WideShapes

theorem unpOps_len : ∀ (n : Nat) (r : Rd), (unpOps n r).1.length ≤ n
  | 0, r => by simp [unpOps]
  | n + 1, r => by
    by_cases h : r.e = 0
    · rw [unpOps_go h]
      have := unpOps_len n (unpOp r).2
      simp only [List.length_cons]
      omega
    · rw [unpOps_halt h]
      simp
theorem txUn_len (l : List UInt8) : (txUn l).1.ops.length ≤ 100000 := by
  unfold txUn
  split
  · have h1 := unpOps_len (unpN l).1 (unpC l)
    have h2 : (unpN l).1 < 256 ^ 1 := Rd.num_lt (unpHead l).2 1
    show (unpY l).1.length ≤ _
    unfold unpY
    omega
  · simp
theorem obv_nil (A : Nat → Prop) (w : World) : ObV A w (.agg #[.slice none 0 0, .slice none 0 0, .int .i64 0]) ObD.none := ⟨_, _, rfl, RB.nil _ _, SlE.nil _ _ _⟩
set_option maxRecDepth 100000 in
set_option maxHeartbeats 16000000 in
theorem tpacks_law (A B : Nat → Prop) (va vb : Value) (t : TxD) (l : List UInt8) (w : World) (hE : ErrT w) (h : SlE Enc.op B w va t.ops) (hv : RB A w vb l) :
    Calls Tryz.prog 4 #[.agg #[.string t.obj, va], vb] w (Says true w) := by
  obtain ⟨ta, tc, rfl⟩ := h.shape
  obtain ⟨ba, bc, rfl⟩ := hv.shape
  have HS := Lib.hid h
  have HV := Lib.hid hv
  have HE := Lib.hid hE
  obtain ⟨ob, ops⟩ := t
  simp only at HS ⊢
  clear hv h hE
  go_enter Tryz.func4, Tryz.ntmps4
  go_wp2_with fail
  obtain ⟨w0, hw0⟩ : ∃ w0, w0 = w.alloc (.cells #[.string ob, .slice ta ops.length tc] 28) := ⟨_, rfl⟩
  rw [← hw0]
  have b0 : w0.heap[w.heap.size]? = some (.cells #[.string ob, .slice ta ops.length tc] 28 (0, 0)) := by rw [hw0]; exact heap_alloc_new _ _
  have hw : Below w.heap.size w w0 := by rw [hw0]; ((repeat' (first | exact Below.refl _ _ | refine below_drewN ?_ _ | refine Below.drew ?_ | refine Below.alloc ?_ ?_ _ | refine Below.trans ?_ (Below.mono (by assumption) ?_))); all_goals (first | exact Nat.le_refl _ | exact Below.size (by assumption) | omega | (simp; done) | (simp; omega)))
  clear hw0
  refine (awake9_any _ (HE.out.ext hw)).mono ?_
  rintro e w1 ⟨rfl, hb1⟩
  have HW1 := Lib.hid (dcall hw hb1)
  have R1 := Lib.hid (dblk hb1 b0)
  clear hb1 b0 hw
  obtain ⟨t0, -⟩ := blk_cell (i := 0) R1.out
  obtain ⟨t1, -⟩ := blk_cell (i := 1) R1.out
  simp at t0 t1
  go_wp2_with fail
  refine (few9_any (fun _ => True) B _ _ ObD.none ⟨ob, ops⟩ _ (obv_nil _ _) (HS.out.ext HW1.out)).mono ?_
  rintro e w2 ⟨p1, rfl, hf1, hb2⟩
  have HW2 := Lib.hid (dcall HW1.out hb2)
  have R2 := Lib.hid (dblk hb2 R1.out)
  clear hb2 R1 HW1 hf1 t0 t1
  rcases p1 with _ | _
  · go_wp2
    go_ret
    exact ⟨rfl, HW2.out⟩
  rcases Nat.lt_or_ge 20000 l.length with hlb | hlb
  · have hlb' : (20000 : Int) < l.length := by omega
    go_wp2
    go_ret
    exact ⟨rfl, HW2.out⟩
  have hlb' : ¬ (20000 : Int) < l.length := by omega
  obtain ⟨t0, -⟩ := blk_cell (i := 0) R2.out
  obtain ⟨t1, -⟩ := blk_cell (i := 1) R2.out
  simp at t0 t1
  have HLX := Lib.hid (txUn_len l)
  have HUN := Lib.hid fun W (h : RB A W (.slice ba l.length bc) l) => tunpack_any A _ l W h (by omega)
  have HRU := Lib.hid fun W (h : RB A W (.slice ba l.length bc) l) => runpack_any A _ l W h (by omega)
  generalize txUn l = X at *
  obtain ⟨⟨xo, xs⟩, xe⟩ := X
  go_wp2_with fail
  refine (HUN.out _ (HV.out.ext HW2.out)).mono ?_
  rintro e w3 ⟨v3, rfl, h3, hb3⟩
  simp only at h3 ⊢
  obtain ⟨a3, c3, rfl⟩ := h3.shape
  have HX3 := Lib.hid h3
  have HW3 := Lib.hid (dcall HW2.out hb3)
  have R3 := Lib.hid (dblk hb3 R2.out)
  clear h3 hb3 R2 HW2 HUN t0 t1
  go_upto_region 8 with fail
  obtain ⟨w4, hw4⟩ : ∃ w4, w4 = w3.alloc (.cells #[.string xo, .slice a3 xs.length c3] 28) := ⟨_, rfl⟩
  rw [← hw4]
  have hb4 : Below w3.heap.size w3 w4 := by rw [hw4]; ((repeat' (first | exact Below.refl _ _ | refine below_drewN ?_ _ | refine Below.drew ?_ | refine Below.alloc ?_ ?_ _ | refine Below.trans ?_ (Below.mono (by assumption) ?_))); all_goals (first | exact Nat.le_refl _ | exact Below.size (by assumption) | omega | (simp; done) | (simp; omega)))
  have Q4 := Lib.hid (show w4.heap[w3.heap.size]? = some (.cells #[.string xo, .slice a3 xs.length c3] 28 (0, 0)) from by rw [hw4]; exact heap_alloc_new _ _)
  have HX4 := Lib.hid (HX3.out.ext hb4)
  have R4 := Lib.hid (dblk hb4 R3.out)
  have HW4 := Lib.hid (dcall HW3.out hb4)
  clear hw4 hb4 R3 HX3 HW3
  go_wp2_with fail
  refine (HRU.out _ (HV.out.ext HW4.out)).mono ?_
  rintro e w5 ⟨v5, rfl, h5, hb5⟩
  simp only at h5 ⊢
  obtain ⟨a5, c5, rfl⟩ := h5.shape
  have HY5 := Lib.hid h5
  have HX5 := Lib.hid (HX4.out.ext hb5)
  have HW5 := Lib.hid (dcall HW4.out hb5)
  have R5 := Lib.hid (dblk hb5 R4.out)
  have Q5 := Lib.hid (dblk hb5 Q4.out)
  clear h5 hb5 R4 Q4 HX4 HW4 HRU
  go_upto_region 9 with fail
  obtain ⟨wB, hwB⟩ : ∃ wB, wB = w5.alloc (.cells #[.string xo, .slice a5 xs.length c5] 28) := ⟨_, rfl⟩
  rw [← hwB]
  have hbB : Below w5.heap.size w5 wB := by rw [hwB]; ((repeat' (first | exact Below.refl _ _ | refine below_drewN ?_ _ | refine Below.drew ?_ | refine Below.alloc ?_ ?_ _ | refine Below.trans ?_ (Below.mono (by assumption) ?_))); all_goals (first | exact Nat.le_refl _ | exact Below.size (by assumption) | omega | (simp; done) | (simp; omega)))
  have ZB := Lib.hid (show wB.heap[w5.heap.size]? = some (.cells #[.string xo, .slice a5 xs.length c5] 28 (0, 0)) from by rw [hwB]; exact heap_alloc_new _ _)
  have HXB := Lib.hid (HX5.out.ext hbB)
  have HYB := Lib.hid (HY5.out.ext hbB)
  have RB' := Lib.hid (dblk hbB R5.out)
  have QB := Lib.hid (dblk hbB Q5.out)
  have HWB := Lib.hid (dcall HW5.out hbB)
  clear hwB hbB R5 Q5 HX5 HY5 HW5
  obtain ⟨t0, -⟩ := blk_cell (i := 0) RB'.out
  obtain ⟨t1, -⟩ := blk_cell (i := 1) RB'.out
  obtain ⟨x0, -⟩ := blk_cell (i := 0) QB.out
  obtain ⟨x1, -⟩ := blk_cell (i := 1) QB.out
  obtain ⟨z0, -⟩ := blk_cell (i := 0) ZB.out
  obtain ⟨z1, -⟩ := blk_cell (i := 1) ZB.out
  simp at t0 t1 x0 x1 z0 z1
  have hcells : Hid (∀ W, Below wB.heap.size wB W → Below wB.heap.size wB W ∧ W.cell? ⟨w.heap.size, 0, none⟩ = some (.string ob) ∧ W.cell? ⟨w.heap.size, 1, none⟩ = some (.slice ta ops.length tc) ∧
      W.cell? ⟨w3.heap.size, 0, none⟩ = some (.string xo) ∧ W.cell? ⟨w3.heap.size, 1, none⟩ = some (.slice a3 xs.length c3) ∧ W.cell? ⟨w5.heap.size, 0, none⟩ = some (.string xo) ∧ W.cell? ⟨w5.heap.size, 1, none⟩ = some (.slice a5 xs.length c5)) := Lib.hid fun W h =>
    ⟨h, cellExt h t0, cellExt h t1, cellExt h x0, cellExt h x1, cellExt h z0, cellExt h z1⟩
  have HTP := Lib.hid fun W (h : Below wB.heap.size wB W) => tpackL_any B ⟨ob, ops⟩ _ W (HS.out.ext (dcall HWB.out h))
  have HRP := Lib.hid fun W (h : Below wB.heap.size wB W) => rpackL_any B ⟨ob, ops⟩ _ W (HS.out.ext (dcall HWB.out h))
  have HSM := Lib.hid fun W (h : Below wB.heap.size wB W) => same9_yes _ _ ⟨xo, xs⟩ _ _ W (HXB.out.ext h) (HYB.out.ext h) HLX.out
  generalize packL ⟨ob, ops⟩ = L at *
  have g2 : (xe == xe) = true := by simp
  clear t0 t1 x0 x1 z0 z1
  go_region_held_law (fun W => Below wB.heap.size wB W ∧ W.cell? ⟨w.heap.size, 0, none⟩ = some (.string ob) ∧ W.cell? ⟨w.heap.size, 1, none⟩ = some (.slice ta ops.length tc) ∧
      W.cell? ⟨w3.heap.size, 0, none⟩ = some (.string xo) ∧ W.cell? ⟨w3.heap.size, 1, none⟩ = some (.slice a3 xs.length c3) ∧ W.cell? ⟨w5.heap.size, 0, none⟩ = some (.string xo) ∧ W.cell? ⟨w5.heap.size, 1, none⟩ = some (.slice a5 xs.length c5))
    ((refine hcells.out _ ?_; first
      | (with_reducible exact Below.drew (Below.refl _ _))
      | (with_reducible exact hz6)
      | (with_reducible exact hz7)
      | (with_reducible exact hz8)))
    (first
      | (go_at_call 20; refine (HSM.out _ hz7).mono ?_; rintro e w13 ⟨rfl, hb13⟩; have hz8 : Below wB.heap.size wB w13 := dcall hz7 hb13)
      | (go_at_call 19; refine (HRP.out _ hz6).mono ?_; rintro e w12 ⟨v12, rfl, h12, hb12⟩; obtain ⟨a12, c12, rfl⟩ := h12.rb.shape; have hz7 : Below wB.heap.size wB w12 := dcall hz6 hb12; have s3 := cnv_bytes h12.rb w12 (Below.refl _ _); have s4 := cnv_bytes h11.rb w12 hb12)
      | (go_at_call 18; refine (HTP.out _ (Below.drew (Below.refl _ _))).mono ?_; rintro e w11 ⟨v11, rfl, h11, hb11⟩; obtain ⟨a11, c11, rfl⟩ := h11.rb.shape; have hz6 : Below wB.heap.size wB w11 := dcall (Below.drew (Below.refl _ _)) hb11; have s2 := cnv_bytes h11.rb w11 (Below.refl _ _)))
  all_goals
    go_wp2
    go_ret
    exact ⟨rfl, dcall HWB.out hz8⟩
end Go.Proofs.YtgdilkhaopnhaaaGreatDoor
