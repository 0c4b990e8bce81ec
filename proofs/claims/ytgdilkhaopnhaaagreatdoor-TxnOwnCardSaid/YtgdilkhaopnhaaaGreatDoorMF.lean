/- The walks of object.from, object.At, object.spot, object.Read. The walk of object.Read. -/
import Derived.Test.YtgdilkhaopnhaaaGreatDoorIdx8
import Derived.Laws.CopyRow
import Derived.Test.YtgdilkhaopnhaaaGreatDoorMA
namespace Go.Proofs.YtgdilkhaopnhaaaGreatDoor
open Go.RowKit Go.WideShapes

set_option maxRecDepth 100000 in
set_option maxHeartbeats 1600000 in
theorem from_any (A : Nat → Prop) (v : Value) (o : ObD) (nm : ByteArray) (w : World) (hv : ObV A w v o) (hl : o.okl) :
    Calls Tryz.prog 91 #[v, .string nm] w (IdxR (fromB nm) o.keys w) := by
  obtain ⟨dv, kv, rfl, hd, hk⟩ := hv
  obtain ⟨da, dc, rfl⟩ := hd.shape
  obtain ⟨ka, kc, rfl⟩ := hk.shape
  obtain ⟨od, ks, os⟩ := o
  simp only at *
  have HK := Lib.hid hk
  have hl2 := hl.keys
  simp only at hl2
  clear hk hd hl
  go_enter Tryz.func91, Tryz.ntmps91
  go_wp2_with fail
  obtain ⟨w0, hw0⟩ : ∃ w0, w0 = (w.alloc (.cells #[.slice da od.length dc, .slice ka ks.length kc, .int .i64 os] 25)).alloc (.cells #[.string nm] 9) := ⟨_, rfl⟩
  rw [← hw0]
  have hw : Below w.heap.size w w0 := by rw [hw0]; ((repeat' (first | exact Below.refl _ _ | refine below_drewN ?_ _ | refine Below.drew ?_ | refine Below.alloc ?_ ?_ _ | refine Below.trans ?_ (Below.mono (by assumption) ?_))); all_goals (first | exact Nat.le_refl _ | exact Below.size (by assumption) | omega | (simp; done) | (simp; omega)))
  have B1 : w0.cell? ⟨w.heap.size + 1, 0, none⟩ = some (.string nm) := by rw [hw0]; simp
  refine (idxF_any A ks ka kc nm _ w0 (HK.out.ext hw) B1 (by omega)).mono ?_
  rintro e w1 ⟨rfl, hb1⟩
  have HB1 := Lib.hid (hw.trans (hb1.mono hw.size))
  clear hb1 hw hw0 B1
  go_wp2
  go_ret
  exact ⟨rfl, HB1.out⟩
set_option maxRecDepth 100000 in
set_option maxHeartbeats 1600000 in
theorem at_any (A : Nat → Prop) (v : Value) (o : ObD) (nm : ByteArray) (w : World) (hv : ObV A w v o) (hl : o.okl) :
    Calls Tryz.prog 92 #[v, .string nm] w (NewB w (atD o nm)) := by
  obtain ⟨dv, kv, rfl, hd, hk⟩ := hv
  obtain ⟨da, dc, rfl⟩ := hd.shape
  obtain ⟨ka, kc, rfl⟩ := hk.shape
  have HV : Hid (ObV A w _ o) := Lib.hid ⟨_, _, rfl, hd, hk⟩
  obtain ⟨od, ks, os⟩ := o
  simp only at *
  have HD := Lib.hid hd
  have HK := Lib.hid hk
  have HL := Lib.hid hl
  have hl1 := hl.data
  simp only at hl1
  clear hk hd hl
  go_enter Tryz.func92, Tryz.ntmps92
  go_wp2_with fail
  refine (from_any A _ ⟨od, ks, os⟩ nm _ (HV.out.ext (by ((repeat' (first | exact Below.refl _ _ | refine below_drewN ?_ _ | refine Below.drew ?_ | refine Below.alloc ?_ ?_ _ | refine Below.trans ?_ (Below.mono (by assumption) ?_))); all_goals (first | exact Nat.le_refl _ | exact Below.size (by assumption) | omega | (simp; done) | (simp; omega))))) HL.out).mono ?_
  rintro e w1 ⟨rfl, hb1⟩
  have B0 : w1.heap[w.heap.size]? = some (.cells #[.slice da od.length dc, .slice ka ks.length kc, .int .i64 os] 25 (0, 0)) := (hb1.block _ (by simp)).trans (heap_alloc_new _ _)
  have HB1 : Hid (Below w.heap.size w w1) := Lib.hid (((Below.refl _ w).alloc (Nat.le_refl _) _).trans (hb1.mono (by simp)))
  obtain ⟨x0, f0⟩ := blk_cell (i := 0) B0
  obtain ⟨x1, f1⟩ := blk_cell (i := 1) B0
  simp at x0 x1
  clear hb1 B0
  rcases ix_ways (fromB nm) ks with ⟨e1, e2⟩ | ⟨k, hlt, e1, e2⟩
  · have HG : Hid (atD ⟨od, ks, os⟩ nm = od) := by show atD _ _ = _; unfold atD; rw [e2]
    have hneg : ¬ (0 : Int) ≤ -1 := by omega
    simp only [e1]
    clear e1 e2
    go_wp2_with fail
    refine (bclone_any A _ od _ hl1 (RB.ext HD.out HB1.out)).mono ?_
    rintro e w2 ⟨v2, rfl, h2, hb2⟩
    have H2 := Lib.hid h2
    have HB2 := Lib.hid hb2
    clear h2 hb2
    go_wp2
    go_ret
    show NewB w (atD ⟨od, ks, os⟩ nm) _ _
    rw [HG.out]
    exact ⟨v2, rfl, H2.out.base_le HB1.out.size, HB1.out.trans (HB2.out.mono HB1.out.size)⟩
  · have HG : Hid (atD ⟨od, ks, os⟩ nm = (ks[k]).value) := by show atD _ _ = _; unfold atD; rw [e2]
    obtain ⟨b, off, u, rfl, hb, -, c3, c4, hu⟩ := Keys.at (HK.out.ext HB1.out) hlt
    obtain ⟨ua, uc, rfl⟩ := hu.shape
    have HU := Lib.hid hu
    have hvl : (ks[k]).value.length ≤ 1000000 := HL.out.vals _ (List.getElem_mem hlt)
    simp only [e1]
    clear e1 e2 hu
    generalize ks[k] = ky at *
    go_wp2_with fail
    refine (bclone_any A _ ky.value _ hvl HU.out).mono ?_
    rintro e w2 ⟨v2, rfl, h2, hb2⟩
    have H2 := Lib.hid h2
    have HB2 := Lib.hid hb2
    clear h2 hb2
    go_wp2
    go_ret
    show NewB w (atD ⟨od, ks, os⟩ nm) _ _
    rw [HG.out]
    exact ⟨v2, rfl, H2.out.base_le HB1.out.size, HB1.out.trans (HB2.out.mono HB1.out.size)⟩
set_option maxHeartbeats 1600000 in
theorem spot_any (off n : Int) (w : World) : Calls Tryz.prog 99 #[.int .i64 off, .int .i64 n] w fun e w' => e = .returned (.bool (spotB off n)) ∧ w = w' := by
  by_cases h1 : 0 ≤ off
  · by_cases h2 : 0 ≤ n
    · by_cases h3 : off ≤ 64
      · by_cases h4 : n ≤ 64
        · have HX : Hid (spotB off n = decide (off + n ≤ 64)) := by show spotB _ _ = _; simp [spotB, h1, h2, h3, h4]
          go_enter Tryz.func99, Tryz.ntmps99
          go_wp2
          go_ret
          exact ⟨ret_bool HX.out.symm, rfl⟩
        · have HX : Hid (spotB off n = false) := by show spotB _ _ = _; simp [spotB, h4]
          go_enter Tryz.func99, Tryz.ntmps99
          go_wp2
          go_ret
          exact ⟨ret_bool HX.out.symm, rfl⟩
      · have HX : Hid (spotB off n = false) := by show spotB _ _ = _; simp [spotB, h3]
        go_enter Tryz.func99, Tryz.ntmps99
        go_wp2
        go_ret
        exact ⟨ret_bool HX.out.symm, rfl⟩
    · have HX : Hid (spotB off n = false) := by show spotB _ _ = _; simp [spotB, h2]
      go_enter Tryz.func99, Tryz.ntmps99
      go_wp2
      go_ret
      exact ⟨ret_bool HX.out.symm, rfl⟩
  · have HX : Hid (spotB off n = false) := by show spotB _ _ = _; simp [spotB, h1]
    go_enter Tryz.func99, Tryz.ntmps99
    go_wp2
    go_ret
    exact ⟨ret_bool HX.out.symm, rfl⟩
end Go.Proofs.YtgdilkhaopnhaaaGreatDoor
namespace Go.Proofs.YtgdilkhaopnhaaaGreatDoor
open Go.RowKit Go.WideShapes

theorem pad_map (d : List UInt8) (f m : Nat) (h : m ≤ 64) : ((d.drop f).take m).map bv ++ List.replicate (m - (((d.drop f).take m).map bv).length) (Value.int .u8 0) = (padD d f m).map bv := by
  unfold padD
  rw [List.map_append, List.map_replicate]
  congr 2
  simp
  omega
theorem spot_nat {off n : Int} (h : spotB off n = true) : ∃ f m : Nat, off = f ∧ n = m ∧ f + m ≤ 64 := by
  simp only [spotB, Bool.and_eq_true, decide_eq_true_eq] at h
  exact ⟨off.toNat, n.toNat, by omega, by omega, by omega⟩
end Go.Proofs.YtgdilkhaopnhaaaGreatDoor
