/- Entries: the walks of entry.Pack and of the reference's Pack. -/
import Derived.Test.YtfeonfihlleoeaaDoorGAO
import Derived.Test.YtfeonfihlleoeaaDoorGAP
import Derived.Test.YtfeonfihlleoeaaDoorGAL
import Derived.Test.YtfeonfihlleoeaaDoorGAQ
import Derived.Test.YtfeonfihlleoeaaDoorSum02
import Derived.Deep.RegionHeldLaw
namespace Go.Proofs.YtfeonfihlleoeaaDoor
open Go.RowKit Go.WideShapes

set_option maxRecDepth 100000 in
set_option maxHeartbeats 16000000 in
theorem epack_any (A : Nat → Prop) (e : EnD) (a : Option Addr) (c : Nat) (w : World) (hv : RB A w (.slice a e.data.length c) e.data) (hdl : e.data.length ≤ 1000000) (hL : LayW w) : Calls Tryd.prog 21 #[enV e (.slice a e.data.length c)] w (NewB w (pkE e)) := by
  have hck := fun W => echeck_any e a c W
  have hcn := fun W (h : Below w.heap.size w W) => eclean_any A e a c W (hv.ext h) hdl (hL.ext h)
  have hme : mayE e = true → SmE (clE e) := clE_small
  have hpk : pkE e = if mayE e then frm e.kind.toNat (bodyE (clE e)) else [] := rfl
  have hkk : (clE e).kind = e.kind := rfl
  obtain ⟨s, o, k, f, n, p, d⟩ := e
  simp only [enV] at *
  have HCK := Lib.hid hck
  have HCN := Lib.hid hcn
  have HSM := Lib.hid hme
  have HPK := Lib.hid hpk
  have HKK := Lib.hid hkk
  have HL0 := Lib.hid hL
  clear hck hcn hme hpk hv hL hkk
  go_enter Tryd.func21, Tryd.ntmps21
  go_upto_region 1 with fail
  obtain ⟨w0, hw0⟩ : ∃ w0, w0 = w.alloc (.cells #[.int .i64 s, .int .i64 o, .int .i64 k, .int .i64 f, .int .i64 n, .int .i64 p, .slice a d.length c] 24) := ⟨_, rfl⟩
  rw [← hw0]
  have b0 : w0.heap[w.heap.size]? = some (.cells #[.int .i64 s, .int .i64 o, .int .i64 k, .int .i64 f, .int .i64 n, .int .i64 p, .slice a d.length c] 24 (0, 0)) := by rw [hw0]; exact heap_alloc_new _ _
  have hw : Below w.heap.size w w0 := by rw [hw0]; ((repeat' (first | exact Below.refl _ _ | refine below_drewN ?_ _ | refine Below.drew ?_ | refine Below.alloc ?_ ?_ _ | refine Below.trans ?_ (Below.mono (by assumption) ?_))); all_goals (first | exact Nat.le_refl _ | exact Below.size (by assumption) | omega | (simp; done) | (simp; omega)))
  clear hw0
  obtain ⟨y0, e0⟩ := blk_cell (i := 0) (b0)
  obtain ⟨y1, e1⟩ := blk_cell (i := 1) (b0)
  obtain ⟨y2, e2⟩ := blk_cell (i := 2) (b0)
  obtain ⟨y3, e3⟩ := blk_cell (i := 3) (b0)
  obtain ⟨y4, e4⟩ := blk_cell (i := 4) (b0)
  obtain ⟨y5, e5⟩ := blk_cell (i := 5) (b0)
  obtain ⟨y6, e6⟩ := blk_cell (i := 6) (b0)
  simp at y0 y1 y2 y3 y4 y5 y6
  have hbs := (Array.getElem?_eq_some_iff.1 b0).1
  have HB := Lib.hid hw
  have HB0 := Lib.hid b0
  clear hw b0
  go_wp2_with fail
  refine (HCK.out _).mono ?_
  rintro x w1 ⟨rfl, hb1⟩
  have HB1 := Lib.hid (dcall HB.out hb1)
  have BX := Lib.hid (dblk hb1 HB0.out)
  clear hb1 HB0 HB
  clear y0 y1 y2 y3 y4 y5 y6 e0 e1 e2 e3 e4 e5 e6 hbs
  cases hm : mayE ⟨s, o, k, f, n, p, d⟩ with
  | false =>
    have hc : chkN ⟨s, o, k, f, n, p, d⟩ = 70 := by rw [chkN, hm]; rfl
    rw [hc]
    have HM := Lib.hid hm
    clear hm hc
    go_wp2
    go_ret
    rw [HPK.out, HM.out]
    exact ⟨_, rfl, OB.nil _ _, HB1.out⟩
  | true =>
    have hc : chkN ⟨s, o, k, f, n, p, d⟩ = 0 := by rw [chkN, hm]; rfl
    rw [hc]
    have HM := Lib.hid hm
    clear hm hc
    obtain ⟨wq, hwq⟩ : ∃ wq, wq = w1 := ⟨_, rfl⟩
    subst hwq
    obtain ⟨y0, e0⟩ := blk_cell (i := 0) (BX.out)
    obtain ⟨y1, e1⟩ := blk_cell (i := 1) (BX.out)
    obtain ⟨y2, e2⟩ := blk_cell (i := 2) (BX.out)
    obtain ⟨y3, e3⟩ := blk_cell (i := 3) (BX.out)
    obtain ⟨y4, e4⟩ := blk_cell (i := 4) (BX.out)
    obtain ⟨y5, e5⟩ := blk_cell (i := 5) (BX.out)
    obtain ⟨y6, e6⟩ := blk_cell (i := 6) (BX.out)
    simp at y0 y1 y2 y3 y4 y5 y6
    have hbs := (Array.getElem?_eq_some_iff.1 (BX.out)).1
    go_wp2_with fail
    refine (HCN.out _ HB1.out).mono ?_
    rintro x w2 ⟨a2, c2, rfl, hr2, hb2⟩
    have hs := HSM.out HM.out
    have HKK2 := Lib.hid HKK.out
    have HP2 : Hid (pkE ⟨s, o, k, f, n, p, d⟩ = frm (clE ⟨s, o, k, f, n, p, d⟩).kind.toNat (bodyE (clE ⟨s, o, k, f, n, p, d⟩))) := Lib.hid (by rw [HPK.out, HM.out]; rfl)
    generalize clE ⟨s, o, k, f, n, p, d⟩ = E at *
    obtain ⟨s2, o2, k2, f2, n2, p2, d2⟩ := E
    obtain ⟨⟨i1, i2⟩, ⟨i3, i4⟩, ⟨i5, i6⟩, ⟨i7, i8⟩, ⟨i9, i10⟩, ⟨i11, i12⟩, hd2⟩ := hs
    simp only [enV] at i1 i2 i3 i4 i5 i6 i7 i8 i9 i10 i11 i12 hd2 hr2 HP2 ⊢
    obtain ⟨s2, rfl⟩ := Int.eq_ofNat_of_zero_le (show 0 ≤ s2 by omega)
    obtain ⟨o2, rfl⟩ := Int.eq_ofNat_of_zero_le i3
    obtain ⟨k2, rfl⟩ := Int.eq_ofNat_of_zero_le (show 0 ≤ k2 by omega)
    obtain ⟨f2, rfl⟩ := Int.eq_ofNat_of_zero_le i7
    obtain ⟨n2, rfl⟩ := Int.eq_ofNat_of_zero_le i9
    obtain ⟨p2, rfl⟩ := Int.eq_ofNat_of_zero_le i11
    have hnum : Hid (s2 < 256 ^ 6 ∧ o2 < 256 ^ 1 ∧ f2 < 256 ^ 2 ∧ n2 < 256 ^ 2 ∧ p2 < 256 ^ 1 ∧ k2 < 256 ∧ d2.length ≤ 128) := Lib.hid (by omega)
    have HR2 := Lib.hid hr2
    have BX2 := Lib.hid (dblk hb2 BX.out)
    have HB2 := Lib.hid (dcall HB1.out hb2)
    have hz1 : w.heap.size < wq.heap.size := hbs
    clear hb2 hr2 i1 i2 i3 i4 i5 i6 i7 i8 i9 i10 i11 i12 hd2 BX HB1 HSM HCN HCK HPK HKK HKK2 HM
    clear y0 y1 y2 y3 y4 y5 y6 e0 e1 e2 e3 e4 e5 e6 hbs
    obtain ⟨y0, e0⟩ := blk_cell (i := 0) (BX2.out)
    obtain ⟨y1, e1⟩ := blk_cell (i := 1) (BX2.out)
    obtain ⟨y2, e2⟩ := blk_cell (i := 2) (BX2.out)
    obtain ⟨y3, e3⟩ := blk_cell (i := 3) (BX2.out)
    obtain ⟨y4, e4⟩ := blk_cell (i := 4) (BX2.out)
    obtain ⟨y5, e5⟩ := blk_cell (i := 5) (BX2.out)
    obtain ⟨y6, e6⟩ := blk_cell (i := 6) (BX2.out)
    simp at y0 y1 y2 y3 y4 y5 y6
    have hbs := (Array.getElem?_eq_some_iff.1 BX2.out).1
    go_upto_region 4 with fail
    obtain ⟨w3, hw3⟩ : ∃ w3, w3 = (((((((w2.setCell ⟨w.heap.size, 0, none⟩ (.int .i64 (s2 : Nat))).setCell ⟨w.heap.size, 1, none⟩ (.int .i64 (o2 : Nat))).setCell ⟨w.heap.size, 2, none⟩ (.int .i64 (k2 : Nat))).setCell ⟨w.heap.size, 3, none⟩ (.int .i64 (f2 : Nat))).setCell ⟨w.heap.size, 4, none⟩ (.int .i64 (n2 : Nat))).setCell ⟨w.heap.size, 5, none⟩ (.int .i64 (p2 : Nat))).setCell ⟨w.heap.size, 6, none⟩ (.slice a2 d2.length c2)) := ⟨_, rfl⟩
    rw [← hw3]
    have BX : Hid (w3.heap[w.heap.size]? = some (.cells #[.int .i64 (s2 : Nat), .int .i64 (o2 : Nat), .int .i64 (k2 : Nat), .int .i64 (f2 : Nat), .int .i64 (n2 : Nat), .int .i64 (p2 : Nat), .slice a2 d2.length c2] 24 (0, 0))) := Lib.hid (by rw [hw3]; exact set7_blk BX2.out)
    have HD : Hid (RB (fun b => b ≠ w.heap.size) w3 (.slice a2 d2.length c2) d2) := Lib.hid ((HR2.out.weak fun b _ hb => (by omega : b ≠ w.heap.size)).mono (by rw [hw3]; exact ⟨by simp [World.setCell], fun b hb _ => set7_ne hb⟩))
    have HB : Hid (Below w.heap.size w w3) := Lib.hid (by rw [hw3]; exact below7 HB2.out (Nat.le_refl _))
    have HLW := Lib.hid (HL0.out.ext HB.out)
    have HO : Hid (RB (fun _ => True) w3 (.slice none 0 0) []) := Lib.hid (RB.nil _ _)
    clear hw3 BX2 HR2 HB2 hz1
    clear y0 y1 y2 y3 y4 y5 y6 e0 e1 e2 e3 e4 e5 e6 hbs
    obtain ⟨wq, hwq⟩ : ∃ wq, wq = w3 := ⟨_, rfl⟩
    subst hwq
    obtain ⟨y0, e0⟩ := blk_cell (i := 0) (BX.out)
    obtain ⟨y1, e1⟩ := blk_cell (i := 1) (BX.out)
    obtain ⟨y2, e2⟩ := blk_cell (i := 2) (BX.out)
    obtain ⟨y3, e3⟩ := blk_cell (i := 3) (BX.out)
    obtain ⟨y4, e4⟩ := blk_cell (i := 4) (BX.out)
    obtain ⟨y5, e5⟩ := blk_cell (i := 5) (BX.out)
    obtain ⟨y6, e6⟩ := blk_cell (i := 6) (BX.out)
    simp at y0 y1 y2 y3 y4 y5 y6
    have hbs := (Array.getElem?_eq_some_iff.1 (BX.out)).1
    go_wp2_with fail
    refine (num_any 6 s2 (by omega) (by omega) hnum.out.1 (fun _ => True) _ _ _ HO.out (by simp)).mono ?_
    rintro e wz ⟨v', rfl, hv', hb⟩
    obtain ⟨va, vn, vc, rfl⟩ := hv'.shape3
    have HO2 : Hid (RB (fun _ => True) wz (.slice va vn vc) _) := Lib.hid (hv'.rb.weak fun _ _ _ => trivial)
    replace HO := HO2
    clear HO2
    replace BX := Lib.hid (dblk hb BX.out)
    replace HD := Lib.hid (HD.out.ext hb)
    replace HB := Lib.hid (dcall HB.out hb)
    replace HLW := Lib.hid (HLW.out.ext hb)
    clear hb hv'
    clear y0 y1 y2 y3 y4 y5 y6 e0 e1 e2 e3 e4 e5 e6 hbs
    obtain ⟨wq, hwq⟩ : ∃ wq, wq = wz := ⟨_, rfl⟩
    subst hwq
    obtain ⟨y0, e0⟩ := blk_cell (i := 0) (BX.out)
    obtain ⟨y1, e1⟩ := blk_cell (i := 1) (BX.out)
    obtain ⟨y2, e2⟩ := blk_cell (i := 2) (BX.out)
    obtain ⟨y3, e3⟩ := blk_cell (i := 3) (BX.out)
    obtain ⟨y4, e4⟩ := blk_cell (i := 4) (BX.out)
    obtain ⟨y5, e5⟩ := blk_cell (i := 5) (BX.out)
    obtain ⟨y6, e6⟩ := blk_cell (i := 6) (BX.out)
    simp at y0 y1 y2 y3 y4 y5 y6
    have hbs := (Array.getElem?_eq_some_iff.1 (BX.out)).1
    go_wp2_with fail
    refine (num_any 1 o2 (by omega) (by omega) hnum.out.2.1 (fun _ => True) _ _ _ HO.out (by simp [be_length])).mono ?_
    rintro e wz ⟨v', rfl, hv', hb⟩
    obtain ⟨va, vn, vc, rfl⟩ := hv'.shape3
    have HO2 : Hid (RB (fun _ => True) wz (.slice va vn vc) _) := Lib.hid (hv'.rb.weak fun _ _ _ => trivial)
    replace HO := HO2
    clear HO2
    replace BX := Lib.hid (dblk hb BX.out)
    replace HD := Lib.hid (HD.out.ext hb)
    replace HB := Lib.hid (dcall HB.out hb)
    replace HLW := Lib.hid (HLW.out.ext hb)
    clear hb hv'
    clear y0 y1 y2 y3 y4 y5 y6 e0 e1 e2 e3 e4 e5 e6 hbs
    obtain ⟨wq, hwq⟩ : ∃ wq, wq = wz := ⟨_, rfl⟩
    subst hwq
    obtain ⟨y0, e0⟩ := blk_cell (i := 0) (BX.out)
    obtain ⟨y1, e1⟩ := blk_cell (i := 1) (BX.out)
    obtain ⟨y2, e2⟩ := blk_cell (i := 2) (BX.out)
    obtain ⟨y3, e3⟩ := blk_cell (i := 3) (BX.out)
    obtain ⟨y4, e4⟩ := blk_cell (i := 4) (BX.out)
    obtain ⟨y5, e5⟩ := blk_cell (i := 5) (BX.out)
    obtain ⟨y6, e6⟩ := blk_cell (i := 6) (BX.out)
    simp at y0 y1 y2 y3 y4 y5 y6
    have hbs := (Array.getElem?_eq_some_iff.1 (BX.out)).1
    go_wp2_with fail
    refine (num_any 2 f2 (by omega) (by omega) hnum.out.2.2.1 (fun _ => True) _ _ _ HO.out (by simp [be_length])).mono ?_
    rintro e wz ⟨v', rfl, hv', hb⟩
    obtain ⟨va, vn, vc, rfl⟩ := hv'.shape3
    have HO2 : Hid (RB (fun _ => True) wz (.slice va vn vc) _) := Lib.hid (hv'.rb.weak fun _ _ _ => trivial)
    replace HO := HO2
    clear HO2
    replace BX := Lib.hid (dblk hb BX.out)
    replace HD := Lib.hid (HD.out.ext hb)
    replace HB := Lib.hid (dcall HB.out hb)
    replace HLW := Lib.hid (HLW.out.ext hb)
    clear hb hv'
    clear y0 y1 y2 y3 y4 y5 y6 e0 e1 e2 e3 e4 e5 e6 hbs
    obtain ⟨wq, hwq⟩ : ∃ wq, wq = wz := ⟨_, rfl⟩
    subst hwq
    obtain ⟨y0, e0⟩ := blk_cell (i := 0) (BX.out)
    obtain ⟨y1, e1⟩ := blk_cell (i := 1) (BX.out)
    obtain ⟨y2, e2⟩ := blk_cell (i := 2) (BX.out)
    obtain ⟨y3, e3⟩ := blk_cell (i := 3) (BX.out)
    obtain ⟨y4, e4⟩ := blk_cell (i := 4) (BX.out)
    obtain ⟨y5, e5⟩ := blk_cell (i := 5) (BX.out)
    obtain ⟨y6, e6⟩ := blk_cell (i := 6) (BX.out)
    simp at y0 y1 y2 y3 y4 y5 y6
    have hbs := (Array.getElem?_eq_some_iff.1 (BX.out)).1
    go_wp2_with fail
    refine (num_any 2 n2 (by omega) (by omega) hnum.out.2.2.2.1 (fun _ => True) _ _ _ HO.out (by simp [be_length])).mono ?_
    rintro e wz ⟨v', rfl, hv', hb⟩
    obtain ⟨va, vn, vc, rfl⟩ := hv'.shape3
    have HO2 : Hid (RB (fun _ => True) wz (.slice va vn vc) _) := Lib.hid (hv'.rb.weak fun _ _ _ => trivial)
    replace HO := HO2
    clear HO2
    replace BX := Lib.hid (dblk hb BX.out)
    replace HD := Lib.hid (HD.out.ext hb)
    replace HB := Lib.hid (dcall HB.out hb)
    replace HLW := Lib.hid (HLW.out.ext hb)
    clear hb hv'
    clear y0 y1 y2 y3 y4 y5 y6 e0 e1 e2 e3 e4 e5 e6 hbs
    obtain ⟨wq, hwq⟩ : ∃ wq, wq = wz := ⟨_, rfl⟩
    subst hwq
    obtain ⟨y0, e0⟩ := blk_cell (i := 0) (BX.out)
    obtain ⟨y1, e1⟩ := blk_cell (i := 1) (BX.out)
    obtain ⟨y2, e2⟩ := blk_cell (i := 2) (BX.out)
    obtain ⟨y3, e3⟩ := blk_cell (i := 3) (BX.out)
    obtain ⟨y4, e4⟩ := blk_cell (i := 4) (BX.out)
    obtain ⟨y5, e5⟩ := blk_cell (i := 5) (BX.out)
    obtain ⟨y6, e6⟩ := blk_cell (i := 6) (BX.out)
    simp at y0 y1 y2 y3 y4 y5 y6
    have hbs := (Array.getElem?_eq_some_iff.1 (BX.out)).1
    go_wp2_with fail
    refine (num_any 1 p2 (by omega) (by omega) hnum.out.2.2.2.2.1 (fun _ => True) _ _ _ HO.out (by simp [be_length])).mono ?_
    rintro e wz ⟨v', rfl, hv', hb⟩
    obtain ⟨va, vn, vc, rfl⟩ := hv'.shape3
    have HO2 : Hid (RB (fun _ => True) wz (.slice va vn vc) _) := Lib.hid (hv'.rb.weak fun _ _ _ => trivial)
    replace HO := HO2
    clear HO2
    replace BX := Lib.hid (dblk hb BX.out)
    replace HD := Lib.hid (HD.out.ext hb)
    replace HB := Lib.hid (dcall HB.out hb)
    replace HLW := Lib.hid (HLW.out.ext hb)
    clear hb hv'
    clear y0 y1 y2 y3 y4 y5 y6 e0 e1 e2 e3 e4 e5 e6 hbs
    obtain ⟨wq, hwq⟩ : ∃ wq, wq = wz := ⟨_, rfl⟩
    subst hwq
    obtain ⟨y0, e0⟩ := blk_cell (i := 0) (BX.out)
    obtain ⟨y1, e1⟩ := blk_cell (i := 1) (BX.out)
    obtain ⟨y2, e2⟩ := blk_cell (i := 2) (BX.out)
    obtain ⟨y3, e3⟩ := blk_cell (i := 3) (BX.out)
    obtain ⟨y4, e4⟩ := blk_cell (i := 4) (BX.out)
    obtain ⟨y5, e5⟩ := blk_cell (i := 5) (BX.out)
    obtain ⟨y6, e6⟩ := blk_cell (i := 6) (BX.out)
    simp at y0 y1 y2 y3 y4 y5 y6
    have hbs := (Array.getElem?_eq_some_iff.1 (BX.out)).1
    go_upto_region 9 with fail
    have hcells : Hid (∀ W, Below wq.heap.size wq W → Below wq.heap.size wq W ∧ W.cell? ⟨w.heap.size, 2, none⟩ = some (.int .i64 (k2 : Nat)) ∧ W.cell? ⟨w.heap.size, 6, none⟩ = some (.slice a2 d2.length c2)) := Lib.hid fun W h => ⟨h, cellExt h y2, cellExt h y6⟩
    have HBC : Hid (∀ W, Below wq.heap.size wq W → _) := Lib.hid fun W h => blob_any (fun _ => True) (fun b => b ≠ w.heap.size) _ _ _ d2 W (HO.out.ext h) (HD.out.ext h) (by simp [be_length]) (by have := hnum.out.2.2.2.2.2.2; omega)
    have HMC : Hid (∀ m W v, Below wq.heap.size wq W → m.length ≤ 8192 → RB (fun _ => True) W v m → Calls Tryd.prog 33 #[.int .i64 (k2 : Nat), v] W fun e w' => ∃ v', e = .returned (.tuple #[v', .int .i64 0]) ∧ OB W.heap.size w' v' (frm k2 m) ∧ Below W.heap.size W w') := Lib.hid fun m W v h hm hr => make_any (fun _ => True) k2 v m W hnum.out.2.2.2.2.2.1 hr (HLW.out.ext h).tab (HLW.out.ext h).tg hm
    clear y0 y1 y2 y3 y4 y5 y6 e0 e1 e2 e3 e4 e5 e6 hbs
    go_region_held3 (fun W => Below wq.heap.size wq W ∧ W.cell? ⟨w.heap.size, 2, none⟩ = some (.int .i64 (k2 : Nat)) ∧ W.cell? ⟨w.heap.size, 6, none⟩ = some (.slice a2 d2.length c2))
      ((refine hcells.out _ ?_; first
        | (with_reducible exact Below.drew (Below.refl _ _))
        | (with_reducible exact hz9)
        | (with_reducible exact hz8)
        | (rename_i hh _ _; with_reducible exact hh.1)))
      (first
        | (go_at_call 34; refine (HBC.out _ (Below.drew (Below.refl _ _))).mono ?_; rintro e w8 ⟨v8, rfl, hv8, hb8⟩; obtain ⟨ba, bn, bc, rfl⟩ := hv8.shape3; have HV8 := Lib.hid (hv8.rb.weak (A' := fun _ => True) fun _ _ _ => trivial); have hz8 : Below wq.heap.size wq w8 := Below.trans (Below.drew (Below.refl wq.heap.size wq)) (Below.mono hb8 (Nat.le_refl _)))
        | (go_at_call 33; refine (HMC.out _ _ _ hz8 (by have := hnum.out.2.2.2.2.2.2; simp [be_length]; omega) HV8.out).mono ?_; rintro e w9 ⟨v9, rfl, hv9, hb9⟩; obtain ⟨ca, cn, cc, rfl⟩ := hv9.shape3; have HV9 := Lib.hid hv9; have hz9 : Below wq.heap.size wq w9 := Below.trans hz8 (Below.mono hb9 hz8.size)))
    go_wp2
    go_ret
    refine ⟨_, rfl, ?_, HB.out.trans (hz9.mono HB.out.size)⟩
    rw [HP2.out]
    have h := HV9.out.base_le (base' := w.heap.size) (Nat.le_trans HB.out.size hz8.size)
    simpa [bodyE, List.append_assoc] using h
set_option maxRecDepth 100000 in
set_option maxHeartbeats 16000000 in
theorem repack_any (A : Nat → Prop) (e : EnD) (a : Option Addr) (c : Nat) (w : World) (hv : RB A w (.slice a e.data.length c) e.data) (hdl : e.data.length ≤ 1000000) : Calls Tryd.prog 23 #[enV e (.slice a e.data.length c)] w (NewB w (pkE e)) := by
  have hck := fun W => rmayE_any e a c W
  have hcn := fun W (h : Below w.heap.size w W) => rclnE_any A e a c W (hv.ext h)
  have hme : mayE e = true → SmE (clE e) := clE_small
  have hpk : pkE e = if mayE e then frm e.kind.toNat (bodyE (clE e)) else [] := rfl
  have hkk : (clE e).kind = e.kind := rfl
  obtain ⟨s, o, k, f, n, p, d⟩ := e
  simp only [enV] at *
  have HCK := Lib.hid hck
  have HCN := Lib.hid hcn
  have HSM := Lib.hid hme
  have HPK := Lib.hid hpk
  clear hck hcn hme hpk hv hkk
  go_enter Tryd.func23, Tryd.ntmps23
  go_upto_region 1 with fail
  obtain ⟨w0, hw0⟩ : ∃ w0, w0 = w.alloc (.cells #[.int .i64 s, .int .i64 o, .int .i64 k, .int .i64 f, .int .i64 n, .int .i64 p, .slice a d.length c] 24) := ⟨_, rfl⟩
  rw [← hw0]
  have b0 : w0.heap[w.heap.size]? = some (.cells #[.int .i64 s, .int .i64 o, .int .i64 k, .int .i64 f, .int .i64 n, .int .i64 p, .slice a d.length c] 24 (0, 0)) := by rw [hw0]; exact heap_alloc_new _ _
  have hw : Below w.heap.size w w0 := by rw [hw0]; ((repeat' (first | exact Below.refl _ _ | refine below_drewN ?_ _ | refine Below.drew ?_ | refine Below.alloc ?_ ?_ _ | refine Below.trans ?_ (Below.mono (by assumption) ?_))); all_goals (first | exact Nat.le_refl _ | exact Below.size (by assumption) | omega | (simp; done) | (simp; omega)))
  clear hw0
  obtain ⟨y0, e0⟩ := blk_cell (i := 0) (b0)
  obtain ⟨y1, e1⟩ := blk_cell (i := 1) (b0)
  obtain ⟨y2, e2⟩ := blk_cell (i := 2) (b0)
  obtain ⟨y3, e3⟩ := blk_cell (i := 3) (b0)
  obtain ⟨y4, e4⟩ := blk_cell (i := 4) (b0)
  obtain ⟨y5, e5⟩ := blk_cell (i := 5) (b0)
  obtain ⟨y6, e6⟩ := blk_cell (i := 6) (b0)
  simp at y0 y1 y2 y3 y4 y5 y6
  have hbs := (Array.getElem?_eq_some_iff.1 b0).1
  have HB := Lib.hid hw
  have HB0 := Lib.hid b0
  clear hw b0
  go_wp2_with fail
  refine (HCK.out _).mono ?_
  rintro x w1 ⟨rfl, hb1⟩
  have HB1 := Lib.hid (dcall HB.out hb1)
  have BX := Lib.hid (dblk hb1 HB0.out)
  clear hb1 HB0 HB
  clear y0 y1 y2 y3 y4 y5 y6 e0 e1 e2 e3 e4 e5 e6 hbs
  cases hm : mayE ⟨s, o, k, f, n, p, d⟩ with
  | false =>
    have HM := Lib.hid hm
    clear hm
    go_wp2
    go_ret
    rw [HPK.out, HM.out]
    exact ⟨_, rfl, OB.nil _ _, HB1.out⟩
  | true =>
    have HM := Lib.hid hm
    clear hm
    obtain ⟨wq, hwq⟩ : ∃ wq, wq = w1 := ⟨_, rfl⟩
    subst hwq
    obtain ⟨y0, e0⟩ := blk_cell (i := 0) (BX.out)
    obtain ⟨y1, e1⟩ := blk_cell (i := 1) (BX.out)
    obtain ⟨y2, e2⟩ := blk_cell (i := 2) (BX.out)
    obtain ⟨y3, e3⟩ := blk_cell (i := 3) (BX.out)
    obtain ⟨y4, e4⟩ := blk_cell (i := 4) (BX.out)
    obtain ⟨y5, e5⟩ := blk_cell (i := 5) (BX.out)
    obtain ⟨y6, e6⟩ := blk_cell (i := 6) (BX.out)
    simp at y0 y1 y2 y3 y4 y5 y6
    have hbs := (Array.getElem?_eq_some_iff.1 (BX.out)).1
    go_wp2_with fail
    refine (HCN.out _ HB1.out).mono ?_
    rintro x w2 ⟨a2, c2, rfl, hr2, hb2⟩
    have hs := HSM.out HM.out
    have HP2 : Hid (pkE ⟨s, o, k, f, n, p, d⟩ = frm (clE ⟨s, o, k, f, n, p, d⟩).kind.toNat (bodyE (clE ⟨s, o, k, f, n, p, d⟩))) := Lib.hid (by rw [HPK.out, HM.out]; rfl)
    generalize clE ⟨s, o, k, f, n, p, d⟩ = E at *
    obtain ⟨s2, o2, k2, f2, n2, p2, d2⟩ := E
    obtain ⟨⟨i1, i2⟩, ⟨i3, i4⟩, ⟨i5, i6⟩, ⟨i7, i8⟩, ⟨i9, i10⟩, ⟨i11, i12⟩, hd2⟩ := hs
    simp only [enV] at i1 i2 i3 i4 i5 i6 i7 i8 i9 i10 i11 i12 hd2 hr2 HP2 ⊢
    obtain ⟨s2, rfl⟩ := Int.eq_ofNat_of_zero_le (show 0 ≤ s2 by omega)
    obtain ⟨o2, rfl⟩ := Int.eq_ofNat_of_zero_le i3
    obtain ⟨k2, rfl⟩ := Int.eq_ofNat_of_zero_le (show 0 ≤ k2 by omega)
    obtain ⟨f2, rfl⟩ := Int.eq_ofNat_of_zero_le i7
    obtain ⟨n2, rfl⟩ := Int.eq_ofNat_of_zero_le i9
    obtain ⟨p2, rfl⟩ := Int.eq_ofNat_of_zero_le i11
    have hnum : Hid (s2 < 256 ^ 6 ∧ o2 < 256 ^ 1 ∧ f2 < 256 ^ 2 ∧ n2 < 256 ^ 2 ∧ p2 < 256 ^ 1 ∧ k2 < 256 ∧ d2.length ≤ 128) := Lib.hid (by omega)
    have HR2 := Lib.hid hr2
    have HB2 := Lib.hid (dcall HB1.out hb2)
    have hz1 : w.heap.size < wq.heap.size := hbs
    have hz2 : wq.heap.size ≤ w2.heap.size := hb2.size
    clear hb2 hr2 i1 i2 i3 i4 i5 i6 i7 i8 i9 i10 i11 i12 hd2 BX HB1 HSM HCN HCK HPK HM
    clear y0 y1 y2 y3 y4 y5 y6 e0 e1 e2 e3 e4 e5 e6 hbs
    go_upto_region 5 with fail
    obtain ⟨pb, hpb⟩ : ∃ pb, pb = w2.heap.size := ⟨_, rfl⟩
    obtain ⟨w3, hw3⟩ : ∃ w3, w3 = w2.alloc (.cells #[.int .i64 (s2 : Nat), .int .i64 (o2 : Nat), .int .i64 (k2 : Nat), .int .i64 (f2 : Nat), .int .i64 (n2 : Nat), .int .i64 (p2 : Nat), .slice a2 d2.length c2] 24) := ⟨_, rfl⟩
    rw [← hw3, ← hpb]
    have hb3 : Below w2.heap.size w2 w3 := by rw [hw3]; exact (Below.refl _ w2).alloc (Nat.le_refl _) _
    have BX : Hid (w3.heap[pb]? = some (.cells #[.int .i64 (s2 : Nat), .int .i64 (o2 : Nat), .int .i64 (k2 : Nat), .int .i64 (f2 : Nat), .int .i64 (n2 : Nat), .int .i64 (p2 : Nat), .slice a2 d2.length c2] 24 (0, 0))) := Lib.hid (by rw [hw3, hpb]; exact heap_alloc_new _ _)
    have HD : Hid (RB (fun b => b < w3.heap.size) w3 (.slice a2 d2.length c2) d2) := Lib.hid ((HR2.out.ext hb3).weak fun b hb _ => hb)
    have HB : Hid (Below w.heap.size w w3) := Lib.hid (dcall HB2.out hb3)
    have hpw : w.heap.size ≤ pb := by omega
    obtain ⟨z, hz⟩ : ∃ z, z = w3.heap.size := ⟨_, rfl⟩
    have hpz : pb < z := by rw [hz, hw3, hpb]; simp
    rw [← hz] at HD
    clear hw3 hb3 HR2 HB2 hz1 hz2 hpb
    have hzb : z ≤ w3.heap.size := by omega
    have hwz : w.heap.size ≤ z := by omega
    obtain ⟨y0, e0⟩ := blk_cell (i := 0) (BX.out)
    obtain ⟨y1, e1⟩ := blk_cell (i := 1) (BX.out)
    obtain ⟨y2, e2⟩ := blk_cell (i := 2) (BX.out)
    obtain ⟨y3, e3⟩ := blk_cell (i := 3) (BX.out)
    obtain ⟨y4, e4⟩ := blk_cell (i := 4) (BX.out)
    obtain ⟨y5, e5⟩ := blk_cell (i := 5) (BX.out)
    obtain ⟨y6, e6⟩ := blk_cell (i := 6) (BX.out)
    simp at y0 y1 y2 y3 y4 y5 y6
    have hbs := (Array.getElem?_eq_some_iff.1 BX.out).1
    go_wp2_with fail
    refine (bnum_any 6 s2 (by omega) (by omega) hnum.out.1 _).mono ?_
    rintro e w4 ⟨v', rfl, hv', hb⟩
    obtain ⟨va, vn, vc, rfl⟩ := hv'.shape3
    have HO : Hid (OB z w4 (.slice va vn vc) (be 6 s2)) := Lib.hid (hv'.base_le hzb)
    replace BX := Lib.hid (dblk hb BX.out)
    replace HD := Lib.hid (HD.out.ext hb)
    replace HB := Lib.hid (dcall HB.out hb)
    have hzb : z ≤ w4.heap.size := Nat.le_trans hzb hb.size
    clear hb hv' hz
    clear y0 y1 y2 y3 y4 y5 y6 e0 e1 e2 e3 e4 e5 e6 hbs
    obtain ⟨wq, hwq⟩ : ∃ wq, wq = w4 := ⟨_, rfl⟩
    subst hwq
    obtain ⟨y0, e0⟩ := blk_cell (i := 0) (BX.out)
    obtain ⟨y1, e1⟩ := blk_cell (i := 1) (BX.out)
    obtain ⟨y2, e2⟩ := blk_cell (i := 2) (BX.out)
    obtain ⟨y3, e3⟩ := blk_cell (i := 3) (BX.out)
    obtain ⟨y4, e4⟩ := blk_cell (i := 4) (BX.out)
    obtain ⟨y5, e5⟩ := blk_cell (i := 5) (BX.out)
    obtain ⟨y6, e6⟩ := blk_cell (i := 6) (BX.out)
    simp at y0 y1 y2 y3 y4 y5 y6
    have hbs := (Array.getElem?_eq_some_iff.1 BX.out).1
    go_wp2_with fail
    refine (bnum_any 1 o2 (by omega) (by omega) hnum.out.2.1 _).mono ?_
    rintro e wz ⟨v', rfl, hv', hb⟩
    obtain ⟨xa, xn, xc, rfl⟩ := hv'.shape3
    have HOA := Lib.hid hv'.rb
    replace HO := Lib.hid (HO.out.ext hb)
    replace BX := Lib.hid (dblk hb BX.out)
    replace HD := Lib.hid (HD.out.ext hb)
    replace HB := Lib.hid (dcall HB.out hb)
    have hzz : z ≤ wz.heap.size := Nat.le_trans hzb hb.size
    clear hb hv' hzb
    clear y0 y1 y2 y3 y4 y5 y6 e0 e1 e2 e3 e4 e5 e6 hbs
    obtain ⟨wq, hwq⟩ : ∃ wq, wq = wz := ⟨_, rfl⟩
    subst hwq
    obtain ⟨y0, e0⟩ := blk_cell (i := 0) (BX.out)
    obtain ⟨y1, e1⟩ := blk_cell (i := 1) (BX.out)
    obtain ⟨y2, e2⟩ := blk_cell (i := 2) (BX.out)
    obtain ⟨y3, e3⟩ := blk_cell (i := 3) (BX.out)
    obtain ⟨y4, e4⟩ := blk_cell (i := 4) (BX.out)
    obtain ⟨y5, e5⟩ := blk_cell (i := 5) (BX.out)
    obtain ⟨y6, e6⟩ := blk_cell (i := 6) (BX.out)
    simp at y0 y1 y2 y3 y4 y5 y6
    have hbs := (Array.getElem?_eq_some_iff.1 (BX.out)).1
    go_wp2_with (first | (at_builtin; refine stop_in ?_) | go_in)
    unfold Stop
    refine wpList_appB _ (by rfl) _ _ (by rfl) z _ _ (by rfl) HO.out _ _ _ (by rfl) HOA.out (by simp [be_length]; try omega) hzz ?_
    intro vb wb hob hbb
    obtain ⟨ya, yn, yc, rfl⟩ := hob.shape3
    have HO2 : Hid (OB z wb (.slice ya yn yc) (be 6 s2 ++ be 1 o2)) := Lib.hid hob
    have HO := HO2
    replace BX := Lib.hid ((hbb.block _ (by omega)).trans BX.out)
    replace HD := Lib.hid (HD.out.mono (Same.of_below hbb (fun _ h => h)))
    replace HB := Lib.hid (HB.out.trans (hbb.mono (by omega)))
    have hzb : z ≤ wb.heap.size := Nat.le_trans hzz hbb.size
    clear hob hbb hzz HOA HO2
    clear y0 y1 y2 y3 y4 y5 y6 e0 e1 e2 e3 e4 e5 e6 hbs
    obtain ⟨wq, hwq⟩ : ∃ wq, wq = wb := ⟨_, rfl⟩
    subst hwq
    obtain ⟨y0, e0⟩ := blk_cell (i := 0) (BX.out)
    obtain ⟨y1, e1⟩ := blk_cell (i := 1) (BX.out)
    obtain ⟨y2, e2⟩ := blk_cell (i := 2) (BX.out)
    obtain ⟨y3, e3⟩ := blk_cell (i := 3) (BX.out)
    obtain ⟨y4, e4⟩ := blk_cell (i := 4) (BX.out)
    obtain ⟨y5, e5⟩ := blk_cell (i := 5) (BX.out)
    obtain ⟨y6, e6⟩ := blk_cell (i := 6) (BX.out)
    simp at y0 y1 y2 y3 y4 y5 y6
    have hbs := (Array.getElem?_eq_some_iff.1 (BX.out)).1
    go_wp2_with fail
    refine (bnum_any 2 f2 (by omega) (by omega) hnum.out.2.2.1 _).mono ?_
    rintro e wz ⟨v', rfl, hv', hb⟩
    obtain ⟨xa, xn, xc, rfl⟩ := hv'.shape3
    have HOA := Lib.hid hv'.rb
    replace HO := Lib.hid (HO.out.ext hb)
    replace BX := Lib.hid (dblk hb BX.out)
    replace HD := Lib.hid (HD.out.ext hb)
    replace HB := Lib.hid (dcall HB.out hb)
    have hzz : z ≤ wz.heap.size := Nat.le_trans hzb hb.size
    clear hb hv' hzb
    clear y0 y1 y2 y3 y4 y5 y6 e0 e1 e2 e3 e4 e5 e6 hbs
    obtain ⟨wq, hwq⟩ : ∃ wq, wq = wz := ⟨_, rfl⟩
    subst hwq
    obtain ⟨y0, e0⟩ := blk_cell (i := 0) (BX.out)
    obtain ⟨y1, e1⟩ := blk_cell (i := 1) (BX.out)
    obtain ⟨y2, e2⟩ := blk_cell (i := 2) (BX.out)
    obtain ⟨y3, e3⟩ := blk_cell (i := 3) (BX.out)
    obtain ⟨y4, e4⟩ := blk_cell (i := 4) (BX.out)
    obtain ⟨y5, e5⟩ := blk_cell (i := 5) (BX.out)
    obtain ⟨y6, e6⟩ := blk_cell (i := 6) (BX.out)
    simp at y0 y1 y2 y3 y4 y5 y6
    have hbs := (Array.getElem?_eq_some_iff.1 (BX.out)).1
    go_wp2_with (first | (at_builtin; refine stop_in ?_) | go_in)
    unfold Stop
    refine wpList_appB _ (by rfl) _ _ (by rfl) z _ _ (by rfl) HO.out _ _ _ (by rfl) HOA.out (by simp [be_length]; try omega) hzz ?_
    intro vb wb hob hbb
    obtain ⟨ya, yn, yc, rfl⟩ := hob.shape3
    have HO2 : Hid (OB z wb (.slice ya yn yc) (be 6 s2 ++ be 1 o2 ++ be 2 f2)) := Lib.hid hob
    have HO := HO2
    replace BX := Lib.hid ((hbb.block _ (by omega)).trans BX.out)
    replace HD := Lib.hid (HD.out.mono (Same.of_below hbb (fun _ h => h)))
    replace HB := Lib.hid (HB.out.trans (hbb.mono (by omega)))
    have hzb : z ≤ wb.heap.size := Nat.le_trans hzz hbb.size
    clear hob hbb hzz HOA HO2
    clear y0 y1 y2 y3 y4 y5 y6 e0 e1 e2 e3 e4 e5 e6 hbs
    obtain ⟨wq, hwq⟩ : ∃ wq, wq = wb := ⟨_, rfl⟩
    subst hwq
    obtain ⟨y0, e0⟩ := blk_cell (i := 0) (BX.out)
    obtain ⟨y1, e1⟩ := blk_cell (i := 1) (BX.out)
    obtain ⟨y2, e2⟩ := blk_cell (i := 2) (BX.out)
    obtain ⟨y3, e3⟩ := blk_cell (i := 3) (BX.out)
    obtain ⟨y4, e4⟩ := blk_cell (i := 4) (BX.out)
    obtain ⟨y5, e5⟩ := blk_cell (i := 5) (BX.out)
    obtain ⟨y6, e6⟩ := blk_cell (i := 6) (BX.out)
    simp at y0 y1 y2 y3 y4 y5 y6
    have hbs := (Array.getElem?_eq_some_iff.1 (BX.out)).1
    go_wp2_with fail
    refine (bnum_any 2 n2 (by omega) (by omega) hnum.out.2.2.2.1 _).mono ?_
    rintro e wz ⟨v', rfl, hv', hb⟩
    obtain ⟨xa, xn, xc, rfl⟩ := hv'.shape3
    have HOA := Lib.hid hv'.rb
    replace HO := Lib.hid (HO.out.ext hb)
    replace BX := Lib.hid (dblk hb BX.out)
    replace HD := Lib.hid (HD.out.ext hb)
    replace HB := Lib.hid (dcall HB.out hb)
    have hzz : z ≤ wz.heap.size := Nat.le_trans hzb hb.size
    clear hb hv' hzb
    clear y0 y1 y2 y3 y4 y5 y6 e0 e1 e2 e3 e4 e5 e6 hbs
    obtain ⟨wq, hwq⟩ : ∃ wq, wq = wz := ⟨_, rfl⟩
    subst hwq
    obtain ⟨y0, e0⟩ := blk_cell (i := 0) (BX.out)
    obtain ⟨y1, e1⟩ := blk_cell (i := 1) (BX.out)
    obtain ⟨y2, e2⟩ := blk_cell (i := 2) (BX.out)
    obtain ⟨y3, e3⟩ := blk_cell (i := 3) (BX.out)
    obtain ⟨y4, e4⟩ := blk_cell (i := 4) (BX.out)
    obtain ⟨y5, e5⟩ := blk_cell (i := 5) (BX.out)
    obtain ⟨y6, e6⟩ := blk_cell (i := 6) (BX.out)
    simp at y0 y1 y2 y3 y4 y5 y6
    have hbs := (Array.getElem?_eq_some_iff.1 (BX.out)).1
    go_wp2_with (first | (at_builtin; refine stop_in ?_) | go_in)
    unfold Stop
    refine wpList_appB _ (by rfl) _ _ (by rfl) z _ _ (by rfl) HO.out _ _ _ (by rfl) HOA.out (by simp [be_length]; try omega) hzz ?_
    intro vb wb hob hbb
    obtain ⟨ya, yn, yc, rfl⟩ := hob.shape3
    have HO2 : Hid (OB z wb (.slice ya yn yc) (be 6 s2 ++ be 1 o2 ++ be 2 f2 ++ be 2 n2)) := Lib.hid hob
    have HO := HO2
    replace BX := Lib.hid ((hbb.block _ (by omega)).trans BX.out)
    replace HD := Lib.hid (HD.out.mono (Same.of_below hbb (fun _ h => h)))
    replace HB := Lib.hid (HB.out.trans (hbb.mono (by omega)))
    have hzb : z ≤ wb.heap.size := Nat.le_trans hzz hbb.size
    clear hob hbb hzz HOA HO2
    clear y0 y1 y2 y3 y4 y5 y6 e0 e1 e2 e3 e4 e5 e6 hbs
    obtain ⟨wq, hwq⟩ : ∃ wq, wq = wb := ⟨_, rfl⟩
    subst hwq
    obtain ⟨y0, e0⟩ := blk_cell (i := 0) (BX.out)
    obtain ⟨y1, e1⟩ := blk_cell (i := 1) (BX.out)
    obtain ⟨y2, e2⟩ := blk_cell (i := 2) (BX.out)
    obtain ⟨y3, e3⟩ := blk_cell (i := 3) (BX.out)
    obtain ⟨y4, e4⟩ := blk_cell (i := 4) (BX.out)
    obtain ⟨y5, e5⟩ := blk_cell (i := 5) (BX.out)
    obtain ⟨y6, e6⟩ := blk_cell (i := 6) (BX.out)
    simp at y0 y1 y2 y3 y4 y5 y6
    have hbs := (Array.getElem?_eq_some_iff.1 (BX.out)).1
    go_wp2_with fail
    refine (bnum_any 1 p2 (by omega) (by omega) hnum.out.2.2.2.2.1 _).mono ?_
    rintro e wz ⟨v', rfl, hv', hb⟩
    obtain ⟨xa, xn, xc, rfl⟩ := hv'.shape3
    have HOA := Lib.hid hv'.rb
    replace HO := Lib.hid (HO.out.ext hb)
    replace BX := Lib.hid (dblk hb BX.out)
    replace HD := Lib.hid (HD.out.ext hb)
    replace HB := Lib.hid (dcall HB.out hb)
    have hzz : z ≤ wz.heap.size := Nat.le_trans hzb hb.size
    clear hb hv' hzb
    clear y0 y1 y2 y3 y4 y5 y6 e0 e1 e2 e3 e4 e5 e6 hbs
    obtain ⟨wq, hwq⟩ : ∃ wq, wq = wz := ⟨_, rfl⟩
    subst hwq
    obtain ⟨y0, e0⟩ := blk_cell (i := 0) (BX.out)
    obtain ⟨y1, e1⟩ := blk_cell (i := 1) (BX.out)
    obtain ⟨y2, e2⟩ := blk_cell (i := 2) (BX.out)
    obtain ⟨y3, e3⟩ := blk_cell (i := 3) (BX.out)
    obtain ⟨y4, e4⟩ := blk_cell (i := 4) (BX.out)
    obtain ⟨y5, e5⟩ := blk_cell (i := 5) (BX.out)
    obtain ⟨y6, e6⟩ := blk_cell (i := 6) (BX.out)
    simp at y0 y1 y2 y3 y4 y5 y6
    have hbs := (Array.getElem?_eq_some_iff.1 (BX.out)).1
    go_wp2_with (first | (at_builtin; refine stop_in ?_) | go_in)
    unfold Stop
    refine wpList_appB _ (by rfl) _ _ (by rfl) z _ _ (by rfl) HO.out _ _ _ (by rfl) HOA.out (by simp [be_length]; try omega) hzz ?_
    intro vb wb hob hbb
    obtain ⟨ya, yn, yc, rfl⟩ := hob.shape3
    have HO2 : Hid (OB z wb (.slice ya yn yc) (be 6 s2 ++ be 1 o2 ++ be 2 f2 ++ be 2 n2 ++ be 1 p2)) := Lib.hid hob
    have HO := HO2
    replace BX := Lib.hid ((hbb.block _ (by omega)).trans BX.out)
    replace HD := Lib.hid (HD.out.mono (Same.of_below hbb (fun _ h => h)))
    replace HB := Lib.hid (HB.out.trans (hbb.mono (by omega)))
    have hzb : z ≤ wb.heap.size := Nat.le_trans hzz hbb.size
    clear hob hbb hzz HOA HO2
    clear y0 y1 y2 y3 y4 y5 y6 e0 e1 e2 e3 e4 e5 e6 hbs
    obtain ⟨wq, hwq⟩ : ∃ wq, wq = wb := ⟨_, rfl⟩
    subst hwq
    obtain ⟨y0, e0⟩ := blk_cell (i := 0) (BX.out)
    obtain ⟨y1, e1⟩ := blk_cell (i := 1) (BX.out)
    obtain ⟨y2, e2⟩ := blk_cell (i := 2) (BX.out)
    obtain ⟨y3, e3⟩ := blk_cell (i := 3) (BX.out)
    obtain ⟨y4, e4⟩ := blk_cell (i := 4) (BX.out)
    obtain ⟨y5, e5⟩ := blk_cell (i := 5) (BX.out)
    obtain ⟨y6, e6⟩ := blk_cell (i := 6) (BX.out)
    simp at y0 y1 y2 y3 y4 y5 y6
    have hbs := (Array.getElem?_eq_some_iff.1 (BX.out)).1
    go_wp2_with fail
    refine (bblob_any _ _ d2 _ HD.out (by have := hnum.out.2.2.2.2.2.2; omega)).mono ?_
    rintro e wz ⟨v', rfl, hv', hb⟩
    obtain ⟨xa, xn, xc, rfl⟩ := hv'.shape3
    have HOA := Lib.hid hv'.rb
    replace HO := Lib.hid (HO.out.ext hb)
    replace BX := Lib.hid (dblk hb BX.out)
    replace HD := Lib.hid (HD.out.ext hb)
    replace HB := Lib.hid (dcall HB.out hb)
    have hzz : z ≤ wz.heap.size := Nat.le_trans hzb hb.size
    have hd3 : d2.length ≤ 128 := hnum.out.2.2.2.2.2.2
    clear hb hv' hzb
    clear y0 y1 y2 y3 y4 y5 y6 e0 e1 e2 e3 e4 e5 e6 hbs
    obtain ⟨wq, hwq⟩ : ∃ wq, wq = wz := ⟨_, rfl⟩
    subst hwq
    obtain ⟨y0, e0⟩ := blk_cell (i := 0) (BX.out)
    obtain ⟨y1, e1⟩ := blk_cell (i := 1) (BX.out)
    obtain ⟨y2, e2⟩ := blk_cell (i := 2) (BX.out)
    obtain ⟨y3, e3⟩ := blk_cell (i := 3) (BX.out)
    obtain ⟨y4, e4⟩ := blk_cell (i := 4) (BX.out)
    obtain ⟨y5, e5⟩ := blk_cell (i := 5) (BX.out)
    obtain ⟨y6, e6⟩ := blk_cell (i := 6) (BX.out)
    simp at y0 y1 y2 y3 y4 y5 y6
    have hbs := (Array.getElem?_eq_some_iff.1 BX.out).1
    go_wp2_with (first | (at_builtin; refine stop_in ?_) | go_in)
    unfold Stop
    refine wpList_appB _ (by rfl) _ _ (by rfl) z _ _ (by rfl) HO.out _ _ _ (by rfl) HOA.out (by simp [be_length]; try omega) hzz ?_
    intro vb wb hob hbb
    obtain ⟨ya, yn, yc, rfl⟩ := hob.shape3
    have HO2 : Hid (OB z wb (.slice ya yn yc) (be 6 s2 ++ be 1 o2 ++ be 2 f2 ++ be 2 n2 ++ be 1 p2 ++ (be 2 d2.length ++ d2))) := Lib.hid hob
    have HO := HO2
    replace BX := Lib.hid ((hbb.block _ (by omega)).trans BX.out)
    replace HD := Lib.hid (HD.out.mono (Same.of_below hbb (fun _ h => h)))
    replace HB := Lib.hid (HB.out.trans (hbb.mono (by omega)))
    have hzb : z ≤ wb.heap.size := Nat.le_trans hzz hbb.size
    clear hob hbb hzz HOA HO2
    clear y0 y1 y2 y3 y4 y5 y6 e0 e1 e2 e3 e4 e5 e6 hbs
    obtain ⟨wq, hwq⟩ : ∃ wq, wq = wb := ⟨_, rfl⟩
    subst hwq
    obtain ⟨y0, e0⟩ := blk_cell (i := 0) (BX.out)
    obtain ⟨y1, e1⟩ := blk_cell (i := 1) (BX.out)
    obtain ⟨y2, e2⟩ := blk_cell (i := 2) (BX.out)
    obtain ⟨y3, e3⟩ := blk_cell (i := 3) (BX.out)
    obtain ⟨y4, e4⟩ := blk_cell (i := 4) (BX.out)
    obtain ⟨y5, e5⟩ := blk_cell (i := 5) (BX.out)
    obtain ⟨y6, e6⟩ := blk_cell (i := 6) (BX.out)
    simp at y0 y1 y2 y3 y4 y5 y6
    have hbs := (Array.getElem?_eq_some_iff.1 (BX.out)).1
    have hlen : (be 6 s2 ++ be 1 o2 ++ be 2 f2 ++ be 2 n2 ++ be 1 p2 ++ (be 2 d2.length ++ d2)).length ≤ 8192 := by simp [be_length]; omega
    have HLE := Lib.hid hlen
    go_wp2_with fail
    refine (rmk_any _ k2 _ _ _ hnum.out.2.2.2.2.2.1 HO.out.rb (by omega)).mono ?_
    rintro e w9 ⟨v9, rfl, hv9, hb9⟩
    rw [if_pos HLE.out] at hv9
    rw [if_pos HLE.out]
    obtain ⟨ca, cn, cc, rfl⟩ := hv9.shape3
    have HV9 := Lib.hid hv9
    have HB9 := Lib.hid (dcall HB.out hb9)
    clear hv9 hb9 hlen
    clear y0 y1 y2 y3 y4 y5 y6 e0 e1 e2 e3 e4 e5 e6 hbs
    go_wp2
    go_ret
    refine ⟨_, rfl, ?_, HB9.out⟩
    rw [HP2.out]
    have h := HV9.out.base_le (base' := w.heap.size) HB.out.size
    simpa [bodyE, List.append_assoc] using h
end Go.Proofs.YtfeonfihlleoeaaDoor
