/- The walk of terrazzolaw08.ObjectDoes. -/
import Derived.Test.YtfefnfgppgohgaaDoorAwk8
import Derived.Test.YtfefnfgppgohgaaDoorRefR8
namespace Go.Proofs.YtfefnfgppgohgaaDoor
open Go.RowKit Go.WideShapes

theorem DoRR.ways {x : DoR} {w w' : World} {e : Ending} (h : DoRR x w e w') : ∃ a c u q, e = .returned (.tuple #[.agg #[.slice a x.o.data.length c, .slice u x.o.keys.length q, .int .i64 x.o.seq], .bool x.there, .bool x.on, .int .i64 x.e]) ∧
    ObV (fun _ => True) w' (.agg #[.slice a x.o.data.length c, .slice u x.o.keys.length q, .int .i64 x.o.seq]) x.o ∧ Below w.heap.size w w' := by
  obtain ⟨dv, kv, rfl, hv, hb⟩ := h
  obtain ⟨d, k, e, hd, hk⟩ := id hv
  simp at e
  obtain ⟨rfl, rfl⟩ := e
  obtain ⟨a, c, rfl⟩ := hd.shape
  obtain ⟨u, q, rfl⟩ := hk.shape
  exact ⟨_, _, _, _, rfl, hv, hb⟩
theorem keyOp_keys {o o2 : ObD} {nm : ByteArray} {v : List UInt8} (ho : o.keys.length ≤ 200) (h : keyOp o nm v = some o2) : o2.keys.length ≤ 100000 := by
  unfold keyOp at h
  split at h
  · cases h
    have h1 := (List.takeWhile_sublist (fun k => ltS k.name nm) (l := o.keys)).length_le
    have h2 := List.length_filter_le (fun k => !decide (k.name = nm)) (o.keys.dropWhile fun k => ltS k.name nm)
    have h3 := (List.dropWhile_sublist (fun k => ltS k.name nm) (l := o.keys)).length_le
    simp only [putK, List.length_append, List.length_cons]
    omega
  · cases h
theorem changeB_keys {o o2 : ObD} {op : OpD} (ho : o.keys.length ≤ 200) (hc : changeB o op = some o2) : o2.keys.length ≤ 100000 := by
  have hd : (dropK o.keys op.name).length ≤ 200 := Nat.le_trans (List.length_filter_le _ _) ho
  unfold changeB at hc
  repeat' split at hc
  all_goals first
    | exact keyOp_keys ho hc
    | (cases hc; done)
    | (obtain rfl := Option.some.inj hc; show _ ≤ _; first | (simp only; omega) | omega)
theorem doG_keys {o : ObD} {th : Bool} {op : OpD} (ho : o.keys.length ≤ 200) : (doG o th op).o.keys.length ≤ 100000 := by
  unfold doG
  split
  · cases hc : changeB o op with
    | none => simp [DoR.no, ObD.none]
    | some o2 =>
      show (if thereB th op.kind = true then o2 else ObD.none).keys.length ≤ _
      cases thereB th op.kind with
      | true => exact changeB_keys ho hc
      | false => simp [ObD.none]
  · simp [DoR.no, ObD.none]
theorem doB_keys {o : ObD} (ho : o.keys.length ≤ 200) (th : Bool) (op : OpD) : (doB o th op).o.keys.length ≤ 100000 := by
  by_cases h : mayB o = true ∧ 1 ≤ op.kind ∧ op.kind ≤ 14
  · rw [doB_good h.1 h.2.1 h.2.2]
    refine doG_keys ?_
    cases th
    · simp [ObD.none]
    · exact ho
  · rw [doB_bad (by
      by_cases h1 : mayB o = true
      · by_cases h2 : 1 ≤ op.kind
        · exact .inr (.inr fun h3 => h ⟨h1, h2, h3⟩)
        · exact .inr (.inl h2)
      · exact .inl (by simpa using h1))]
    simp [DoR.no, ObD.none]
set_option maxRecDepth 100000 in
set_option maxHeartbeats 8000000 in
theorem does_law (A B : Nat → Prop) (v : Value) (o : ObD) (th : Bool) (k off n : Int) (nm : ByteArray) (oa : Option Addr) (oc : Nat) (d : List UInt8) (w : World) (hE : ErrT w) (hv : ObV A w v o) (hd : RB B w (.slice oa d.length oc) d) :
    Calls Tryd.prog 3 #[v, .bool th, .agg #[.int .i64 k, .int .i64 off, .int .i64 n, .string nm, .slice oa d.length oc]] w (Says true w) := by
  obtain ⟨dva, kva, rfl, hda, hka⟩ := hv
  obtain ⟨da, dc, rfl⟩ := hda.shape
  obtain ⟨ka, kc, rfl⟩ := hka.shape
  have HA : Hid (ObV A w _ o) := Lib.hid ⟨_, _, rfl, hda, hka⟩
  have HD := Lib.hid hd
  have HE := Lib.hid hE
  clear hda hka hd hE
  go_enter Tryd.func3, Tryd.ntmps3
  go_wp2_with fail
  obtain ⟨w0, hw0⟩ : ∃ w0, w0 = (w.alloc (.cells #[.slice da o.data.length dc, .slice ka o.keys.length kc, .int .i64 o.seq] 25)).alloc (.cells #[.int .i64 k, .int .i64 off, .int .i64 n, .string nm, .slice oa d.length oc] 27) := ⟨_, rfl⟩
  rw [← hw0]
  have b0 : w0.heap[w.heap.size]? = some (.cells #[.slice da o.data.length dc, .slice ka o.keys.length kc, .int .i64 o.seq] 25 (0, 0)) := by rw [hw0]; exact dnew (heap_alloc_new _ _) _
  have b1 : w0.heap[w.heap.size + 1]? = some (.cells #[.int .i64 k, .int .i64 off, .int .i64 n, .string nm, .slice oa d.length oc] 27 (0, 0)) := by rw [hw0]; exact heap_alloc2_new _ _ _
  have hw : Below w.heap.size w w0 := by rw [hw0]; ((repeat' (first | exact Below.refl _ _ | refine below_drewN ?_ _ | refine Below.drew ?_ | refine Below.alloc ?_ ?_ _ | refine Below.trans ?_ (Below.mono (by assumption) ?_))); all_goals (first | exact Nat.le_refl _ | exact Below.size (by assumption) | omega | (simp; done) | (simp; omega)))
  clear hw0
  refine (awake_any _ (HE.out.ext hw)).mono ?_
  rintro e w1 ⟨rfl, hb1⟩
  have HW1 := Lib.hid (dcall hw hb1)
  have P1 := Lib.hid (dblk hb1 b0)
  have R1 := Lib.hid (dblk hb1 b1)
  clear hb1 b0 b1 hw
  obtain ⟨y0, e0⟩ := blk_cell (i := 0) (P1.out)
  obtain ⟨y1, e1⟩ := blk_cell (i := 1) (P1.out)
  obtain ⟨y2, e2⟩ := blk_cell (i := 2) (P1.out)
  simp at y0 y1 y2
  go_wp2_with fail
  refine (few8_any A _ o _ (HA.out.ext HW1.out)).mono ?_
  rintro e w2 ⟨p1, rfl, hf1, hb2⟩
  have HF1 := Lib.hid hf1
  have HW2 := Lib.hid (dcall HW1.out hb2)
  have P2 := Lib.hid (dblk hb2 P1.out)
  have R2 := Lib.hid (dblk hb2 R1.out)
  clear hb2 P1 R1 HW1 hf1 y0 y1 y2 e0 e1 e2
  obtain ⟨z0, z1, z2, z3, z4⟩ := five_cells R2.out
  obtain ⟨y0, e0⟩ := blk_cell (i := 0) (P2.out)
  obtain ⟨y1, e1⟩ := blk_cell (i := 1) (P2.out)
  obtain ⟨y2, e2⟩ := blk_cell (i := 2) (P2.out)
  simp at y0 y1 y2
  rcases p1 with _ | _
  · go_wp2
    go_ret
    exact ⟨rfl, HW2.out⟩
  have HFP := Lib.hid (HF1.out rfl)
  by_cases hl1 : (3000 : Int) < d.length
  · go_wp2
    go_ret
    exact ⟨rfl, HW2.out⟩
  by_cases hl2 : (100 : Int) < nm.size
  · go_wp2
    go_ret
    exact ⟨rfl, HW2.out⟩
  have hdo := fun A B v W h1 h2 h3 => do_any A B v o th k off n nm oa oc d W h1 (few8_okl HFP.out) h2 (by omega) h3
  have hrdo := fun A B v W h1 h2 => rdo_any A B v o th k off n nm oa oc d W h1 (few8_okl HFP.out) h2 (by omega)
  have hkl := doB_keys HFP.out.2.1 th ⟨k, off, n, nm, d⟩
  unfold opV at hdo hrdo
  generalize doB o th ⟨k, off, n, nm, d⟩ = X at *
  obtain ⟨xo, xt, xn, xe⟩ := X
  have HDO := Lib.hid hdo
  have HRDO := Lib.hid hrdo
  have HKL := Lib.hid hkl
  clear hdo hrdo hkl
  go_wp2_with fail
  refine (HDO.out A B _ _ (HA.out.ext HW2.out) (RB.ext HD.out HW2.out) (HE.out.ext HW2.out)).mono ?_
  intro e w3 h3
  obtain ⟨a3, c3, u3, q3, rfl, hv3, hb3⟩ := h3.ways
  have HW3 := Lib.hid (dcall HW2.out hb3)
  have P3 := Lib.hid (dblk hb3 P2.out)
  have R3 := Lib.hid (dblk hb3 R2.out)
  have HV3 : Hid (ObV _ w3 (.agg #[.slice a3 xo.data.length c3, .slice u3 xo.keys.length q3, .int .i64 xo.seq]) xo) := Lib.hid hv3
  clear h3 hv3 hb3 P2 R2 y0 y1 y2 e0 e1 e2 z0 z1 z2 z3 z4
  obtain ⟨y0, e0⟩ := blk_cell (i := 0) (P3.out)
  obtain ⟨y1, e1⟩ := blk_cell (i := 1) (P3.out)
  obtain ⟨y2, e2⟩ := blk_cell (i := 2) (P3.out)
  simp at y0 y1 y2
  obtain ⟨z0, z1, z2, z3, z4⟩ := five_cells R3.out
  have hlt3 : w.heap.size + 1 < w3.heap.size := (Array.getElem?_eq_some_iff.1 R3.out).1
  have hlt4 : w.heap.size < w3.heap.size := by omega
  go_wp2_with fail
  obtain ⟨w4, hw4⟩ : ∃ w4, w4 = w3.alloc (.cells #[.slice a3 xo.data.length c3, .slice u3 xo.keys.length q3, .int .i64 xo.seq] 25) := ⟨_, rfl⟩
  rw [← hw4]
  have hb4 : Below w3.heap.size w3 w4 := by rw [hw4]; ((repeat' (first | exact Below.refl _ _ | refine below_drewN ?_ _ | refine Below.drew ?_ | refine Below.alloc ?_ ?_ _ | refine Below.trans ?_ (Below.mono (by assumption) ?_))); all_goals (first | exact Nat.le_refl _ | exact Below.size (by assumption) | omega | (simp; done) | (simp; omega)))
  have HW4 := Lib.hid (dcall HW3.out hb4)
  have Q4 := Lib.hid (show w4.heap[w3.heap.size]? = some (.cells #[.slice a3 xo.data.length c3, .slice u3 xo.keys.length q3, .int .i64 xo.seq] 25 (0, 0)) from by rw [hw4]; exact heap_alloc_new _ _)
  have HV4 := Lib.hid (HV3.out.ext hb4)
  clear hw4 hb4 y0 y1 y2 e0 e1 e2 z0 z1 z2 z3 z4 P3 R3 HV3
  refine (HRDO.out A B _ _ (HA.out.ext HW4.out) (RB.ext HD.out HW4.out)).mono ?_
  intro e w5 h5
  obtain ⟨a5, c5, u5, q5, rfl, hv5, hb5⟩ := h5.ways
  have HW5 := Lib.hid (dcall HW4.out hb5)
  have Q5 := Lib.hid (dblk hb5 Q4.out)
  have HV5 : Hid (ObV (fun _ => True) w5 (.agg #[.slice a5 xo.data.length c5, .slice u5 xo.keys.length q5, .int .i64 xo.seq]) xo) := Lib.hid hv5
  have HX5 := Lib.hid (HV4.out.ext hb5)
  clear h5 hv5 hb5 Q4 HV4
  obtain ⟨y0, e0⟩ := blk_cell (i := 0) (Q5.out)
  obtain ⟨y1, e1⟩ := blk_cell (i := 1) (Q5.out)
  obtain ⟨y2, e2⟩ := blk_cell (i := 2) (Q5.out)
  simp at y0 y1 y2
  have hlt5 : w3.heap.size < w5.heap.size := (Array.getElem?_eq_some_iff.1 Q5.out).1
  go_wp2_with fail
  refine (rsame_any _ _ xo xo _ _ _ (HX5.out.ext ((Below.refl _ _).alloc (Nat.le_refl _) _)) (HV5.out.ext ((Below.refl _ _).alloc (Nat.le_refl _) _)) HKL.out HKL.out).mono ?_
  rw [sameB_self]
  rintro e w6 ⟨rfl, hb6⟩
  have HW6 := Lib.hid (dcall (dcall HW5.out ((Below.refl _ _).alloc (Nat.le_refl _) _)) hb6)
  clear hb6
  go_wp2
  go_ret
  exact ⟨rfl, HW6.out⟩
end Go.Proofs.YtfefnfgppgohgaaDoor
