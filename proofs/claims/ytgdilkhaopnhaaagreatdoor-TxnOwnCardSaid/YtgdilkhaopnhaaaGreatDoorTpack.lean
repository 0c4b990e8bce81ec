/- The walk of txn.Pack. -/
import Derived.Test.YtgdilkhaopnhaaaGreatDoorTchk
import Derived.Test.YtgdilkhaopnhaaaGreatDoorMC
import Derived.Laws.IdiomStrings
namespace Go.Proofs.YtgdilkhaopnhaaaGreatDoor
open Go.RowKit Go.WideShapes

def opBytes (o : OpD) : List UInt8 := be 1 o.kind.toNat ++ be 6 o.off.toNat ++ be 6 o.n.toNat ++ be 2 o.name.data.toList.length ++ o.name.data.toList ++ be 2 o.data.length ++ o.data
def txL (t : TxD) (k : Nat) : List UInt8 := [] ++ be 2 t.obj.data.toList.length ++ t.obj.data.toList ++ be 1 t.ops.length ++ (t.ops.take k).flatMap opBytes
theorem txL_succ (t : TxD) (k : Nat) (hk : k < t.ops.length) : txL t (k + 1) = txL t k ++ be 1 t.ops[k].kind.toNat ++ be 6 t.ops[k].off.toNat ++ be 6 t.ops[k].n.toNat ++ be 2 t.ops[k].name.data.toList.length ++ t.ops[k].name.data.toList ++ be 2 t.ops[k].data.length ++ t.ops[k].data := by
  unfold txL
  rw [List.take_succ_eq_append_getElem hk, List.flatMap_append]
  simp [opBytes, List.append_assoc]
theorem str_row (w : World) (s : ByteArray) : RB (fun b => w.heap.size ≤ b) (w.alloc (.cells (bytesRow s (grownCap w s.size 0 5)) 5 ((bytesRow s (grownCap w s.size 0 5)).size, (bytesRow s (grownCap w s.size 0 5)).size + 1))).drew (.slice (some ⟨w.heap.size, 0, none⟩) s.size (grownCap w s.size 0 5)) s.data.toList := by
  have hg := grownCap_ge w s.size 0 5
  have hl : s.data.toList.length = s.size := by simp
  generalize grownCap w s.size 0 5 = G at *
  refine ⟨by simp, .inr ⟨w.heap.size, 0, G, by rw [hl], by simp, Nat.le_refl _, by rw [hl]; exact hg, fun j hj => ?_⟩⟩
  rw [hl, Nat.mul_one] at hj
  have hjs : j < s.data.size := hj
  have hb : (w.alloc (.cells (bytesRow s G) 5 ((bytesRow s G).size, (bytesRow s G).size + 1))).drew.heap[w.heap.size]? = some (.cells (bytesRow s G) 5 ((bytesRow s G).size, (bytesRow s G).size + 1)) := by
    show (w.heap.push _)[w.heap.size]? = _
    simp
  have e : (w.alloc (.cells (bytesRow s G) 5 ((bytesRow s G).size, (bytesRow s G).size + 1))).drew.cell? ⟨w.heap.size, 0 + j, none⟩ = (bytesRow s G)[j]? := by
    simp only [World.cell?, hb, Nat.zero_add]
    exact if_neg (by simp)
  rw [e]
  unfold bytesRow
  rw [Array.getElem?_append_left (by simpa using hjs)]
  simp
  rfl
theorem str_below (w : World) (s : ByteArray) : Below w.heap.size w (w.alloc (.cells (bytesRow s (grownCap w s.size 0 5)) 5 ((bytesRow s (grownCap w s.size 0 5)).size, (bytesRow s (grownCap w s.size 0 5)).size + 1))).drew := ((Below.refl _ w).alloc (Nat.le_refl _) _).drew
theorem txE_ok {t : TxD} (h : txE t = 0) : t.ops.length ≤ 12 ∧ nameB t.obj = true ∧ t.ops.all opB = true := by
  unfold txE at h
  split at h
  · cases h
  · split at h
    · rename_i h1 h2
      simp only [Bool.and_eq_true] at h2
      exact ⟨by omega, h2.1, h2.2⟩
    · cases h
theorem nameB_len {s : ByteArray} (h : nameB s = true) : s.size ≤ 12 := by
  simp only [nameB, Bool.and_eq_true, decide_eq_true_eq] at h
  exact h.1.2
set_option maxRecDepth 100000 in
set_option maxHeartbeats 8000000 in
theorem tpack_ok (A : Nat → Prop) (t : TxD) (va : Value) (w : World) (h : SlE Enc.op A w va t.ops) (hE : txE t = 0) : Calls Tryz.prog 18 #[.agg #[.string t.obj, va]] w (NewB w (txL t t.ops.length)) := by
  obtain ⟨a, c, rfl⟩ := h.shape
  obtain ⟨hl, hnm, hall⟩ := txE_ok hE
  have hol := nameB_len hnm
  obtain ⟨ob, ops⟩ := t
  simp only at *
  have HS := Lib.hid h
  have HALL : Hid (∀ o ∈ ops, opP o) := fun o ho => of_decide_eq_true (List.all_eq_true.1 hall o ho)
  have HE := Lib.hid hE
  have hobl : ob.data.toList.length = ob.size := by simp
  have HOBL := Lib.hid hobl
  clear h hnm hall hE hobl
  go_enter Tryz.func18, Tryz.ntmps18
  go_wp2_with fail
  refine (tcheck_any A ⟨ob, ops⟩ _ _ (HS.out.ext ((Below.refl _ w).alloc (Nat.le_refl _) _))).mono ?_
  rintro e w1 ⟨rfl, hb1⟩
  rw [HE.out]
  have B1 := Lib.hid ((hb1.block w.heap.size (by simp)).trans (heap_alloc_new w _))
  have HW : Hid (Below w.heap.size w w1) := ((Below.refl _ w).alloc (Nat.le_refl _) _).trans (hb1.mono (by simp))
  obtain ⟨x0, -⟩ := blk_cell (i := 0) B1.out
  simp at x0
  have lx := (Array.getElem?_eq_some_iff.1 B1.out).1
  have hcs := fun W : World => run_bytes_of_string (P := Tryz.prog) W 9 22 5 ob Tryz.underlying9 Tryz.underlying22 Tryz.underlying5
  clear hb1
  go_wp2_with fail
  refine (blob_any (fun _ => True) (fun b => w1.heap.size ≤ b) _ _ [] ob.data.toList _ (RB.nil _ _) (str_row w1 ob) (by simp) (by rw [HOBL.out]; omega)).mono ?_
  rintro e w2 ⟨v2, rfl, ho2, hb2⟩
  obtain ⟨a2, n2, c2, rfl⟩ := ho2.shape3
  have hb12 : Below w1.heap.size w1 w2 := (str_below w1 ob).trans (hb2.mono (str_below w1 ob).size)
  have B2 := Lib.hid (blkk hb12 B1.out)
  have HW2 : Hid (Below w.heap.size w w2) := below_call HW.out hb12
  have HO2 := Lib.hid ho2
  obtain ⟨x1, -⟩ := blk_cell (i := 1) B2.out
  simp at x1
  have lx2 := (Array.getElem?_eq_some_iff.1 B2.out).1
  clear ho2 hb2 hb12 B1 x0 lx hcs HW
  go_wp2_with fail
  refine (num_any 1 ops.length (by omega) (by omega) (by omega) _ _ _ _ HO2.out.rb (by simp [be_length]; omega)).mono ?_
  rintro e w3 ⟨v3, rfl, ho3, hb3⟩
  have B3 := Lib.hid (blkk hb3 B2.out)
  have HW3 : Hid (Below w.heap.size w w3) := below_call HW2.out hb3
  have HO3 : Hid (OB w.heap.size w3 v3 (txL ⟨ob, ops⟩ 0)) := by
    have := ho3.base_le HW2.out.size
    show OB _ _ _ _
    unfold txL
    simpa using this
  have HL0 : Hid ((txL ⟨ob, ops⟩ 0).length ≤ 100) := by
    show _ ≤ _
    unfold txL
    simp [be_length]
    omega
  obtain ⟨x1, -⟩ := blk_cell (i := 1) B3.out
  simp at x1
  have lx3 := (Array.getElem?_eq_some_iff.1 B3.out).1
  have HS3 := Lib.hid (HS.out.ext HW3.out)
  clear ho3 hb3 B2 lx2 HW2 HO2 HS
  go_wp2
  go_loopw [3, 21] (fun q3 q21 wr => ∃ (k : Nat), k ≤ ops.length ∧ q21 = .int .i64 k ∧ OB w.heap.size wr q3 (txL ⟨ob, ops⟩ k) ∧ (txL ⟨ob, ops⟩ k).length ≤ 100 + 3000 * k ∧ Below w3.heap.size w3 wr) (fun _ q21 _ => ops.length - (intOf q21).toNat)
  case atStart => exact ⟨0, Nat.zero_le _, rfl, HO3.out, by have := HL0.out; omega, Below.refl _ _⟩
  case round =>
    obtain ⟨k, hk, rfl, hob, hlk, hbr⟩ := hrel
    have HBR := Lib.hid hbr
    have HOB := Lib.hid hob
    have HLK := Lib.hid hlk
    have hsr := hbr.size
    have hwr := HW3.out.size
    clear hbr hob HO3 HL0 hlk
    by_cases hlt : k < ops.length
    · have HSU := Lib.hid (txL_succ ⟨ob, ops⟩ k hlt)
      have HOP : Hid (opP ops[k]) := HALL.out _ (List.getElem_mem hlt)
      obtain ⟨b, off, v, rfl, hb, -, c0, c1, c2, c3, c4, hv⟩ := Ops.at (HS3.out.ext HBR.out) hlt
      obtain ⟨va, vc, rfl⟩ := hv.shape
      have HV := Lib.hid hv
      simp only at HSU
      generalize ops[k] = o at *
      obtain ⟨k1, f1, n1, nm, d1⟩ := o
      obtain ⟨p1, p2, p3, p4, p5, p6, p7, p8⟩ := HOP.out
      simp only at p1 p2 p3 p4 p5 p6 p7 p8 c0 c1 c2 c3 c4
      obtain ⟨k1, rfl⟩ := Int.eq_ofNat_of_zero_le (by omega : 0 ≤ k1)
      obtain ⟨f1, rfl⟩ := Int.eq_ofNat_of_zero_le p3
      obtain ⟨n1, rfl⟩ := Int.eq_ofNat_of_zero_le p5
      have p7' : nm.size ≤ 12 := by omega
      have p8' : d1.length ≤ 2048 := by omega
      have hnl : nm.data.toList.length = nm.size := by simp
      have HNL := Lib.hid hnl
      simp only [Int.toNat_natCast] at HSU
      have hcs := fun W : World => run_bytes_of_string (P := Tryz.prog) W 9 22 5 nm Tryz.underlying9 Tryz.underlying22 Tryz.underlying5
      clear hv hnl HOP
      obtain ⟨ar, nr, cr, rfl⟩ := HOB.out.shape3
      have K4 := Lib.hid (heap_alloc_new wr (.cells #[.int .i64 (k1 : Nat), .int .i64 (f1 : Nat), .int .i64 (n1 : Nat), .string nm, .slice va d1.length vc] 43))
      have HB4 : Hid (Below w3.heap.size w3 (wr.alloc (.cells #[.int .i64 (k1 : Nat), .int .i64 (f1 : Nat), .int .i64 (n1 : Nat), .string nm, .slice va d1.length vc] 43))) := HBR.out.trans (((Below.refl _ wr).alloc (Nat.le_refl _) _).mono hsr)
      have hb4 : Below wr.heap.size wr (wr.alloc (.cells #[.int .i64 (k1 : Nat), .int .i64 (f1 : Nat), .int .i64 (n1 : Nat), .string nm, .slice va d1.length vc] 43)) := (Below.refl _ wr).alloc (Nat.le_refl _) _
      have HO4 := Lib.hid (HOB.out.ext hb4)
      have HV4 := Lib.hid (HV.out.ext hb4)
      clear hb4
      go_wp2_with fail
      refine (num_any 1 k1 (by omega) (by omega) (by omega) _ _ _ _ HO4.out.rb (by have := HLK.out; omega)).mono ?_
      rintro e w5 ⟨v5, rfl, ho5, hb5⟩
      obtain ⟨a5, n5, c5, rfl⟩ := ho5.shape3
      have K5 := Lib.hid (blkk hb5 K4.out)
      have HB5 : Hid (Below w3.heap.size w3 w5) := below_call HB4.out hb5
      have HO5 := Lib.hid (ho5.base_le (base' := w.heap.size) (by have := HB4.out.size; omega))
      have lk := (Array.getElem?_eq_some_iff.1 K5.out).1
      obtain ⟨y1, -⟩ := blk_cell (i := 1) K5.out
      simp at y1
      have HV5 := Lib.hid (HV4.out.ext hb5)
      clear ho5 hb5 c0 c1 c2 c3 c4
      go_wp2_with fail
      refine (num_any 6 f1 (by omega) (by omega) (by omega) _ _ _ _ HO5.out.rb (by have := HLK.out; simp [be_length]; omega)).mono ?_
      rintro e w6 ⟨v6, rfl, ho6, hb6⟩
      obtain ⟨a6, n6, c6, rfl⟩ := ho6.shape3
      have K6 := Lib.hid (blkk hb6 K5.out)
      have HB6 : Hid (Below w3.heap.size w3 w6) := below_call HB5.out hb6
      have HO6 := Lib.hid (ho6.base_le (base' := w.heap.size) (by have := HB5.out.size; omega))
      have lk := (Array.getElem?_eq_some_iff.1 K6.out).1
      obtain ⟨y2, -⟩ := blk_cell (i := 2) K6.out
      simp at y2
      have HV6 := Lib.hid (HV5.out.ext hb6)
      clear ho6 hb6 y1
      go_wp2_with fail
      refine (num_any 6 n1 (by omega) (by omega) (by omega) _ _ _ _ HO6.out.rb (by have := HLK.out; simp [be_length]; omega)).mono ?_
      rintro e w7 ⟨v7, rfl, ho7, hb7⟩
      obtain ⟨a7, n7, c7, rfl⟩ := ho7.shape3
      have K7 := Lib.hid (blkk hb7 K6.out)
      have HB7 : Hid (Below w3.heap.size w3 w7) := below_call HB6.out hb7
      have HO7 := Lib.hid (ho7.base_le (base' := w.heap.size) (by have := HB6.out.size; omega))
      have lk := (Array.getElem?_eq_some_iff.1 K7.out).1
      obtain ⟨y3, -⟩ := blk_cell (i := 3) K7.out
      simp at y3
      have HV7 := Lib.hid (HV6.out.ext hb7)
      clear ho7 hb7 y2
      go_wp2_with fail
      refine (blob_any (fun b => w.heap.size ≤ b) (fun b => w7.heap.size ≤ b) _ _ _ nm.data.toList _ (HO7.out.rb.ext (str_below w7 nm)) (str_row w7 nm) (by have := HLK.out; simp [be_length]; omega) (by rw [HNL.out]; omega)).mono ?_
      rintro e w8 ⟨v8, rfl, ho8, hb8'⟩
      have hb8 : Below w7.heap.size w7 w8 := (str_below w7 nm).trans (hb8'.mono (str_below w7 nm).size)
      replace ho8 := ho8.base_le (base' := w7.heap.size) (str_below w7 nm).size
      obtain ⟨a8, n8, c8, rfl⟩ := ho8.shape3
      have K8 := Lib.hid (blkk hb8 K7.out)
      have HB8 : Hid (Below w3.heap.size w3 w8) := below_call HB7.out hb8
      have HO8 := Lib.hid (ho8.base_le (base' := w.heap.size) (by have := HB7.out.size; omega))
      have lk := (Array.getElem?_eq_some_iff.1 K8.out).1
      obtain ⟨y4, -⟩ := blk_cell (i := 4) K8.out
      simp at y4
      have HV8 := Lib.hid (HV7.out.ext hb8)
      clear ho8 hb8 hb8' y3 hcs
      go_wp2_with fail
      refine (blob_any (fun b => w.heap.size ≤ b) _ _ _ _ d1 _ HO8.out.rb HV8.out (by have := HLK.out; have := HNL.out; simp [be_length]; omega) (by omega)).mono ?_
      rintro e w9 ⟨v9, rfl, ho9, hb9⟩
      have HB9 : Hid (Below w3.heap.size w3 w9) := below_call HB8.out hb9
      have HO9 : Hid (OB w.heap.size w9 v9 (txL ⟨ob, ops⟩ (k + 1))) := by
        show OB _ _ _ _
        rw [HSU.out]
        exact ho9.base_le (by have := HB8.out.size; omega)
      have HL9 : Hid ((txL ⟨ob, ops⟩ (k + 1)).length ≤ 100 + 3000 * (k + 1)) := by
        show _ ≤ _
        rw [HSU.out]
        have := HLK.out
        have := HNL.out
        simp [be_length]
        omega
      clear ho9 hb9 y4
      go_wp2
      go_roundw
      case rel => exact ⟨k + 1, by omega, by go_num, HO9.out, HL9.out, HB9.out⟩
      case measure => simp [intOf]; omega
    · obtain rfl : k = ops.length := by omega
      go_wp2
      go_ret
      exact ⟨_, rfl, HOB.out, HW3.out.trans (HBR.out.mono hwr)⟩
end Go.Proofs.YtgdilkhaopnhaaaGreatDoor
