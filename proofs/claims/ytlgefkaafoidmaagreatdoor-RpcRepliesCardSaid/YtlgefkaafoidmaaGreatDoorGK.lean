/- Small laws on blocks that a walk keeps in sight: behind calls and allocs; a request's and a reply's cells. Bytes unpacked into a transaction, plainly. No program is named. The walk of txn.Pack. Requests as bytes, plainly: whether one may be, its bytes, bytes' request. No program is named. Objects and ops, plainly: the order of names, what may be, what is read, what an op does. No program is named. -/
import Derived.Test.YtlgefkaafoidmaaGreatDoorGH
import Derived.Test.YtlgefkaafoidmaaGreatDoorGC
import Derived.Test.YtlgefkaafoidmaaGreatDoorGJ
import Derived.Test.YtlgefkaafoidmaaGreatDoorGA
import Derived.Test.YtlgefkaafoidmaaGreatDoorWrt
import Derived.Laws.IdiomStrings
import Derived.Test.YtlgefkaafoidmaaGreatDoorGE
import Derived.Test.YtlgefkaafoidmaaGreatDoorGI
import Derived.Lib.Bytealg
namespace Go.Proofs.YtlgefkaafoidmaaGreatDoor
open Go.RowKit Go.WideShapes

theorem below_call {w W W' : World} (h : Below w.heap.size w W) (hb : Below W.heap.size W W') : Below w.heap.size w W' := h.trans (hb.mono h.size)
theorem below_new {w W : World} (h : Below w.heap.size w W) (o : Obj) : Below w.heap.size w (W.alloc o) := h.alloc h.size o
theorem blkk {W W' : World} {k : Nat} {o : Obj} (hb : Below W.heap.size W W') (h : W.heap[k]? = some o) : W'.heap[k]? = some o := (hb.block k (Array.getElem?_eq_some_iff.1 h).1).trans h
theorem blka {W : World} {k : Nat} {o : Obj} (h : W.heap[k]? = some o) (o' : Obj) : (W.alloc o').heap[k]? = some o := (Below.heap_alloc _ _ _ (Array.getElem?_eq_some_iff.1 h).1).trans h
theorem rq_cells {W : World} {k : Nat} {t : TypeId} {q : RqD} {ov : Value} (h : W.heap[k]? = some (.cells (rqC q ov) t (0, 0))) :
    W.cell? ⟨k, 0, none⟩ = some (.int .i64 q.client) ∧ W.cell? ⟨k, 1, none⟩ = some (.int .i64 q.life) ∧ W.cell? ⟨k, 2, none⟩ = some (.int .i64 q.seq) ∧ W.cell? ⟨k, 3, none⟩ = some (.int .i64 q.kind) ∧ W.cell? ⟨k, 4, none⟩ = some (.int .i64 q.image) ∧ W.cell? ⟨k, 5, none⟩ = some (.int .i64 q.who) ∧ W.cell? ⟨k, 6, none⟩ = some (.int .i64 q.n) ∧ W.cell? ⟨k, 7, none⟩ = some (.string q.txn.obj) ∧ W.cell? ⟨k, 8, none⟩ = some ov ∧ k < W.heap.size := by
  refine ⟨?_, ?_, ?_, ?_, ?_, ?_, ?_, ?_, ?_, (Array.getElem?_eq_some_iff.1 h).1⟩
  all_goals exact (blk_cell h).1
def rpC (p : RpD) (dv kv : Value) : Array Value := #[.int .i64 p.client, .int .i64 p.life, .int .i64 p.seq, .int .i64 p.e, .int .i64 p.n, .int .i64 p.index, .bool p.there, dv, kv, .int .i64 p.obj.seq]
theorem rp_cells {W : World} {k : Nat} {t : TypeId} {p : RpD} {dv kv : Value} (h : W.heap[k]? = some (.cells (rpC p dv kv) t (0, 0))) :
    W.cell? ⟨k, 0, none⟩ = some (.int .i64 p.client) ∧ W.cell? ⟨k, 1, none⟩ = some (.int .i64 p.life) ∧ W.cell? ⟨k, 2, none⟩ = some (.int .i64 p.seq) ∧ W.cell? ⟨k, 3, none⟩ = some (.int .i64 p.e) ∧ W.cell? ⟨k, 4, none⟩ = some (.int .i64 p.n) ∧ W.cell? ⟨k, 5, none⟩ = some (.int .i64 p.index) ∧ W.cell? ⟨k, 6, none⟩ = some (.bool p.there) ∧ W.cell? ⟨k, 7, none⟩ = some dv ∧ W.cell? ⟨k, 8, none⟩ = some kv ∧ W.cell? ⟨k, 9, none⟩ = some (.int .i64 p.obj.seq) ∧ k < W.heap.size := by
  refine ⟨?_, ?_, ?_, ?_, ?_, ?_, ?_, ?_, ?_, ?_, (Array.getElem?_eq_some_iff.1 h).1⟩
  all_goals exact (blk_cell h).1
end Go.Proofs.YtlgefkaafoidmaaGreatDoor
namespace Go.Proofs.YtlgefkaafoidmaaGreatDoor
open Go.RowKit

def unpOp (r : Rd) : OpD × Rd :=
  (⟨(r.num 1).1, ((r.num 1).2.num 6).1, (((r.num 1).2.num 6).2.num 6).1, ⟨((((r.num 1).2.num 6).2.num 6).2.blob 12).1.toArray⟩, (((((r.num 1).2.num 6).2.num 6).2.blob 12).2.blob 2048).1⟩,
    (((((r.num 1).2.num 6).2.num 6).2.blob 12).2.blob 2048).2)
def unpOps : Nat → Rd → List OpD × Rd
  | 0, r => ([], r)
  | n + 1, r => if r.e = 0 then ((unpOp r).1 :: (unpOps n (unpOp r).2).1, (unpOps n (unpOp r).2).2) else ([], r)
def unpHead (l : List UInt8) : List UInt8 × Rd := (⟨l, 0⟩ : Rd).blob 12
def unpN (l : List UInt8) : Nat × Rd := (unpHead l).2.num 1
def unpC (l : List UInt8) : Rd := if 12 < (unpN l).1 then (unpN l).2.fail 11 else (unpN l).2
def unpY (l : List UInt8) : List OpD × Rd := unpOps (unpN l).1 (unpC l)
def unpT (l : List UInt8) : TxD := ⟨⟨(unpHead l).1.toArray⟩, (unpY l).1⟩
def unpE (l : List UInt8) : Int := if (unpY l).2.fin.e = 0 then txE (unpT l) else (unpY l).2.fin.e
/-- a transaction of bytes, or its error -/
def txUn (l : List UInt8) : TxD × Int := if unpE l = 0 then (unpT l, 0) else (⟨ByteArray.empty, []⟩, unpE l)
/-- where a reader stands: what it has yet is short, its error is small -/
structure Rd.small (r : Rd) : Prop where
  len : r.l.length ≤ 100000
  err : r.e < 1000
theorem Rd.small.take {r : Rd} (h : r.small) (n : Nat) : (r.take n).2.small := by
  refine ⟨Nat.le_trans (Rd.take_len r n).2.2 h.len, ?_⟩
  unfold Rd.take
  split
  · exact h.err
  · split
    · decide
    · exact (by decide : (0 : Nat) < 1000)
theorem Rd.small.num {r : Rd} (h : r.small) (w : Nat) : (r.num w).2.small := h.take w
theorem Rd.small.fail {r : Rd} (h : r.small) {x : Nat} (hx : x < 1000) : (r.fail x).small := by
  refine ⟨Nat.le_trans (Rd.fail_len r x) h.len, ?_⟩
  unfold Rd.fail
  split
  · exact hx
  · exact h.err
theorem Rd.small.blob {r : Rd} (h : r.small) (m : Nat) : (r.blob m).2.small := by
  unfold Rd.blob
  split
  · exact (h.num 2).fail (by decide)
  · exact (h.num 2).take _
theorem Rd.small.fin {r : Rd} (h : r.small) : r.fin.small := by
  unfold Rd.fin
  split
  · exact h.fail (by decide)
  · exact h
theorem unpOps_go {n : Nat} {r : Rd} (h : r.e = 0) : unpOps (n + 1) r = ((unpOp r).1 :: (unpOps n (unpOp r).2).1, (unpOps n (unpOp r).2).2) := if_pos h
theorem unpOps_halt {n : Nat} {r : Rd} (h : r.e ≠ 0) : unpOps n r = ([], r) := by
  cases n with
  | zero => rfl
  | succ n => exact if_neg h
end Go.Proofs.YtlgefkaafoidmaaGreatDoor
namespace Go.Proofs.YtlgefkaafoidmaaGreatDoor
open Go.RowKit Go.WideShapes

def opBytes (o : OpD) : List UInt8 := be 1 o.kind.toNat ++ be 6 o.off.toNat ++ be 6 o.n.toNat ++ be 2 o.name.data.toList.length ++ o.name.data.toList ++ be 2 o.data.length ++ o.data
def txL (t : TxD) (k : Nat) : List UInt8 := [] ++ be 2 t.obj.data.toList.length ++ t.obj.data.toList ++ be 1 t.ops.length ++ (t.ops.take k).flatMap opBytes
theorem txL_succ (t : TxD) (k : Nat) (hk : k < t.ops.length) : txL t (k + 1) = txL t k ++ be 1 t.ops[k].kind.toNat ++ be 6 t.ops[k].off.toNat ++ be 6 t.ops[k].n.toNat ++ be 2 t.ops[k].name.data.toList.length ++ t.ops[k].name.data.toList ++ be 2 t.ops[k].data.length ++ t.ops[k].data := by
  unfold txL
  rw [List.take_succ_eq_append_getElem hk, List.flatMap_append]
  simp [opBytes, List.append_assoc]
theorem str_row (w : World) (s : ByteArray) : RB (fun b => w.heap.size ≤ b) (w.alloc (.cells (bytesRow s (grownCap w s.size 0 5)) 5 ((bytesRow s (grownCap w s.size 0 5)).size, (bytesRow s (grownCap w s.size 0 5)).size + 1))).drew (.slice (some ⟨w.heap.size, 0, none⟩) s.size (grownCap w s.size 0 5)) s.data.toList := by
  have hg := grownCap_ge w s.size 0 5
  have hl : s.data.toList.length = s.size := by simp
  generalize grownCap w s.size 0 5 = G at *
  refine ⟨by simp, .inr ⟨w.heap.size, 0, G, by rw [hl], by simp, Nat.le_refl _, by rw [hl]; exact hg, fun j hj => ?_⟩⟩
  rw [hl, Nat.mul_one] at hj
  have hjs : j < s.data.size := hj
  have hb : (w.alloc (.cells (bytesRow s G) 5 ((bytesRow s G).size, (bytesRow s G).size + 1))).drew.heap[w.heap.size]? = some (.cells (bytesRow s G) 5 ((bytesRow s G).size, (bytesRow s G).size + 1)) := by
    show (w.heap.push _)[w.heap.size]? = _
    simp
  have e : (w.alloc (.cells (bytesRow s G) 5 ((bytesRow s G).size, (bytesRow s G).size + 1))).drew.cell? ⟨w.heap.size, 0 + j, none⟩ = (bytesRow s G)[j]? := by
    simp only [World.cell?, hb, Nat.zero_add]
    exact if_neg (by simp)
  rw [e]
  unfold bytesRow
  rw [Array.getElem?_append_left (by simpa using hjs)]
  simp
  rfl
theorem str_below (w : World) (s : ByteArray) : Below w.heap.size w (w.alloc (.cells (bytesRow s (grownCap w s.size 0 5)) 5 ((bytesRow s (grownCap w s.size 0 5)).size, (bytesRow s (grownCap w s.size 0 5)).size + 1))).drew := ((Below.refl _ w).alloc (Nat.le_refl _) _).drew
theorem txE_ok {t : TxD} (h : txE t = 0) : t.ops.length ≤ 12 ∧ nameB t.obj = true ∧ t.ops.all opB = true := by
  unfold txE at h
  split at h
  · cases h
  · split at h
    · rename_i h1 h2
      simp only [Bool.and_eq_true] at h2
      exact ⟨by omega, h2.1, h2.2⟩
    · cases h
theorem nameB_len {s : ByteArray} (h : nameB s = true) : s.size ≤ 12 := by
  simp only [nameB, Bool.and_eq_true, decide_eq_true_eq] at h
  exact h.1.2
set_option maxRecDepth 100000 in
set_option maxHeartbeats 8000000 in
theorem tpack_ok (A : Nat → Prop) (t : TxD) (va : Value) (w : World) (h : SlE Enc.op A w va t.ops) (hE : txE t = 0) : Calls Tryz.prog 38 #[.agg #[.string t.obj, va]] w (NewB w (txL t t.ops.length)) := by
  obtain ⟨a, c, rfl⟩ := h.shape
  obtain ⟨hl, hnm, hall⟩ := txE_ok hE
  have hol := nameB_len hnm
  obtain ⟨ob, ops⟩ := t
  simp only at *
  have HS := Lib.hid h
  have HALL : Hid (∀ o ∈ ops, opP o) := fun o ho => of_decide_eq_true (List.all_eq_true.1 hall o ho)
  have HE := Lib.hid hE
  have hobl : ob.data.toList.length = ob.size := by simp
  have HOBL := Lib.hid hobl
  clear h hnm hall hE hobl
  go_enter Tryz.func38, Tryz.ntmps38
  go_wp2_with fail
  refine (tcheck_any A ⟨ob, ops⟩ _ _ (HS.out.ext ((Below.refl _ w).alloc (Nat.le_refl _) _))).mono ?_
  rintro e w1 ⟨rfl, hb1⟩
  rw [HE.out]
  have B1 := Lib.hid ((hb1.block w.heap.size (by simp)).trans (heap_alloc_new w _))
  have HW : Hid (Below w.heap.size w w1) := ((Below.refl _ w).alloc (Nat.le_refl _) _).trans (hb1.mono (by simp))
  obtain ⟨x0, -⟩ := blk_cell (i := 0) B1.out
  simp at x0
  have lx := (Array.getElem?_eq_some_iff.1 B1.out).1
  have hcs := fun W : World => run_bytes_of_string (P := Tryz.prog) W 9 27 5 ob Tryz.underlying9 Tryz.underlying27 Tryz.underlying5
  clear hb1
  go_wp2_with fail
  refine (blob_any (fun _ => True) (fun b => w1.heap.size ≤ b) _ _ [] ob.data.toList _ (RB.nil _ _) (str_row w1 ob) (by simp) (by rw [HOBL.out]; omega)).mono ?_
  rintro e w2 ⟨v2, rfl, ho2, hb2⟩
  obtain ⟨a2, n2, c2, rfl⟩ := ho2.shape3
  have hb12 : Below w1.heap.size w1 w2 := (str_below w1 ob).trans (hb2.mono (str_below w1 ob).size)
  have B2 := Lib.hid (blkk hb12 B1.out)
  have HW2 : Hid (Below w.heap.size w w2) := below_call HW.out hb12
  have HO2 := Lib.hid ho2
  obtain ⟨x1, -⟩ := blk_cell (i := 1) B2.out
  simp at x1
  have lx2 := (Array.getElem?_eq_some_iff.1 B2.out).1
  clear ho2 hb2 hb12 B1 x0 lx hcs HW
  go_wp2_with fail
  refine (num_any 1 ops.length (by omega) (by omega) (by omega) _ _ _ _ HO2.out.rb (by simp [be_length]; omega)).mono ?_
  rintro e w3 ⟨v3, rfl, ho3, hb3⟩
  have B3 := Lib.hid (blkk hb3 B2.out)
  have HW3 : Hid (Below w.heap.size w w3) := below_call HW2.out hb3
  have HO3 : Hid (OB w.heap.size w3 v3 (txL ⟨ob, ops⟩ 0)) := by
    have := ho3.base_le HW2.out.size
    show OB _ _ _ _
    unfold txL
    simpa using this
  have HL0 : Hid ((txL ⟨ob, ops⟩ 0).length ≤ 100) := by
    show _ ≤ _
    unfold txL
    simp [be_length]
    omega
  obtain ⟨x1, -⟩ := blk_cell (i := 1) B3.out
  simp at x1
  have lx3 := (Array.getElem?_eq_some_iff.1 B3.out).1
  have HS3 := Lib.hid (HS.out.ext HW3.out)
  clear ho3 hb3 B2 lx2 HW2 HO2 HS
  go_wp2
  go_loopw [3, 21] (fun q3 q21 wr => ∃ (k : Nat), k ≤ ops.length ∧ q21 = .int .i64 k ∧ OB w.heap.size wr q3 (txL ⟨ob, ops⟩ k) ∧ (txL ⟨ob, ops⟩ k).length ≤ 100 + 3000 * k ∧ Below w3.heap.size w3 wr) (fun _ q21 _ => ops.length - (intOf q21).toNat)
  case atStart => exact ⟨0, Nat.zero_le _, rfl, HO3.out, by have := HL0.out; omega, Below.refl _ _⟩
  case round =>
    obtain ⟨k, hk, rfl, hob, hlk, hbr⟩ := hrel
    have HBR := Lib.hid hbr
    have HOB := Lib.hid hob
    have HLK := Lib.hid hlk
    have hsr := hbr.size
    have hwr := HW3.out.size
    clear hbr hob HO3 HL0 hlk
    by_cases hlt : k < ops.length
    · have HSU := Lib.hid (txL_succ ⟨ob, ops⟩ k hlt)
      have HOP : Hid (opP ops[k]) := HALL.out _ (List.getElem_mem hlt)
      obtain ⟨b, off, v, rfl, hb, -, c0, c1, c2, c3, c4, hv⟩ := Ops.at (HS3.out.ext HBR.out) hlt
      obtain ⟨va, vc, rfl⟩ := hv.shape
      have HV := Lib.hid hv
      simp only at HSU
      generalize ops[k] = o at *
      obtain ⟨k1, f1, n1, nm, d1⟩ := o
      obtain ⟨p1, p2, p3, p4, p5, p6, p7, p8⟩ := HOP.out
      simp only at p1 p2 p3 p4 p5 p6 p7 p8 c0 c1 c2 c3 c4
      obtain ⟨k1, rfl⟩ := Int.eq_ofNat_of_zero_le (by omega : 0 ≤ k1)
      obtain ⟨f1, rfl⟩ := Int.eq_ofNat_of_zero_le p3
      obtain ⟨n1, rfl⟩ := Int.eq_ofNat_of_zero_le p5
      have p7' : nm.size ≤ 12 := by omega
      have p8' : d1.length ≤ 2048 := by omega
      have hnl : nm.data.toList.length = nm.size := by simp
      have HNL := Lib.hid hnl
      simp only [Int.toNat_natCast] at HSU
      have hcs := fun W : World => run_bytes_of_string (P := Tryz.prog) W 9 27 5 nm Tryz.underlying9 Tryz.underlying27 Tryz.underlying5
      clear hv hnl HOP
      obtain ⟨ar, nr, cr, rfl⟩ := HOB.out.shape3
      have K4 := Lib.hid (heap_alloc_new wr (.cells #[.int .i64 (k1 : Nat), .int .i64 (f1 : Nat), .int .i64 (n1 : Nat), .string nm, .slice va d1.length vc] 58))
      have HB4 : Hid (Below w3.heap.size w3 (wr.alloc (.cells #[.int .i64 (k1 : Nat), .int .i64 (f1 : Nat), .int .i64 (n1 : Nat), .string nm, .slice va d1.length vc] 58))) := HBR.out.trans (((Below.refl _ wr).alloc (Nat.le_refl _) _).mono hsr)
      have hb4 : Below wr.heap.size wr (wr.alloc (.cells #[.int .i64 (k1 : Nat), .int .i64 (f1 : Nat), .int .i64 (n1 : Nat), .string nm, .slice va d1.length vc] 58)) := (Below.refl _ wr).alloc (Nat.le_refl _) _
      have HO4 := Lib.hid (HOB.out.ext hb4)
      have HV4 := Lib.hid (HV.out.ext hb4)
      clear hb4
      go_wp2_with fail
      refine (num_any 1 k1 (by omega) (by omega) (by omega) _ _ _ _ HO4.out.rb (by have := HLK.out; omega)).mono ?_
      rintro e w5 ⟨v5, rfl, ho5, hb5⟩
      obtain ⟨a5, n5, c5, rfl⟩ := ho5.shape3
      have K5 := Lib.hid (blkk hb5 K4.out)
      have HB5 : Hid (Below w3.heap.size w3 w5) := below_call HB4.out hb5
      have HO5 := Lib.hid (ho5.base_le (base' := w.heap.size) (by have := HB4.out.size; omega))
      have lk := (Array.getElem?_eq_some_iff.1 K5.out).1
      obtain ⟨y1, -⟩ := blk_cell (i := 1) K5.out
      simp at y1
      have HV5 := Lib.hid (HV4.out.ext hb5)
      clear ho5 hb5 c0 c1 c2 c3 c4
      go_wp2_with fail
      refine (num_any 6 f1 (by omega) (by omega) (by omega) _ _ _ _ HO5.out.rb (by have := HLK.out; simp [be_length]; omega)).mono ?_
      rintro e w6 ⟨v6, rfl, ho6, hb6⟩
      obtain ⟨a6, n6, c6, rfl⟩ := ho6.shape3
      have K6 := Lib.hid (blkk hb6 K5.out)
      have HB6 : Hid (Below w3.heap.size w3 w6) := below_call HB5.out hb6
      have HO6 := Lib.hid (ho6.base_le (base' := w.heap.size) (by have := HB5.out.size; omega))
      have lk := (Array.getElem?_eq_some_iff.1 K6.out).1
      obtain ⟨y2, -⟩ := blk_cell (i := 2) K6.out
      simp at y2
      have HV6 := Lib.hid (HV5.out.ext hb6)
      clear ho6 hb6 y1
      go_wp2_with fail
      refine (num_any 6 n1 (by omega) (by omega) (by omega) _ _ _ _ HO6.out.rb (by have := HLK.out; simp [be_length]; omega)).mono ?_
      rintro e w7 ⟨v7, rfl, ho7, hb7⟩
      obtain ⟨a7, n7, c7, rfl⟩ := ho7.shape3
      have K7 := Lib.hid (blkk hb7 K6.out)
      have HB7 : Hid (Below w3.heap.size w3 w7) := below_call HB6.out hb7
      have HO7 := Lib.hid (ho7.base_le (base' := w.heap.size) (by have := HB6.out.size; omega))
      have lk := (Array.getElem?_eq_some_iff.1 K7.out).1
      obtain ⟨y3, -⟩ := blk_cell (i := 3) K7.out
      simp at y3
      have HV7 := Lib.hid (HV6.out.ext hb7)
      clear ho7 hb7 y2
      go_wp2_with fail
      refine (blob_any (fun b => w.heap.size ≤ b) (fun b => w7.heap.size ≤ b) _ _ _ nm.data.toList _ (HO7.out.rb.ext (str_below w7 nm)) (str_row w7 nm) (by have := HLK.out; simp [be_length]; omega) (by rw [HNL.out]; omega)).mono ?_
      rintro e w8 ⟨v8, rfl, ho8, hb8'⟩
      have hb8 : Below w7.heap.size w7 w8 := (str_below w7 nm).trans (hb8'.mono (str_below w7 nm).size)
      replace ho8 := ho8.base_le (base' := w7.heap.size) (str_below w7 nm).size
      obtain ⟨a8, n8, c8, rfl⟩ := ho8.shape3
      have K8 := Lib.hid (blkk hb8 K7.out)
      have HB8 : Hid (Below w3.heap.size w3 w8) := below_call HB7.out hb8
      have HO8 := Lib.hid (ho8.base_le (base' := w.heap.size) (by have := HB7.out.size; omega))
      have lk := (Array.getElem?_eq_some_iff.1 K8.out).1
      obtain ⟨y4, -⟩ := blk_cell (i := 4) K8.out
      simp at y4
      have HV8 := Lib.hid (HV7.out.ext hb8)
      clear ho8 hb8 hb8' y3 hcs
      go_wp2_with fail
      refine (blob_any (fun b => w.heap.size ≤ b) _ _ _ _ d1 _ HO8.out.rb HV8.out (by have := HLK.out; have := HNL.out; simp [be_length]; omega) (by omega)).mono ?_
      rintro e w9 ⟨v9, rfl, ho9, hb9⟩
      have HB9 : Hid (Below w3.heap.size w3 w9) := below_call HB8.out hb9
      have HO9 : Hid (OB w.heap.size w9 v9 (txL ⟨ob, ops⟩ (k + 1))) := by
        show OB _ _ _ _
        rw [HSU.out]
        exact ho9.base_le (by have := HB8.out.size; omega)
      have HL9 : Hid ((txL ⟨ob, ops⟩ (k + 1)).length ≤ 100 + 3000 * (k + 1)) := by
        show _ ≤ _
        rw [HSU.out]
        have := HLK.out
        have := HNL.out
        simp [be_length]
        omega
      clear ho9 hb9 y4
      go_wp2
      go_roundw
      case rel => exact ⟨k + 1, by omega, by go_num, HO9.out, HL9.out, HB9.out⟩
      case measure => simp [intOf]; omega
    · obtain rfl : k = ops.length := by omega
      go_wp2
      go_ret
      exact ⟨_, rfl, HOB.out, HW3.out.trans (HBR.out.mono hwr)⟩
end Go.Proofs.YtlgefkaafoidmaaGreatDoor
namespace Go.Proofs.YtlgefkaafoidmaaGreatDoor
open Go.RowKit Go.WideShapes

/-- the body of a frame of a kind, or its error -/
def opnB (l : List UInt8) (k : Nat) : List UInt8 × Nat :=
  if (nextB l).e ≠ 0 then ([], (nextB l).e) else if 0 < (nextB l).rest.length ∨ (nextB l).kind ≠ k then ([], 11) else ((nextB l).body, 0)
def mayN (q : RqD) : Bool := decide (((0 ≤ q.client ∧ q.client ≤ 7) ∧ (0 ≤ q.life ∧ q.life ≤ 4294967295) ∧ (0 ≤ q.seq ∧ q.seq ≤ 1099511627776)) ∧ (1 ≤ q.kind ∧ q.kind ≤ 11) ∧ (0 ≤ q.image ∧ q.image ≤ 3) ∧ (0 ≤ q.who ∧ q.who ≤ 7) ∧ (0 ≤ q.n ∧ q.n ≤ 1099511627776))
theorem mayN_iff (q : RqD) : mayN q = true ↔ MayN q := by
  unfold mayN
  rw [decide_eq_true_iff]
  exact ⟨fun ⟨h1, h2, h3, h4, h5⟩ => ⟨h1, h2, h3, h4, h5⟩, fun h => ⟨h.id, h.k, h.i, h.w, h.n⟩⟩
/-- may a request be? -/
def mayQ (q : RqD) : Bool := mayN q && (if q.kind = 1 then decide (txE q.txn = 0) else if q.kind = 2 then decide (q.txn.ops = []) && decide (txE q.txn = 0) else decide (q.txn.obj = ByteArray.empty) && decide (q.txn.ops = []))
theorem mayQ_no {q : RqD} (h : ¬ MayN q) : mayQ q = false := by
  have : mayN q = false := by
    cases h1 : mayN q with
    | false => rfl
    | true => exact absurd ((mayN_iff q).1 h1) h
  simp [mayQ, this]
theorem mayQ_yes {q : RqD} (h : MayN q) : mayQ q = (if q.kind = 1 then decide (txE q.txn = 0) else if q.kind = 2 then decide (q.txn.ops = []) && decide (txE q.txn = 0) else decide (q.txn.obj = ByteArray.empty) && decide (q.txn.ops = [])) := by
  rw [mayQ, (mayN_iff q).2 h, Bool.true_and]
theorem mayQ_N {q : RqD} (h : mayQ q = true) : MayN q := by
  unfold mayQ at h
  rw [Bool.and_eq_true] at h
  exact (mayN_iff q).1 h.1
/-- what is written behind a request's numbers -/
def blobQ (q : RqD) : List UInt8 := if q.kind = 1 then txL q.txn q.txn.ops.length else q.txn.obj.data.toList
/-- a request's bytes -/
def pkqL (q : RqD) : List UInt8 := if mayQ q = true ∧ (blobQ q).length + 22 ≤ 8192 then frm 1 (bodyQ q.client.toNat q.life.toNat q.seq.toNat q.kind.toNat q.image.toNat q.who.toNat q.n.toNat (blobQ q)) else []
theorem mayQ_tx {q : RqD} (h : mayQ q = true) (hk : q.kind = 1) : txE q.txn = 0 := by
  rw [mayQ_yes (mayQ_N h), if_pos hk] at h
  exact of_decide_eq_true h
theorem blobQ_1 {q : RqD} (hk : q.kind = 1) : blobQ q = txL q.txn q.txn.ops.length := if_pos hk
theorem blobQ_n {q : RqD} (hk : q.kind ≠ 1) : blobQ q = q.txn.obj.data.toList := if_neg hk
theorem pkqL_no {q : RqD} (h : mayQ q = false) : pkqL q = [] := if_neg fun h1 => by rw [h] at h1; cases h1.1
theorem pkqL_long {q : RqD} {x : List UInt8} (hx : blobQ q = x) (h : 8192 < x.length + 22) : pkqL q = [] := if_neg fun h1 => by rw [hx] at h1; omega
theorem pkqL_ok {q : RqD} {x : List UInt8} (hq : mayQ q = true) (hx : blobQ q = x) (h : x.length + 22 ≤ 8192) : pkqL q = frm 1 (bodyQ q.client.toNat q.life.toNat q.seq.toNat q.kind.toNat q.image.toNat q.who.toNat q.n.toNat x) := by
  subst hx
  exact if_pos ⟨hq, h⟩
/-- the numbers ahead, and where the reader then stands -/
def unqN (l : List UInt8) : List Nat × Rd := rdNums wsQ ⟨(opnB l 1).1, 0⟩
def unqX (l : List UInt8) : List UInt8 × Rd := (unqN l).2.blob 8192
def unqT (l : List UInt8) : TxD × Int := if (unqX l).2.fin.e = 0 ∧ (unqN l).1.getD 3 0 = 1 then txUn (unqX l).1 else (⟨⟨(unqX l).1.toArray⟩, []⟩, (unqX l).2.fin.e)
def unqQ (l : List UInt8) : RqD := ⟨(unqN l).1.getD 0 0, (unqN l).1.getD 1 0, (unqN l).1.getD 2 0, (unqN l).1.getD 3 0, (unqN l).1.getD 4 0, (unqN l).1.getD 5 0, (unqN l).1.getD 6 0, (unqT l).1⟩
def unqE (l : List UInt8) : Int := if (opnB l 1).2 ≠ 0 then (opnB l 1).2 else if (unqT l).2 ≠ 0 then (unqT l).2 else if mayQ (unqQ l) then 0 else 11
/-- bytes' request, or its error -/
def unqB (l : List UInt8) : RqD × Int := if unqE l = 0 then (unqQ l, 0) else (RqD.none, unqE l)
section
variable {l x : List UInt8} {c lf s kd im wh n : Nat} {R R8 : Rd} {t : TxD} {E : Int}
theorem unqX_of (hn : unqN l = ([c, lf, s, kd, im, wh, n], R)) (hx : R.blob 8192 = (x, R8)) : unqX l = (x, R8) := by
  unfold unqX
  rw [hn]
  exact hx
theorem unqT_fin (hx : unqX l = (x, R8)) (hf : R8.fin.e ≠ 0) : (unqT l).2 = R8.fin.e := by
  unfold unqT
  rw [hx, if_neg fun h => hf h.1]
theorem unqT_tx (hn : unqN l = ([c, lf, s, kd, im, wh, n], R)) (hx : unqX l = (x, R8)) (hf : R8.fin.e = 0) (hk : kd = 1) : unqT l = txUn x := by
  unfold unqT
  rw [hx, hn, if_pos ⟨hf, hk⟩]
theorem unqT_obj (hn : unqN l = ([c, lf, s, kd, im, wh, n], R)) (hx : unqX l = (x, R8)) (hf : R8.fin.e = 0) (hk : kd ≠ 1) : unqT l = (⟨⟨x.toArray⟩, []⟩, 0) := by
  unfold unqT
  rw [hx, hn, if_neg fun h => hk h.2, hf]
  rfl
theorem unqB_bad (h0 : (opnB l 1).2 = 0) (h : (unqT l).2 = E) (hE : E ≠ 0) : unqB l = (RqD.none, E) := by
  have h1 : unqE l = E := by
    unfold unqE
    rw [if_neg (by omega), h, if_pos hE]
  unfold unqB
  rw [h1, if_neg hE]
theorem unqQ_of (hn : unqN l = ([c, lf, s, kd, im, wh, n], R)) (ht : unqT l = (t, E)) : unqQ l = ⟨c, lf, s, kd, im, wh, n, t⟩ := by
  unfold unqQ
  rw [hn, ht]
  rfl
theorem unqB_yes (h0 : (opnB l 1).2 = 0) (hn : unqN l = ([c, lf, s, kd, im, wh, n], R)) (ht : unqT l = (t, 0)) (hm : mayQ ⟨c, lf, s, kd, im, wh, n, t⟩ = true) : unqB l = (⟨c, lf, s, kd, im, wh, n, t⟩, 0) := by
  have h1 : unqE l = 0 := by
    unfold unqE
    rw [if_neg (by omega), ht, if_neg (fun h => h rfl), unqQ_of hn ht, if_pos hm]
  unfold unqB
  rw [h1, if_pos rfl, unqQ_of hn ht]
theorem unqB_no (h0 : (opnB l 1).2 = 0) (hn : unqN l = ([c, lf, s, kd, im, wh, n], R)) (ht : unqT l = (t, 0)) (hm : mayQ ⟨c, lf, s, kd, im, wh, n, t⟩ = false) : unqB l = (RqD.none, 11) := by
  have h1 : unqE l = 11 := by
    unfold unqE
    rw [if_neg (by omega), ht, if_neg (fun h => h rfl), unqQ_of hn ht, hm]
    rfl
  unfold unqB
  rw [h1, if_neg (by decide)]
end
theorem next_len (l : List UInt8) : (nextB l).body.length ≤ 8192 ∧ (nextB l).e < 1000 := by
  unfold nextB
  repeat' split
  all_goals first
    | exact ⟨by decide, by decide⟩
    | (refine ⟨?_, Nat.zero_lt_succ _⟩
       simp only [List.length_take]
       omega)
theorem opnB_len (l : List UInt8) (k : Nat) : (opnB l k).1.length ≤ 8192 ∧ (opnB l k).2 < 1000 := by
  have h := next_len l
  unfold opnB
  repeat' split
  · exact ⟨Nat.zero_le _, h.2⟩
  · exact ⟨Nat.zero_le _, (by show (11 : Nat) < 1000; decide)⟩
  · exact ⟨h.1, Nat.zero_lt_succ _⟩
end Go.Proofs.YtlgefkaafoidmaaGreatDoor
namespace Go.Proofs.YtlgefkaafoidmaaGreatDoor
open Go.RowKit

/-! The order of texts -/
theorem bl_irrefl : ∀ a : List UInt8, Op.bytesLess a a = false
  | [] => rfl
  | a :: l => by simp [Op.bytesLess, bl_irrefl l]
theorem bl_trans : ∀ a b c : List UInt8, Op.bytesLess a b = true → Op.bytesLess b c = true → Op.bytesLess a c = true
  | _, [], _, h, _ => by cases ‹List UInt8› <;> simp [Op.bytesLess] at h
  | _, _ :: _, [], _, h => by simp [Op.bytesLess] at h
  | [], _ :: _, _ :: _, _, _ => rfl
  | a :: x, b :: y, c :: z, h, k => by
    simp only [Op.bytesLess, Bool.or_eq_true, decide_eq_true_eq, Bool.and_eq_true, beq_iff_eq] at h k ⊢
    rcases h with h | ⟨rfl, h⟩
    · rcases k with k | ⟨rfl, k⟩
      · exact .inl (UInt8.lt_trans h k)
      · exact .inl h
    · rcases k with k | ⟨rfl, k⟩
      · exact .inl k
      · exact .inr ⟨rfl, bl_trans _ _ _ h k⟩
theorem bl_tri : ∀ a b : List UInt8, Op.bytesLess a b = false → Op.bytesLess b a = false → a = b
  | [], [], _, _ => rfl
  | [], _ :: _, h, _ => by simp [Op.bytesLess] at h
  | _ :: _, [], _, h => by simp [Op.bytesLess] at h
  | a :: x, b :: y, h, k => by
    simp only [Op.bytesLess, Bool.or_eq_false_iff, decide_eq_false_iff_not, Bool.and_eq_false_iff] at h k
    have e : a = b := UInt8.le_antisymm (UInt8.not_lt.1 k.1) (UInt8.not_lt.1 h.1)
    subst e
    rw [bl_tri x y (by simpa using h.2) (by simpa using k.2)]
theorem cmp_less : ∀ a b : List UInt8, Lib.compareBytes a b = if Op.bytesLess a b = true then -1 else if a = b then 0 else 1
  | [], [] => rfl
  | [], _ :: _ => rfl
  | _ :: _, [] => rfl
  | a :: x, b :: y => by
    rw [Lib.compareBytes]
    by_cases h : a < b
    · simp [Op.bytesLess, h]
    · by_cases k : b < a
      · have : a ≠ b := fun e => by subst e; exact h k
        simp [Op.bytesLess, h, k, this]
      · have e : a = b := UInt8.le_antisymm (UInt8.not_lt.1 k) (UInt8.not_lt.1 h)
        subst e
        rw [if_neg h, if_neg k, cmp_less x y]
        simp [Op.bytesLess, h]
def ltS (a b : ByteArray) : Bool := Op.bytesLess a.toList b.toList
theorem ltS_irrefl (a : ByteArray) : ltS a a = false := bl_irrefl _
theorem ltS_trans {a b c : ByteArray} (h : ltS a b = true) (k : ltS b c = true) : ltS a c = true := bl_trans _ _ _ h k
theorem ba_ext {a b : ByteArray} (h : a.toList = b.toList) : a = b := by
  rw [Lib.toList_data, Lib.toList_data] at h
  exact ByteArray.ext (Array.toList_inj.1 h)
theorem ltS_tri {a b : ByteArray} (h : ltS a b = false) (k : ltS b a = false) : a = b := ba_ext (bl_tri _ _ h k)
def cmpS (a b : ByteArray) : Int := Lib.compareBytes a.data.toList b.data.toList
theorem cmpS_lt (a b : ByteArray) : decide (cmpS a b < 0) = ltS a b := by
  unfold cmpS ltS
  rw [cmp_less, Lib.toList_data, Lib.toList_data]
  cases Op.bytesLess a.data.toList b.data.toList with
  | true => simp
  | false => by_cases h : a.data.toList = b.data.toList <;> simp [h]
theorem cmpS_eq (a b : ByteArray) : decide (cmpS a b = 0) = decide (a = b) := by
  unfold cmpS
  rw [cmp_less]
  by_cases h : a.data.toList = b.data.toList
  · have e : a = b := ByteArray.ext (Array.toList_inj.1 h)
    subst e
    simp [bl_irrefl]
  · have e : a ≠ b := fun e => h (by rw [e])
    cases Op.bytesLess a.data.toList b.data.toList <;> simp [h, e]

/-! What may be -/
def keyB (k : KyD) : Bool := nameB k.name && decide (k.value.length ≤ 2048)
def ordB (ks : List KyD) : Nat → Bool
  | 0 => true
  | i + 1 => match ks[i]?, ks[i + 1]? with
    | some a, some b => ltS a.name b.name
    | _, _ => true
def chkAt (ks : List KyD) (i : Nat) : Bool := match ks[i]? with
  | none => true
  | some k => keyB k && ordB ks i
def chkTo (ks : List KyD) : Nat → Bool
  | 0 => true
  | k + 1 => chkTo ks k && chkAt ks k
def headB (o : ObD) : Bool := decide ((o.data.length : Int) ≤ 64) && decide ((o.keys.length : Int) ≤ 120) && decide (0 ≤ o.seq) && decide (o.seq ≤ 1099511627776)
def mayB (o : ObD) : Bool := headB o && chkTo o.keys o.keys.length

theorem chkTo_at {ks : List KyD} {n : Nat} (h : chkTo ks n = true) : ∀ i, i < n → chkAt ks i = true := by
  induction n with
  | zero => intro i hi; omega
  | succ n ih =>
    intro i hi
    simp only [chkTo, Bool.and_eq_true] at h
    by_cases e : i = n
    · subst e; exact h.2
    · exact ih h.1 i (by omega)
theorem chkTo_of {ks : List KyD} {n : Nat} (h : ∀ i, i < n → chkAt ks i = true) : chkTo ks n = true := by
  induction n with
  | zero => rfl
  | succ n ih => simp [chkTo, ih fun i hi => h i (by omega), h n (by omega)]
/-- what may be: its parts -/
structure Fine (ks : List KyD) : Prop where
  key : ∀ (i : Nat) k, ks[i]? = some k → nameB k.name = true ∧ k.value.length ≤ 2048
  up : ∀ (i j : Nat) a b, i < j → ks[i]? = some a → ks[j]? = some b → ltS a.name b.name = true
theorem fine_of {ks : List KyD} (h : chkTo ks ks.length = true) : Fine ks := by
  have hk : ∀ (i : Nat) k, ks[i]? = some k → keyB k = true ∧ ordB ks i = true := fun i k hi => by
    have h1 := chkTo_at h i (List.getElem?_eq_some_iff.1 hi).1
    simpa [chkAt, hi] using h1
  refine ⟨fun i k hi => by simpa [keyB] using (hk i k hi).1, ?_⟩
  have hs : ∀ (d i : Nat) a b, ks[i]? = some a → ks[i + d + 1]? = some b → ltS a.name b.name = true := by
    intro d
    induction d with
    | zero =>
      intro i a b ha hb
      have := (hk _ b hb).2
      simpa [ordB, ha, hb] using this
    | succ d ih =>
      intro i a b ha hb
      have hlt : i + d + 1 < ks.length := by
        have := (List.getElem?_eq_some_iff.1 hb).1
        omega
      have hc : ks[i + d + 1]? = some ks[i + d + 1] := by simp [hlt]
      have h2 : ltS (ks[i + d + 1]).name b.name = true := by
        have := (hk _ b hb).2
        have e : i + (d + 1) + 1 = (i + d + 1) + 1 := by omega
        rw [e] at hb this
        simpa [ordB, hc, hb] using this
      exact ltS_trans (ih i a _ ha hc) h2
  intro i j a b hij ha hb
  obtain ⟨d, rfl⟩ : ∃ d, j = i + d + 1 := ⟨j - i - 1, by omega⟩
  exact hs d i a b ha hb
theorem fine_to {ks : List KyD} (h : Fine ks) : chkTo ks ks.length = true := by
  refine chkTo_of fun i hi => ?_
  have hi' : ks[i]? = some ks[i] := by simp [hi]
  have h1 := h.key i _ hi'
  simp only [chkAt, hi', Bool.and_eq_true]
  refine ⟨by simp [keyB, h1.1, h1.2], ?_⟩
  cases i with
  | zero => rfl
  | succ i => 
    have ha : ks[i]? = some ks[i] := List.getElem?_eq_getElem (by omega)
    simp only [ordB, ha, hi']
    exact h.up i (i + 1) _ _ (by omega) ha hi'
theorem mayB_iff (o : ObD) : mayB o = true ↔ o.data.length ≤ 64 ∧ o.keys.length ≤ 120 ∧ 0 ≤ o.seq ∧ o.seq ≤ 1099511627776 ∧ Fine o.keys := by
  unfold mayB headB
  simp only [Bool.and_eq_true, decide_eq_true_eq]
  constructor
  · rintro ⟨⟨⟨⟨h1, h2⟩, h3⟩, h4⟩, h5⟩; exact ⟨by omega, by omega, h3, h4, fine_of h5⟩
  · rintro ⟨h1, h2, h3, h4, h5⟩; exact ⟨⟨⟨⟨by omega, by omega⟩, h3⟩, h4⟩, fine_to h5⟩

/-! What is read -/
def getD (ks : List KyD) (nm : ByteArray) : Option (List UInt8) := (ks.find? fun k => decide (k.name = nm)).map (·.value)
def hasK (ks : List KyD) (nm : ByteArray) : Bool := ks.any fun k => decide (k.name = nm)
/-- the key begins as nm does, and is not ahead of it -/
def fromB (nm : ByteArray) (k : KyD) : Bool := !ltS k.name nm && !decide (nm.size = 0) && !decide (k.name.size = 0) && (k.name.data[0]? == nm.data[0]?)
def atD (o : ObD) (nm : ByteArray) : List UInt8 := match o.keys.find? (fromB nm) with
  | some k => k.value
  | none => o.data
def spotB (off n : Int) : Bool := decide (0 ≤ off) && decide (0 ≤ n) && decide (off ≤ 64) && decide (n ≤ 64) && decide (off + n ≤ 64)
/-- n bytes from off on, with noughts behind -/
def padD (d : List UInt8) (off n : Nat) : List UInt8 := (d.drop off).take n ++ List.replicate (n - (d.length - off)) 0
def readD (o : ObD) (off n : Int) : List UInt8 := if spotB off n then padD o.data off.toNat n.toNat else []

/-! What an op does -/
/-- how many keys stand ahead of a name -/
def posK (ks : List KyD) (nm : ByteArray) : Nat := (ks.takeWhile fun k => ltS k.name nm).length
def putK (ks : List KyD) (nm : ByteArray) (v : List UInt8) : List KyD := ks.takeWhile (fun k => ltS k.name nm) ++ ⟨nm, v⟩ :: (ks.dropWhile fun k => ltS k.name nm).filter fun k => !decide (k.name = nm)
def dropK (ks : List KyD) (nm : ByteArray) : List KyD := ks.filter fun k => !decide (k.name = nm)
def writeD (d : List UInt8) (off : Nat) (x : List UInt8) : List UInt8 := (d ++ List.replicate (off + x.length - d.length) 0).take off ++ x ++ d.drop (off + x.length)
def zeroD (d : List UInt8) (off n : Nat) : List UInt8 := d.take off ++ List.replicate (min (off + n) d.length - off) 0 ++ d.drop (off + n)
def keyOp (o : ObD) (nm : ByteArray) (v : List UInt8) : Option ObD := if nameB nm && decide (v.length ≤ 2048) && (hasK o.keys nm || decide (o.keys.length < 120)) then some { o with keys := putK o.keys nm v } else none
def changeB (o : ObD) (op : OpD) : Option ObD :=
  if op.kind = 5 then (if spotB op.off op.data.length then some { o with data := writeD o.data op.off.toNat op.data } else none)
  else if op.kind = 6 then (if spotB op.off op.n then some { o with data := zeroD o.data op.off.toNat op.n.toNat } else none)
  else if op.kind = 7 then (if spotB 0 op.n then some { o with data := o.data.take op.n.toNat } else none)
  else if op.kind = 8 then (if op.data.length ≤ 64 then some { o with data := op.data } else none)
  else if op.kind = 9 then keyOp o op.name op.data
  else if op.kind = 10 then some { o with keys := dropK o.keys op.name }
  else if op.kind = 11 then (if (o.keys.any (fromB op.name)) then some o else keyOp o op.name o.data)
  else if op.kind = 12 then (if 0 ≤ op.n ∧ op.n ≤ 1099511627776 then some { o with seq := op.n } else none)
  else if op.kind = 14 then (if (atD o op.name).length ≤ 64 then some { o with data := atD o op.name } else none)
  else some o
/-- a guard's error (0: none), and whether it goes on -/
def guardB (o : ObD) (th : Bool) (op : OpD) : Int × Bool :=
  if op.kind = 1 then (if th then (0, true) else (90, false))
  else if op.kind = 2 then (if th then (91, false) else (0, true))
  else if op.kind = 3 then (if getD o.keys op.name = some op.data then (0, true) else (92, false))
  else if op.kind = 4 then (0, decide (o.seq < op.n))
  else (0, true)
def thereB (th : Bool) (kind : Int) : Bool := if kind = 5 ∨ kind = 8 ∨ kind = 9 ∨ kind = 11 ∨ kind = 12 then true else if kind = 13 then false else th
structure DoR where
  o : ObD
  there : Bool
  on : Bool
  e : Int
def DoR.no (e : Int) : DoR := ⟨ObD.none, false, false, e⟩
def doB (o : ObD) (th : Bool) (op : OpD) : DoR :=
  if mayB o && decide (1 ≤ op.kind) && decide (op.kind ≤ 14) then
    let o1 := if th then o else ObD.none
    let g := guardB o1 th op
    if g.1 = 0 then
      match changeB o1 op with
      | none => DoR.no 2
      | some o2 => ⟨if thereB th op.kind then o2 else ObD.none, thereB th op.kind, g.2, 0⟩
    else DoR.no g.1
  else DoR.no 1
end Go.Proofs.YtlgefkaafoidmaaGreatDoor
