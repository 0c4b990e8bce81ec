/- The walks of wire.Reader's Num, Blob, Left, Err, End; wire.Read. The walks of txn.right and txn.Check. Bytes unpacked into a transaction, plainly. No program is named. -/
import Derived.Test.YtlekdfajcpmolaaGreatDoorRdr
import Derived.Test.YtlekdfajcpmolaaGreatDoorGAC
import Derived.Test.YtlekdfajcpmolaaGreatDoorGAE
namespace Go.Proofs.YtlekdfajcpmolaaGreatDoor
open Go.RowKit Go.WideShapes

/-- what a method that takes a number leaves -/
def NumP (A : Nat → Prop) (p : Nat) (w : World) (x : Nat × Rd) (e : Ending) (w' : World) : Prop :=
  e = .returned (.int .i64 (x.1 : Nat)) ∧ IsRd A w' p x.2 ∧ Fr (fun k => k = p) w w'
theorem nb_take_succ (t : List UInt8) (k : Nat) (h : k < t.length) : nb (t.take (k + 1)) = nb (t.take k) * 256 + t[k].toNat := by
  rw [List.take_succ_eq_append_getElem h, nb_snoc]
set_option maxRecDepth 100000 in
set_option maxHeartbeats 1600000 in
theorem rnum_any (A : Nat → Prop) (p W : Nat) (r : Rd) (w : World) (h : IsRd A w p r) (h1 : 1 ≤ W) (h7 : W ≤ 7) (hl : r.l.length ≤ 100000) (he : r.e < 1000) :
    Calls Tryz.prog 113 #[.pointer (some ⟨p, 0, none⟩), .int .i64 W] w (NumP A p w (r.num W)) := by
  have HH := Lib.hid h
  have hpl := h.lt
  have HT : Hid (r.num W = (nb (r.take W).1, (r.take W).2)) := rfl
  have ht : (r.take W).1.length ≤ 7 := Nat.le_trans (Rd.take_len r W).2.1 h7
  clear h
  go_enter Tryz.func113, Tryz.ntmps113
  go_wp2_with fail
  refine (wide_any W h1 h7 _).mono ?_
  rintro e w1 ⟨rfl, rfl⟩
  go_wp2_with fail
  refine (take_any A p W r _ HH.out (by omega) hl he).mono ?_
  rintro e w2 ⟨v, rfl, hv, hr, hf⟩
  have HR := Lib.hid hr
  have HF := Lib.hid hf
  clear hr hf
  generalize r.take W = t at *
  obtain ⟨t, r2⟩ := t
  simp only at hv HR ht HT
  obtain ⟨a, c, rfl⟩ := hv.shape
  have HV := Lib.hid hv
  clear hv
  go_wp2
  go_loop [5, 15] (fun n q => ∃ k : Nat, k ≤ t.length ∧ q = .int .i64 k ∧ n = .int .i64 (nb (t.take k) : Nat)) (fun _ q => t.length - (intOf q).toNat)
  case atStart => exact ⟨0, by omega, rfl, rfl⟩
  case round =>
    obtain ⟨k, hk, rfl, rfl⟩ := hrel
    by_cases hlt : k < t.length
    · obtain ⟨b, off, rfl, hbl, -, hc⟩ := HV.out.cell hlt
      have HS := Lib.hid (nb_take_succ t k hlt)
      have hnb := nb_lt (t.take k)
      have hp : 256 ^ (t.take k).length ≤ 256 ^ 6 := Nat.pow_le_pow_right (by decide) (by simp; omega)
      have hnb2 : nb (t.take k) < 281474976710656 := Nat.lt_of_lt_of_le hnb hp
      have hb := (t[k]).toNat_lt
      have ho := or_byte (nb (t.take k)) (t[k]).toNat hb (by omega)
      have HO : Hid (((nb (t.take k) * 256 + (t[k]).toNat : Nat) : Int) = (nb (t.take (k + 1)) : Nat)) := by
        show _ = _
        rw [HS.out]
      generalize nb (t.take k) * 256 + (t[k]).toNat = S at *
      generalize nb (t.take k) = N at *
      generalize (t[k]).toNat = B at *
      clear hnb hp
      go_wp2
      go_round
      case rel => exact ⟨k + 1, by omega, by go_num, by rw [HO.out]⟩
      case measure => simp [intOf]; omega
    · obtain rfl : k = t.length := by omega
      go_wp2
      go_ret
      rw [HT.out]
      exact ⟨rfl, HR.out, HF.out⟩
set_option maxRecDepth 100000 in
set_option maxHeartbeats 1600000 in
theorem rblob_any (A : Nat → Prop) (p m : Nat) (r : Rd) (w : World) (h : IsRd A w p r) (hm : m ≤ 10000) (hl : r.l.length ≤ 100000) (he : r.e < 1000) (he2 : (r.num 2).2.e < 1000) :
    Calls Tryz.prog 172 #[.pointer (some ⟨p, 0, none⟩), .int .i64 m] w (TakeP A p w (r.blob m)) := by
  have HH := Lib.hid h
  have hpl := h.lt
  have hk := Rd.num_lt r 2
  have hl2 := Rd.num_len r 2
  have hbl : r.blob m = if m < (r.num 2).1 then ([], (r.num 2).2.fail 11) else (r.num 2).2.take (r.num 2).1 := rfl
  have HBL0 := Lib.hid hbl
  have hmx : max (m : Int) 0 = m := by omega
  clear h hbl
  go_enter Tryz.func172, Tryz.ntmps172
  go_wp2_with fail
  refine (rnum_any A p 2 r _ HH.out (by omega) (by omega) hl he).mono ?_
  rintro e w1 ⟨rfl, hr, hf⟩
  have HR := Lib.hid hr
  have HF := Lib.hid hf
  clear hr hf
  generalize r.num 2 = t at *
  obtain ⟨n, r2⟩ := t
  simp only at HR hk hl2 HBL0 he2
  have HBL : Hid (r.blob m = if m < n then ([], r2.fail 11) else r2.take n) := HBL0
  clear HBL0
  have hs1 := HF.out.size
  by_cases hlt : m < n
  · have HB2 := Lib.hid (HBL.out.trans (if_pos hlt))
    clear HBL
    go_wp2_with fail
    refine (fail_any A p r2 11 _ HR.out (by omega) he2).mono ?_
    rintro e w2 ⟨rfl, hr, hf⟩
    have HR2 := Lib.hid hr
    have HF2 := Lib.hid hf
    clear hr hf
    have hz : Hid ((r2.fail 11).take n = ([], r2.fail 11)) := by
      show _ = _
      unfold Rd.take
      rw [if_pos]
      unfold Rd.fail
      split
      · decide
      · rename_i hh
        intro h0
        exact hh ⟨h0, by decide⟩
    have he3 : (r2.fail 11).e < 1000 := by
      unfold Rd.fail
      split
      · decide
      · exact he2
    have hl3 := Rd.fail_len r2 11
    go_wp2_with fail
    refine (take_any A p n (r2.fail 11) _ HR2.out (by omega) (by omega) he3).mono ?_
    rintro e w3 ⟨v, rfl, hv, hr, hf⟩
    have HR3 := Lib.hid hr
    have HF3 := Lib.hid hf
    have HV := Lib.hid hv
    clear hr hf hv
    go_wp2
    go_ret
    rw [HB2.out]
    have h1 := HR3.out
    have h2 := HV.out
    rw [hz.out] at h1 h2
    exact ⟨_, rfl, SlA.weak h2 fun b hb => Nat.le_trans hs1 (Nat.le_trans HF2.out.size hb), h1, (HF.out.trans HF2.out fun _ _ h => h).trans HF3.out fun _ _ h => h⟩
  · have HB2 := Lib.hid (HBL.out.trans (if_neg hlt))
    clear HBL
    go_wp2_with fail
    refine (take_any A p n r2 _ HR.out (by omega) (by omega) he2).mono ?_
    rintro e w3 ⟨v, rfl, hv, hr, hf⟩
    have HR3 := Lib.hid hr
    have HF3 := Lib.hid hf
    have HV := Lib.hid hv
    clear hr hf hv
    go_wp2
    go_ret
    rw [HB2.out]
    exact ⟨_, rfl, SlA.weak HV.out fun b hb => Nat.le_trans hs1 hb, HR3.out, HF.out.trans HF3.out fun _ _ h => h⟩

set_option maxRecDepth 100000 in
theorem left_any (A : Nat → Prop) (p : Nat) (r : Rd) (w : World) (h : IsRd A w p r) :
    Calls Tryz.prog 174 #[.pointer (some ⟨p, 0, none⟩)] w fun e w' => e = .returned (.int .i64 (r.l.length : Nat)) ∧ w = w' := by
  obtain ⟨v, hb, hv⟩ := h.ex
  obtain ⟨a, c, rfl⟩ := hv.shape
  obtain ⟨c0, f0⟩ := blk_cell (i := 0) hb
  simp at c0
  clear h hv hb
  go_enter Tryz.func174, Tryz.ntmps174
  go_wp2
  go_ret
  exact ⟨rfl, rfl⟩
set_option maxRecDepth 100000 in
theorem err_any (A : Nat → Prop) (p : Nat) (r : Rd) (w : World) (h : IsRd A w p r) :
    Calls Tryz.prog 116 #[.pointer (some ⟨p, 0, none⟩)] w fun e w' => e = .returned (.int .i64 (r.e : Nat)) ∧ w = w' := by
  obtain ⟨v, hb, hv⟩ := h.ex
  obtain ⟨c1, f1⟩ := blk_cell (i := 1) hb
  simp at c1
  clear h hv hb
  go_enter Tryz.func116, Tryz.ntmps116
  go_wp2
  go_ret
  exact ⟨rfl, rfl⟩
set_option maxRecDepth 100000 in
set_option maxHeartbeats 800000 in
theorem end_any (A : Nat → Prop) (p : Nat) (r : Rd) (w : World) (h : IsRd A w p r) (hl : r.l.length ≤ 100000) (he : r.e < 1000) :
    Calls Tryz.prog 117 #[.pointer (some ⟨p, 0, none⟩)] w fun e w' => e = .returned (.int .i64 (r.fin.e : Nat)) ∧ IsRd A w' p r.fin ∧ Fr (fun k => k = p) w w' := by
  have HH := Lib.hid h
  clear h
  go_enter Tryz.func117, Tryz.ntmps117
  go_wp2_with fail
  refine (left_any A p r _ HH.out).mono ?_
  rintro e w1 ⟨rfl, rfl⟩
  rcases Nat.eq_zero_or_pos r.l.length with h0 | h0
  · have HF : Hid (r.fin = r) := if_neg (by omega)
    have hle : (r.l.length : Int) ≤ 0 := by omega
    clear h0
    go_wp2_with fail
    refine (err_any A p r _ HH.out).mono ?_
    rintro e w1 ⟨rfl, rfl⟩
    go_wp2
    go_ret
    rw [HF.out]
    exact ⟨rfl, HH.out, Fr.refl _ _⟩
  · have HF : Hid (r.fin = r.fail 11) := if_pos h0
    go_wp2_with fail
    refine (fail_any A p r 11 _ HH.out (by omega) he).mono ?_
    rintro e w2 ⟨rfl, hr, hf⟩
    have HR := Lib.hid hr
    have HFR := Lib.hid hf
    clear hr hf
    go_wp2_with fail
    refine (err_any A p _ _ HR.out).mono ?_
    rintro e w1 ⟨rfl, rfl⟩
    go_wp2
    go_ret
    rw [HF.out]
    exact ⟨rfl, HR.out, HFR.out⟩
set_option maxRecDepth 100000 in
theorem read_any (A : Nat → Prop) (v : Value) (l : List UInt8) (w : World) (hv : RB A w v l) (hl : l.length ≤ 100000) :
    Calls Tryz.prog 112 #[v] w fun e w' => ∃ p, e = .returned (.pointer (some ⟨p, 0, none⟩)) ∧ IsRd (fun b => w.heap.size ≤ b ∧ b < p) w' p ⟨l, 0⟩ ∧ w.heap.size ≤ p ∧ Below w.heap.size w w' := by
  have HV := Lib.hid hv
  clear hv
  go_enter Tryz.func112, Tryz.ntmps112
  go_wp2_with fail
  refine (cloneB_any A _ l _ (by omega) HV.out).mono ?_
  rintro e w1 ⟨v1, rfl, ho, hb1⟩
  obtain ⟨a, c, rfl⟩ := ho.rb.shape
  have HO := Lib.hid ho
  have hs1 := hb1.size
  clear ho
  go_wp2
  go_ret
  refine ⟨w1.heap.size, rfl, ⟨⟨.slice a l.length c, heap_alloc_new _ _, ?_⟩, by omega⟩, hs1, hb1.alloc hs1 _⟩
  refine SlA.weak (RB.ext (SlA.cut HO.out.rb) ((Below.refl _ _).alloc (Nat.le_refl _) _)) fun b hb => hb
end Go.Proofs.YtlekdfajcpmolaaGreatDoor
namespace Go.Proofs.YtlekdfajcpmolaaGreatDoor
open Go.RowKit Go.WideShapes

def opP (o : OpD) : Prop := 1 ≤ o.kind ∧ o.kind ≤ 14 ∧ 0 ≤ o.off ∧ o.off ≤ 1099511627776 ∧ 0 ≤ o.n ∧ o.n ≤ 1099511627776 ∧ (o.name.size : Int) ≤ 12 ∧ (o.data.length : Int) ≤ 2048
instance (o : OpD) : Decidable (opP o) := by unfold opP; infer_instance
def opB (o : OpD) : Bool := decide (opP o)
/-- what Check tells of a transaction -/
def txE (t : TxD) : Int := if 12 < t.ops.length then 2 else if nameB t.obj && t.ops.all opB then 0 else 1
end Go.Proofs.YtlekdfajcpmolaaGreatDoor
namespace Go.Proofs.YtlekdfajcpmolaaGreatDoor
open Go.RowKit

def unpOp (r : Rd) : OpD × Rd :=
  (⟨(r.num 1).1, ((r.num 1).2.num 6).1, (((r.num 1).2.num 6).2.num 6).1, ⟨((((r.num 1).2.num 6).2.num 6).2.blob 12).1.toArray⟩, (((((r.num 1).2.num 6).2.num 6).2.blob 12).2.blob 2048).1⟩,
    (((((r.num 1).2.num 6).2.num 6).2.blob 12).2.blob 2048).2)
def unpOps : Nat → Rd → List OpD × Rd
  | 0, r => ([], r)
  | n + 1, r => if r.e = 0 then ((unpOp r).1 :: (unpOps n (unpOp r).2).1, (unpOps n (unpOp r).2).2) else ([], r)
def unpHead (l : List UInt8) : List UInt8 × Rd := (⟨l, 0⟩ : Rd).blob 12
def unpN (l : List UInt8) : Nat × Rd := (unpHead l).2.num 1
def unpC (l : List UInt8) : Rd := if 12 < (unpN l).1 then (unpN l).2.fail 11 else (unpN l).2
def unpY (l : List UInt8) : List OpD × Rd := unpOps (unpN l).1 (unpC l)
def unpT (l : List UInt8) : TxD := ⟨⟨(unpHead l).1.toArray⟩, (unpY l).1⟩
def unpE (l : List UInt8) : Int := if (unpY l).2.fin.e = 0 then txE (unpT l) else (unpY l).2.fin.e
/-- a transaction of bytes, or its error -/
def txUn (l : List UInt8) : TxD × Int := if unpE l = 0 then (unpT l, 0) else (⟨ByteArray.empty, []⟩, unpE l)
/-- where a reader stands: what it has yet is short, its error is small -/
structure Rd.small (r : Rd) : Prop where
  len : r.l.length ≤ 100000
  err : r.e < 1000
theorem Rd.small.take {r : Rd} (h : r.small) (n : Nat) : (r.take n).2.small := by
  refine ⟨Nat.le_trans (Rd.take_len r n).2.2 h.len, ?_⟩
  unfold Rd.take
  split
  · exact h.err
  · split
    · decide
    · exact (by decide : (0 : Nat) < 1000)
theorem Rd.small.num {r : Rd} (h : r.small) (w : Nat) : (r.num w).2.small := h.take w
theorem Rd.small.fail {r : Rd} (h : r.small) {x : Nat} (hx : x < 1000) : (r.fail x).small := by
  refine ⟨Nat.le_trans (Rd.fail_len r x) h.len, ?_⟩
  unfold Rd.fail
  split
  · exact hx
  · exact h.err
theorem Rd.small.blob {r : Rd} (h : r.small) (m : Nat) : (r.blob m).2.small := by
  unfold Rd.blob
  split
  · exact (h.num 2).fail (by decide)
  · exact (h.num 2).take _
theorem Rd.small.fin {r : Rd} (h : r.small) : r.fin.small := by
  unfold Rd.fin
  split
  · exact h.fail (by decide)
  · exact h
end Go.Proofs.YtlekdfajcpmolaaGreatDoor
