/- The walks of object.Get, object.from, object.At: the first key that meets something. The walks of object.from, object.At, object.spot, object.Read. Rows of bytes: their cells; rows made by make; what a copy leaves. The walk of object.Read. -/
import Derived.Test.YtohfckkgmijlnaaGreatDoorPB
import Derived.Laws.CopyRow
import Derived.Test.YtohfckkgmijlnaaGreatDoorPA
import Derived.Laws.CopyOwn
import Derived.Laws.MakeOwn
namespace Go.Proofs.YtohfckkgmijlnaaGreatDoor
open Go.RowKit Go.WideShapes

theorem eqL (a b : ByteArray) : (a.toList == b.toList) = decide (a = b) := by
  rw [Bool.eq_iff_iff, beq_iff_eq, decide_eq_true_eq]
  exact ⟨ba_ext, fun e => by rw [e]⟩
theorem get1_any (kn nm : ByteArray) (va : Value) (p : Addr) (w : World) (hp : w.cell? p = some (.string nm)) (_h1 : va.oneCell' = true) :
    Calls Tryz.prog 106 #[.agg #[.string kn, va], .pointer (some p)] w fun e w' => e = .returned (.bool (decide (kn = nm))) ∧ Below w.heap.size w w' := by
  have hlt := World.block_lt_of_cell? w p hp
  have hp2 : (w.alloc (.cells #[.string kn, va] 62)).cell? p = some (.string nm) := cellExt ((Below.refl _ w).alloc (Nat.le_refl _) _) hp
  clear hp
  go_enter Tryz.func106, Tryz.ntmps106
  go_wp2
  go_ret
  exact ⟨ret_bool (eqL kn nm), by ((repeat' (first | exact Below.refl _ _ | refine below_drewN ?_ _ | refine Below.drew ?_ | refine Below.alloc ?_ ?_ _ | refine Below.trans ?_ (Below.mono (by assumption) ?_))); all_goals (first | exact Nat.le_refl _ | exact Below.size (by assumption) | omega | (simp; done) | (simp; omega)))⟩
theorem e0 (s : ByteArray) : s.size = 0 ↔ s.toList = [] := by
  rw [Lib.toList_data, ← List.length_eq_zero_iff]
  exact Iff.rfl
theorem b0_at {s : ByteArray} (h : 0 < s.size) : s.data[0]? = some s[0] := Array.getElem?_eq_getElem (xs := s.data) h
theorem fromB_of {nm : ByteArray} {k : KyD} : fromB nm k = (!ltS k.name nm && !decide (nm.size = 0) && !decide (k.name.size = 0) && (k.name.data[0]? == nm.data[0]?)) := rfl
set_option maxHeartbeats 1600000 in
theorem from1_any (k : KyD) (nm : ByteArray) (va : Value) (p : Addr) (w : World) (hp : w.cell? p = some (.string nm)) (_h1 : va.oneCell' = true) :
    Calls Tryz.prog 112 #[.agg #[.string k.name, va], .pointer (some p)] w fun e w' => e = .returned (.bool (fromB nm k)) ∧ Below w.heap.size w w' := by
  have hlt := World.block_lt_of_cell? w p hp
  have hp2 : (w.alloc (.cells #[.string k.name, va] 62)).cell? p = some (.string nm) := cellExt ((Below.refl _ w).alloc (Nat.le_refl _) _) hp
  clear hp
  have HF : Hid (fromB nm k = _) := fromB_of
  obtain ⟨kn, kv⟩ := k
  simp only at *
  cases h1 : Op.bytesLess kn.toList nm.toList with
  | true =>
    have HX : Hid (fromB nm ⟨kn, kv⟩ = false) := by show fromB _ _ = false; simp [fromB, ltS, h1]
    go_enter Tryz.func112, Tryz.ntmps112
    go_wp2
    go_quiet (fail)
    go_wp2
    go_ret
    exact ⟨ret_bool HX.out.symm, by ((repeat' (first | exact Below.refl _ _ | refine below_drewN ?_ _ | refine Below.drew ?_ | refine Below.alloc ?_ ?_ _ | refine Below.trans ?_ (Below.mono (by assumption) ?_))); all_goals (first | exact Nat.le_refl _ | exact Below.size (by assumption) | omega | (simp; done) | (simp; omega)))⟩
  | false =>
    by_cases h2 : nm.toList = []
    · have HX : Hid (fromB nm ⟨kn, kv⟩ = false) := by show fromB _ _ = false; simp [fromB, (e0 nm).2 h2]
      have h2b : (!nm.toList.isEmpty) = false := by simp [h2]
      have h2c : (nm.toList != []) = false := by simp [h2]
      clear h2
      go_enter Tryz.func112, Tryz.ntmps112
      go_wp2
      go_quiet (fail)
      go_wp2
      go_ret
      exact ⟨ret_bool HX.out.symm, by ((repeat' (first | exact Below.refl _ _ | refine below_drewN ?_ _ | refine Below.drew ?_ | refine Below.alloc ?_ ?_ _ | refine Below.trans ?_ (Below.mono (by assumption) ?_))); all_goals (first | exact Nat.le_refl _ | exact Below.size (by assumption) | omega | (simp; done) | (simp; omega)))⟩
    · have h2b : (!nm.toList.isEmpty) = true := by simp [h2]
      have h2c : (nm.toList != []) = true := by simp [h2]
      have n2 : nm.size ≠ 0 := fun e => h2 ((e0 nm).1 e)
      by_cases h3 : kn.toList = []
      · have HX : Hid (fromB nm ⟨kn, kv⟩ = false) := by show fromB _ _ = false; simp [fromB, (e0 kn).2 h3]
        have h3b : (!kn.toList.isEmpty) = false := by simp [h3]
        have h3c : (kn.toList != []) = false := by simp [h3]
        clear h3
        have HN2 := Lib.hid n2
        clear n2
        go_enter Tryz.func112, Tryz.ntmps112
        go_wp2
        go_quiet (fail)
        go_wp2
        go_ret
        exact ⟨ret_bool HX.out.symm, by ((repeat' (first | exact Below.refl _ _ | refine below_drewN ?_ _ | refine Below.drew ?_ | refine Below.alloc ?_ ?_ _ | refine Below.trans ?_ (Below.mono (by assumption) ?_))); all_goals (first | exact Nat.le_refl _ | exact Below.size (by assumption) | omega | (simp; done) | (simp; omega)))⟩
      · have h3b : (!kn.toList.isEmpty) = true := by simp [h3]
        have h3c : (kn.toList != []) = true := by simp [h3]
        have n3 : 0 < kn.size := Nat.pos_of_ne_zero fun e => h3 ((e0 kn).1 e)
        have n2' : 0 < nm.size := Nat.pos_of_ne_zero n2
        have HX : Hid (fromB nm ⟨kn, kv⟩ = decide ((kn[0].toNat : Int) = nm[0].toNat)) := by
          show fromB _ _ = _
          have a0 := b0_at n3
          have b0 := b0_at n2'
          have e : ((kn[0].toNat : Int) = nm[0].toNat) ↔ kn[0] = nm[0] := by
            rw [← UInt8.toNat_inj]; omega
          simp only [fromB, ltS, h1, n2, Nat.ne_of_gt n3, a0, b0, decide_false, Bool.not_false, Bool.and_self, Bool.true_and]
          rw [Bool.eq_iff_iff, beq_iff_eq, decide_eq_true_eq, e]
          simp
        clear n2 h2 h3
        go_enter Tryz.func112, Tryz.ntmps112
        go_wp2
        go_quiet (fail)
        go_wp2
        go_ret
        exact ⟨ret_bool HX.out.symm, by ((repeat' (first | exact Below.refl _ _ | refine below_drewN ?_ _ | refine Below.drew ?_ | refine Below.alloc ?_ ?_ _ | refine Below.trans ?_ (Below.mono (by assumption) ?_))); all_goals (first | exact Nat.le_refl _ | exact Below.size (by assumption) | omega | (simp; done) | (simp; omega)))⟩

/-! The first place at which something is so -/
def ixN (p : KyD → Bool) (ks : List KyD) : Nat := (ks.takeWhile fun k => !p k).length
def ixR (p : KyD → Bool) (ks : List KyD) : Int := if ixN p ks < ks.length then (ixN p ks : Int) else -1
theorem tw_get {α : Type} (q : α → Bool) : ∀ (l : List α) (i : Nat) x, i < (l.takeWhile q).length → l[i]? = some x → q x = true
  | [], i, x, h, _ => by simp at h
  | y :: l, i, x, h, hx => by
    rw [List.takeWhile_cons] at h
    by_cases hy : q y = true
    · rw [if_pos hy] at h
      cases i with
      | zero => simp at hx; subst hx; exact hy
      | succ i => exact tw_get q l i x (by simpa using h) (by simpa using hx)
    · rw [if_neg hy] at h
      simp at h
theorem tw_stop {α : Type} (q : α → Bool) : ∀ (l : List α) x, l[(l.takeWhile q).length]? = some x → q x = false
  | [], x, h => by simp at h
  | y :: l, x, h => by
    rw [List.takeWhile_cons] at h
    by_cases hy : q y = true
    · rw [if_pos hy] at h
      exact tw_stop q l x (by simpa using h)
    · rw [if_neg hy] at h
      simp at h
      subst h
      simpa using hy
theorem tw_le {α : Type} (q : α → Bool) (l : List α) : (l.takeWhile q).length ≤ l.length := (List.takeWhile_sublist q).length_le
theorem ixN_hit {p : KyD → Bool} {ks : List KyD} {k : Nat} (h : k ≤ ixN p ks) (hlt : k < ks.length) (hx : p ks[k] = true) : ixN p ks = k := by
  rcases Nat.lt_or_ge k (ixN p ks) with h1 | h1
  · have := tw_get _ ks k ks[k] h1 (by simp [hlt])
    simp [hx] at this
  · omega
theorem ixR_hit {p : KyD → Bool} {ks : List KyD} {k : Nat} (h : k ≤ ixN p ks) (hlt : k < ks.length) (hx : p ks[k] = true) : ixR p ks = k := by
  unfold ixR
  rw [ixN_hit h hlt hx, if_pos hlt]
theorem ixN_miss {p : KyD → Bool} {ks : List KyD} {k : Nat} (h : k ≤ ixN p ks) (hlt : k < ks.length) (hx : p ks[k] = false) : k + 1 ≤ ixN p ks := by
  rcases Nat.lt_or_ge k (ixN p ks) with h1 | h1
  · exact h1
  · obtain rfl : k = ixN p ks := by omega
    have := tw_stop (fun k => !p k) ks _ (List.getElem?_eq_getElem hlt)
    have hx : p ks[ixN p ks] = false := hx
    change (!p ks[ixN p ks]) = false at this
    rw [hx] at this
    cases this
theorem ixR_none {p : KyD → Bool} {ks : List KyD} (h : ks.length ≤ ixN p ks) : ixR p ks = -1 := by
  unfold ixR
  rw [if_neg (by omega)]
theorem ix_ways (p : KyD → Bool) (ks : List KyD) : (ixR p ks = -1 ∧ ks.find? p = none) ∨ ∃ k, ∃ h : k < ks.length, ixR p ks = k ∧ ks.find? p = some ks[k] := by
  rcases Nat.lt_or_ge (ixN p ks) ks.length with h | h
  · right
    have h2 := tw_stop (fun k => !p k) ks _ (List.getElem?_eq_getElem h)
    refine ⟨ixN p ks, h, by unfold ixR; rw [if_pos h], ?_⟩
    rw [List.find?_eq_some_iff_getElem]
    refine ⟨by simpa using h2, _, h, rfl, fun j hj => ?_⟩
    exact tw_get (fun k => !p k) ks j _ hj (List.getElem?_eq_getElem (by omega))
  · left
    refine ⟨ixR_none h, List.find?_eq_none.2 fun x hx => ?_⟩
    obtain ⟨i, hi, rfl⟩ := List.getElem_of_mem hx
    have := tw_get (fun k => !p k) ks i _ (Nat.lt_of_lt_of_le hi h) (List.getElem?_eq_getElem hi)
    simpa using this
def IdxR (p : KyD → Bool) (ks : List KyD) (w : World) (e : Ending) (w' : World) : Prop := e = .returned (.int .i64 (ixR p ks)) ∧ Below w.heap.size w w'
def isB (nm : ByteArray) (k : KyD) : Bool := decide (k.name = nm)
set_option maxHeartbeats 1600000 in
theorem idxG_any (A : Nat → Prop) (ks : List KyD) (a : Option Addr) (c : Nat) (nm : ByteArray) (pp : Addr) (w : World) (hk : SlE Enc.key A w (.slice a ks.length c) ks) (hp : w.cell? pp = some (.string nm)) (hl : ks.length ≤ 100000) :
    Calls Tryz.prog 105 #[.slice a ks.length c, .func (.func 106) #[] #[.pointer (some pp)]] w (IdxR (isB nm) ks w) := by
  have HK := Lib.hid hk
  have HP := Lib.hid hp
  clear hk hp
  go_enter Tryz.func105, Tryz.ntmps105
  go_wp2
  go_loopw [8] (fun q wr => ∃ k : Nat, k ≤ ks.length ∧ q = .int .i64 k ∧ k ≤ ixN (isB nm) ks ∧ Below w.heap.size w wr) (fun q _ => ks.length - (intOf q).toNat)
  case atStart => exact ⟨0, Nat.zero_le _, rfl, Nat.zero_le _, Below.refl _ _⟩
  case round =>
    obtain ⟨k, hk, rfl, hix, hbr⟩ := hrel
    have HIX := Lib.hid hix
    have HBR := Lib.hid hbr
    clear hix hbr
    by_cases hlt : k < ks.length
    · obtain ⟨b, off, v, rfl, hb, -, c3, c4, hv⟩ := Keys.at (HK.out.ext HBR.out) hlt
      have hv1 := hv.one
      have HC : Hid (∀ W, Below w.heap.size w W → Calls Tryz.prog 106 #[.agg #[.string (ks[k]).name, v], .pointer (some pp)] W fun e w' => e = .returned (.bool ((isB nm) ks[k])) ∧ Below W.heap.size W w') := fun W hW => get1_any _ _ _ _ _ (cellExt hW HP.out) hv1
      have HV1 := Lib.hid hv1
      clear hv hv1
      by_cases hx : ((isB nm) ks[k]) = true
      · have HR : Hid (ixR (isB nm) ks = k) := ixR_hit HIX.out hlt hx
        rw [hx] at HC
        clear hx
        go_wp2_with fail
        refine (HC.out _ HBR.out).mono ?_
        rintro e w2 ⟨rfl, hb2⟩
        have HB2 := Lib.hid hb2
        clear hb2
        go_wp2
        go_ret
        exact ⟨ret_int HR.out.symm, HBR.out.trans (HB2.out.mono HBR.out.size)⟩
      · have hx' : ((isB nm) ks[k]) = false := by simpa using hx
        have HR : Hid (k + 1 ≤ ixN (isB nm) ks) := ixN_miss HIX.out hlt hx'
        rw [hx'] at HC
        clear hx hx'
        go_wp2_with fail
        refine (HC.out _ HBR.out).mono ?_
        rintro e w2 ⟨rfl, hb2⟩
        have HB2 := Lib.hid hb2
        clear hb2
        go_wp2
        go_roundw
        case rel => exact ⟨k + 1, by omega, by go_num, HR.out, HBR.out.trans (HB2.out.mono HBR.out.size)⟩
        case measure => simp [intOf]; omega
    · obtain rfl : k = ks.length := by omega
      have HR : Hid (ixR (isB nm) ks = -1) := ixR_none HIX.out
      go_wp2
      go_ret
      exact ⟨ret_int HR.out.symm, HBR.out⟩
set_option maxHeartbeats 1600000 in
theorem idxF_any (A : Nat → Prop) (ks : List KyD) (a : Option Addr) (c : Nat) (nm : ByteArray) (pp : Addr) (w : World) (hk : SlE Enc.key A w (.slice a ks.length c) ks) (hp : w.cell? pp = some (.string nm)) (hl : ks.length ≤ 100000) :
    Calls Tryz.prog 105 #[.slice a ks.length c, .func (.func 112) #[] #[.pointer (some pp)]] w (IdxR (fromB nm) ks w) := by
  have HK := Lib.hid hk
  have HP := Lib.hid hp
  clear hk hp
  go_enter Tryz.func105, Tryz.ntmps105
  go_wp2
  go_loopw [8] (fun q wr => ∃ k : Nat, k ≤ ks.length ∧ q = .int .i64 k ∧ k ≤ ixN (fromB nm) ks ∧ Below w.heap.size w wr) (fun q _ => ks.length - (intOf q).toNat)
  case atStart => exact ⟨0, Nat.zero_le _, rfl, Nat.zero_le _, Below.refl _ _⟩
  case round =>
    obtain ⟨k, hk, rfl, hix, hbr⟩ := hrel
    have HIX := Lib.hid hix
    have HBR := Lib.hid hbr
    clear hix hbr
    by_cases hlt : k < ks.length
    · obtain ⟨b, off, v, rfl, hb, -, c3, c4, hv⟩ := Keys.at (HK.out.ext HBR.out) hlt
      have hv1 := hv.one
      have HC : Hid (∀ W, Below w.heap.size w W → Calls Tryz.prog 112 #[.agg #[.string (ks[k]).name, v], .pointer (some pp)] W fun e w' => e = .returned (.bool ((fromB nm) ks[k])) ∧ Below W.heap.size W w') := fun W hW => from1_any _ _ _ _ _ (cellExt hW HP.out) hv1
      have HV1 := Lib.hid hv1
      clear hv hv1
      by_cases hx : ((fromB nm) ks[k]) = true
      · have HR : Hid (ixR (fromB nm) ks = k) := ixR_hit HIX.out hlt hx
        rw [hx] at HC
        clear hx
        go_wp2_with fail
        refine (HC.out _ HBR.out).mono ?_
        rintro e w2 ⟨rfl, hb2⟩
        have HB2 := Lib.hid hb2
        clear hb2
        go_wp2
        go_ret
        exact ⟨ret_int HR.out.symm, HBR.out.trans (HB2.out.mono HBR.out.size)⟩
      · have hx' : ((fromB nm) ks[k]) = false := by simpa using hx
        have HR : Hid (k + 1 ≤ ixN (fromB nm) ks) := ixN_miss HIX.out hlt hx'
        rw [hx'] at HC
        clear hx hx'
        go_wp2_with fail
        refine (HC.out _ HBR.out).mono ?_
        rintro e w2 ⟨rfl, hb2⟩
        have HB2 := Lib.hid hb2
        clear hb2
        go_wp2
        go_roundw
        case rel => exact ⟨k + 1, by omega, by go_num, HR.out, HBR.out.trans (HB2.out.mono HBR.out.size)⟩
        case measure => simp [intOf]; omega
    · obtain rfl : k = ks.length := by omega
      have HR : Hid (ixR (fromB nm) ks = -1) := ixR_none HIX.out
      go_wp2
      go_ret
      exact ⟨ret_int HR.out.symm, HBR.out⟩
/-- what a call that hands back new bytes, and whether there are any, leaves -/
structure ObD.okl (o : ObD) : Prop where
  data : o.data.length ≤ 1000000
  keys : o.keys.length ≤ 10000
  vals : ∀ k ∈ o.keys, k.value.length ≤ 1000000
def OptB (w : World) (x : Option (List UInt8)) (e : Ending) (w' : World) : Prop := ∃ v : Value, e = .returned (.tuple #[v, .bool x.isSome]) ∧ OB w.heap.size w' v (x.getD []) ∧ Below w.heap.size w w'
theorem blk_two {w : World} {o1 o2 : Obj} : ((w.alloc o1).alloc o2).heap[w.heap.size]? = some o1 := (Below.heap_alloc _ _ _ (by simp)).trans (heap_alloc_new _ _)
set_option maxRecDepth 100000 in
set_option maxHeartbeats 1600000 in
theorem get_any (A : Nat → Prop) (v : Value) (o : ObD) (nm : ByteArray) (w : World) (hv : ObV A w v o) (hl : o.okl) :
    Calls Tryz.prog 81 #[v, .string nm] w (OptB w (getD o.keys nm)) := by
  obtain ⟨dv, kv, rfl, hd, hk⟩ := hv
  obtain ⟨da, dc, rfl⟩ := hd.shape
  obtain ⟨ka, kc, rfl⟩ := hk.shape
  obtain ⟨od, ks, os⟩ := o
  simp only at *
  have HK := Lib.hid hk
  have HL := Lib.hid hl
  have hl2 := hl.keys
  simp only at hl2
  clear hk hd hl
  go_enter Tryz.func81, Tryz.ntmps81
  go_wp2_with fail
  obtain ⟨w0, hw0⟩ : ∃ w0, w0 = (w.alloc (.cells #[.slice da od.length dc, .slice ka ks.length kc, .int .i64 os] 41)).alloc (.cells #[.string nm] 9) := ⟨_, rfl⟩
  rw [← hw0]
  have hw : Below w.heap.size w w0 := by rw [hw0]; ((repeat' (first | exact Below.refl _ _ | refine below_drewN ?_ _ | refine Below.drew ?_ | refine Below.alloc ?_ ?_ _ | refine Below.trans ?_ (Below.mono (by assumption) ?_))); all_goals (first | exact Nat.le_refl _ | exact Below.size (by assumption) | omega | (simp; done) | (simp; omega)))
  have B0 : w0.heap[w.heap.size]? = some (.cells #[.slice da od.length dc, .slice ka ks.length kc, .int .i64 os] 41 (0, 0)) := by rw [hw0]; exact blk_two
  have B1 : w0.cell? ⟨w.heap.size + 1, 0, none⟩ = some (.string nm) := by rw [hw0]; simp
  have HW := Lib.hid hw
  refine (idxG_any A ks ka kc nm _ w0 (HK.out.ext hw) B1 (by omega)).mono ?_
  rintro e w1 ⟨rfl, hb1⟩
  have h0 : w.heap.size < w0.heap.size := (Array.getElem?_eq_some_iff.1 B0).1
  obtain ⟨x1, f1⟩ := blk_cell (i := 1) ((hb1.block _ h0).trans B0)
  simp at x1
  have hl1 : w.heap.size < w1.heap.size := by have := hb1.size; omega
  have HB1 := Lib.hid (hw.trans (hb1.mono hw.size))
  clear hb1 hw hw0 B0 B1 h0
  rcases ix_ways (isB nm) ks with ⟨e1, e2⟩ | ⟨k, hlt, e1, e2⟩
  · have HG : Hid (getD ks nm = none) := by show (ks.find? (isB nm)).map _ = none; rw [e2]; rfl
    rw [e1]
    clear e1 e2
    go_wp2
    go_ret2
    show OptB w (getD ks nm) _ _
    rw [HG.out]
    exact ⟨_, rfl, OB.nil _ _, HB1.out⟩
  · have HG : Hid (getD ks nm = some (ks[k]).value) := by show (ks.find? (isB nm)).map _ = _; rw [e2]; rfl
    obtain ⟨b, off, u, rfl, hb, -, c3, c4, hu⟩ := Keys.at (HK.out.ext HB1.out) hlt
    obtain ⟨ua, uc, rfl⟩ := hu.shape
    have HU := Lib.hid hu
    have hvl : (ks[k]).value.length ≤ 1000000 := HL.out.vals _ (List.getElem_mem hlt)
    rw [e1]
    clear e1 e2 hu
    generalize ks[k] = ky at *
    go_wp2_with fail
    refine (bclone_any A _ ky.value _ hvl HU.out).mono ?_
    rintro e w2 ⟨v2, rfl, h2, hb2⟩
    have H2 := Lib.hid h2
    have HB2 := Lib.hid hb2
    clear h2 hb2
    go_wp2
    go_ret2
    show OptB w (getD ks nm) _ _
    rw [HG.out]
    exact ⟨v2, rfl, H2.out.base_le HB1.out.size, HB1.out.trans (HB2.out.mono HB1.out.size)⟩
end Go.Proofs.YtohfckkgmijlnaaGreatDoor
namespace Go.Proofs.YtohfckkgmijlnaaGreatDoor
open Go.RowKit Go.WideShapes

set_option maxRecDepth 100000 in
set_option maxHeartbeats 1600000 in
theorem from_any (A : Nat → Prop) (v : Value) (o : ObD) (nm : ByteArray) (w : World) (hv : ObV A w v o) (hl : o.okl) :
    Calls Tryz.prog 88 #[v, .string nm] w (IdxR (fromB nm) o.keys w) := by
  obtain ⟨dv, kv, rfl, hd, hk⟩ := hv
  obtain ⟨da, dc, rfl⟩ := hd.shape
  obtain ⟨ka, kc, rfl⟩ := hk.shape
  obtain ⟨od, ks, os⟩ := o
  simp only at *
  have HK := Lib.hid hk
  have hl2 := hl.keys
  simp only at hl2
  clear hk hd hl
  go_enter Tryz.func88, Tryz.ntmps88
  go_wp2_with fail
  obtain ⟨w0, hw0⟩ : ∃ w0, w0 = (w.alloc (.cells #[.slice da od.length dc, .slice ka ks.length kc, .int .i64 os] 41)).alloc (.cells #[.string nm] 9) := ⟨_, rfl⟩
  rw [← hw0]
  have hw : Below w.heap.size w w0 := by rw [hw0]; ((repeat' (first | exact Below.refl _ _ | refine below_drewN ?_ _ | refine Below.drew ?_ | refine Below.alloc ?_ ?_ _ | refine Below.trans ?_ (Below.mono (by assumption) ?_))); all_goals (first | exact Nat.le_refl _ | exact Below.size (by assumption) | omega | (simp; done) | (simp; omega)))
  have B1 : w0.cell? ⟨w.heap.size + 1, 0, none⟩ = some (.string nm) := by rw [hw0]; simp
  refine (idxF_any A ks ka kc nm _ w0 (HK.out.ext hw) B1 (by omega)).mono ?_
  rintro e w1 ⟨rfl, hb1⟩
  have HB1 := Lib.hid (hw.trans (hb1.mono hw.size))
  clear hb1 hw hw0 B1
  go_wp2
  go_ret
  exact ⟨rfl, HB1.out⟩
set_option maxRecDepth 100000 in
set_option maxHeartbeats 1600000 in
theorem at_any (A : Nat → Prop) (v : Value) (o : ObD) (nm : ByteArray) (w : World) (hv : ObV A w v o) (hl : o.okl) :
    Calls Tryz.prog 89 #[v, .string nm] w (NewB w (atD o nm)) := by
  obtain ⟨dv, kv, rfl, hd, hk⟩ := hv
  obtain ⟨da, dc, rfl⟩ := hd.shape
  obtain ⟨ka, kc, rfl⟩ := hk.shape
  have HV : Hid (ObV A w _ o) := Lib.hid ⟨_, _, rfl, hd, hk⟩
  obtain ⟨od, ks, os⟩ := o
  simp only at *
  have HD := Lib.hid hd
  have HK := Lib.hid hk
  have HL := Lib.hid hl
  have hl1 := hl.data
  simp only at hl1
  clear hk hd hl
  go_enter Tryz.func89, Tryz.ntmps89
  go_wp2_with fail
  refine (from_any A _ ⟨od, ks, os⟩ nm _ (HV.out.ext (by ((repeat' (first | exact Below.refl _ _ | refine below_drewN ?_ _ | refine Below.drew ?_ | refine Below.alloc ?_ ?_ _ | refine Below.trans ?_ (Below.mono (by assumption) ?_))); all_goals (first | exact Nat.le_refl _ | exact Below.size (by assumption) | omega | (simp; done) | (simp; omega))))) HL.out).mono ?_
  rintro e w1 ⟨rfl, hb1⟩
  have B0 : w1.heap[w.heap.size]? = some (.cells #[.slice da od.length dc, .slice ka ks.length kc, .int .i64 os] 41 (0, 0)) := (hb1.block _ (by simp)).trans (heap_alloc_new _ _)
  have HB1 : Hid (Below w.heap.size w w1) := Lib.hid (((Below.refl _ w).alloc (Nat.le_refl _) _).trans (hb1.mono (by simp)))
  obtain ⟨x0, f0⟩ := blk_cell (i := 0) B0
  obtain ⟨x1, f1⟩ := blk_cell (i := 1) B0
  simp at x0 x1
  clear hb1 B0
  rcases ix_ways (fromB nm) ks with ⟨e1, e2⟩ | ⟨k, hlt, e1, e2⟩
  · have HG : Hid (atD ⟨od, ks, os⟩ nm = od) := by show atD _ _ = _; unfold atD; rw [e2]
    have hneg : ¬ (0 : Int) ≤ -1 := by omega
    simp only [e1]
    clear e1 e2
    go_wp2_with fail
    refine (bclone_any A _ od _ hl1 (RB.ext HD.out HB1.out)).mono ?_
    rintro e w2 ⟨v2, rfl, h2, hb2⟩
    have H2 := Lib.hid h2
    have HB2 := Lib.hid hb2
    clear h2 hb2
    go_wp2
    go_ret
    show NewB w (atD ⟨od, ks, os⟩ nm) _ _
    rw [HG.out]
    exact ⟨v2, rfl, H2.out.base_le HB1.out.size, HB1.out.trans (HB2.out.mono HB1.out.size)⟩
  · have HG : Hid (atD ⟨od, ks, os⟩ nm = (ks[k]).value) := by show atD _ _ = _; unfold atD; rw [e2]
    obtain ⟨b, off, u, rfl, hb, -, c3, c4, hu⟩ := Keys.at (HK.out.ext HB1.out) hlt
    obtain ⟨ua, uc, rfl⟩ := hu.shape
    have HU := Lib.hid hu
    have hvl : (ks[k]).value.length ≤ 1000000 := HL.out.vals _ (List.getElem_mem hlt)
    simp only [e1]
    clear e1 e2 hu
    generalize ks[k] = ky at *
    go_wp2_with fail
    refine (bclone_any A _ ky.value _ hvl HU.out).mono ?_
    rintro e w2 ⟨v2, rfl, h2, hb2⟩
    have H2 := Lib.hid h2
    have HB2 := Lib.hid hb2
    clear h2 hb2
    go_wp2
    go_ret
    show NewB w (atD ⟨od, ks, os⟩ nm) _ _
    rw [HG.out]
    exact ⟨v2, rfl, H2.out.base_le HB1.out.size, HB1.out.trans (HB2.out.mono HB1.out.size)⟩
set_option maxHeartbeats 1600000 in
theorem spot_any (off n : Int) (w : World) : Calls Tryz.prog 107 #[.int .i64 off, .int .i64 n] w fun e w' => e = .returned (.bool (spotB off n)) ∧ w = w' := by
  by_cases h1 : 0 ≤ off
  · by_cases h2 : 0 ≤ n
    · by_cases h3 : off ≤ 64
      · by_cases h4 : n ≤ 64
        · have HX : Hid (spotB off n = decide (off + n ≤ 64)) := by show spotB _ _ = _; simp [spotB, h1, h2, h3, h4]
          go_enter Tryz.func107, Tryz.ntmps107
          go_wp2
          go_ret
          exact ⟨ret_bool HX.out.symm, rfl⟩
        · have HX : Hid (spotB off n = false) := by show spotB _ _ = _; simp [spotB, h4]
          go_enter Tryz.func107, Tryz.ntmps107
          go_wp2
          go_ret
          exact ⟨ret_bool HX.out.symm, rfl⟩
      · have HX : Hid (spotB off n = false) := by show spotB _ _ = _; simp [spotB, h3]
        go_enter Tryz.func107, Tryz.ntmps107
        go_wp2
        go_ret
        exact ⟨ret_bool HX.out.symm, rfl⟩
    · have HX : Hid (spotB off n = false) := by show spotB _ _ = _; simp [spotB, h2]
      go_enter Tryz.func107, Tryz.ntmps107
      go_wp2
      go_ret
      exact ⟨ret_bool HX.out.symm, rfl⟩
  · have HX : Hid (spotB off n = false) := by show spotB _ _ = _; simp [spotB, h1]
    go_enter Tryz.func107, Tryz.ntmps107
    go_wp2
    go_ret
    exact ⟨ret_bool HX.out.symm, rfl⟩
end Go.Proofs.YtohfckkgmijlnaaGreatDoor
namespace Go.Proofs.YtohfckkgmijlnaaGreatDoor
open Go.RowKit

/-- where the bytes of a row that has some lie -/
theorem RB.lie {A : Nat → Prop} {w : World} {a : Option Addr} {c : Nat} {l : List UInt8} (h : RB A w (.slice a l.length c) l) (h0 : 0 < l.length) :
    ∃ b off, a = some ⟨b, off, none⟩ ∧ b < w.heap.size ∧ A b ∧ l.length ≤ c ∧ ∀ k, k < l.length → w.cell? ⟨b, off + k, none⟩ = (l.map bv)[k]? := by
  obtain ⟨b, off, rfl, h1, h2, h3, h4⟩ := SlA.at h h0
  exact ⟨b, off, rfl, h1, h2, h3, fun k hk => h4 k (by omega)⟩
theorem RB.capl {A : Nat → Prop} {w : World} {a : Option Addr} {c : Nat} {l : List UInt8} (h : RB A w (.slice a l.length c) l) : l.length ≤ c := by
  rcases h.2 with ⟨⟨a', e⟩, h0⟩ | ⟨b, off, cap, e, hb, hA, hc, _⟩
  · simp only [Value.slice.injEq] at e; omega
  · simp only [Value.slice.injEq] at e; omega
theorem mk_bytes (n : Nat) (hn : n ≤ 1000000) (W : World) : (Instr.makeSlice 38 (.int .i64 (n : Int)) (.int .i64 (n : Int))).run Tryz.prog W = .ok (.slice (some ⟨W.heap.size, 0, none⟩) n n) (W.alloc (.cells (List.replicate n (Value.int .u8 0)).toArray 5)) := by
  obtain ⟨i0, hi, hz0, hz1, hz2⟩ := info_parts infoByte
  have h := run_make (P := Tryz.prog) W 38 5 i0 (.int .u8 0) Tryz.underlying38 hi hz0 .i64 .i64 n n (by omega) (by omega) (by rw [hz2]; omega) (by omega)
  have e : madeCells (Value.int .u8 0).cells n = (List.replicate n (Value.int .u8 0)).toArray := by
    apply Array.ext
    · simp [madeCells]
    · intro i h1 h2
      simp [madeCells, Value.cells, Nat.mod_one]
  rw [h, hz1]
  simp only [Int.toNat_natCast, Nat.mul_one]
  rw [e]
theorem splice0 (n : Nat) (z : Value) (cs : List Value) : splice (List.replicate n z) 0 cs = cs ++ List.replicate (n - cs.length) z := by
  unfold splice
  rw [List.take_zero, List.nil_append, Nat.zero_add, List.drop_replicate]
/-- a block that holds n bytes and no more is a row of the call's own -/
theorem OB.of_blk {base g n c : Nat} {w : World} {l : List UInt8} {t : List Value} (h : w.heap[g]? = some (.cells (l.map bv ++ t).toArray 5 (0, 0))) (hb : base ≤ g) (hn : l.length = n) (hc : n + t.length = c) (hm : c ≤ 1000000) : OB base w (.slice (some ⟨g, 0, none⟩) n c) l := by
  subst hn
  refine ⟨by simp, .inr ⟨g, c, _, rfl, hb, h, by omega, by unfold maxLen; omega, by simp; omega, by simp⟩⟩
end Go.Proofs.YtohfckkgmijlnaaGreatDoor
namespace Go.Proofs.YtohfckkgmijlnaaGreatDoor
open Go.RowKit Go.WideShapes

theorem pad_map (d : List UInt8) (f m : Nat) (h : m ≤ 64) : ((d.drop f).take m).map bv ++ List.replicate (m - (((d.drop f).take m).map bv).length) (Value.int .u8 0) = (padD d f m).map bv := by
  unfold padD
  rw [List.map_append, List.map_replicate]
  congr 2
  simp
  omega
theorem spot_nat {off n : Int} (h : spotB off n = true) : ∃ f m : Nat, off = f ∧ n = m ∧ f + m ≤ 64 := by
  simp only [spotB, Bool.and_eq_true, decide_eq_true_eq] at h
  exact ⟨off.toNat, n.toNat, by omega, by omega, by omega⟩
end Go.Proofs.YtohfckkgmijlnaaGreatDoor
