/- The walks of txn.right and txn.Check. What the references of layer 8 compute, plainly: it is what object's functions compute. No program is named. The walks of terrazzoref08.Name, May, Get, At: what the reference asks and reads. -/
import Derived.Test.YtohfckkgmijlnaaGreatDoorPB
import Derived.Test.YtohfckkgmijlnaaGreatDoorPD
import Derived.Test.YtohfckkgmijlnaaGreatDoorPH
import Derived.Test.YtohfckkgmijlnaaGreatDoorPC
namespace Go.Proofs.YtohfckkgmijlnaaGreatDoor
open Go.RowKit Go.WideShapes

def opP (o : OpD) : Prop := 1 ≤ o.kind ∧ o.kind ≤ 14 ∧ 0 ≤ o.off ∧ o.off ≤ 1099511627776 ∧ 0 ≤ o.n ∧ o.n ≤ 1099511627776 ∧ (o.name.size : Int) ≤ 12 ∧ (o.data.length : Int) ≤ 2048
instance (o : OpD) : Decidable (opP o) := by unfold opP; infer_instance
def opB (o : OpD) : Bool := decide (opP o)
set_option maxRecDepth 100000 in
set_option maxHeartbeats 4000000 in
theorem tright_any (o : OpD) (a : Option Addr) (c : Nat) (w : World) : Calls Tryz.prog 51 #[.agg #[.int .i64 o.kind, .int .i64 o.off, .int .i64 o.n, .string o.name, .slice a o.data.length c]] w fun e w' => e = .returned (.bool (opB o)) ∧ Below w.heap.size w w' := by
  obtain ⟨k, f, n, nm, d⟩ := o
  simp only
  by_cases h0 : (1 : Int) ≤ k
  · by_cases h1 : k ≤ (14 : Int)
    · by_cases h2 : (0 : Int) ≤ f
      · by_cases h3 : f ≤ (1099511627776 : Int)
        · by_cases h4 : (0 : Int) ≤ n
          · by_cases h5 : n ≤ (1099511627776 : Int)
            · by_cases h6 : (nm.size : Int) ≤ 12
              · by_cases h7 : (d.length : Int) ≤ 2048
                · have HV : Hid (opB ⟨k, f, n, nm, d⟩ = true) := by show opB _ = _; simp only [opB, opP]; exact decide_eq_true (by omega)
                  go_enter Tryz.func51, Tryz.ntmps51
                  go_wp2
                  go_ret
                  exact ⟨by rw [HV.out]; rfl, by ((repeat' (first | exact Below.refl _ _ | refine below_drewN ?_ _ | refine Below.drew ?_ | refine Below.alloc ?_ ?_ _ | refine Below.trans ?_ (Below.mono (by assumption) ?_))); all_goals (first | exact Nat.le_refl _ | exact Below.size (by assumption) | omega | (simp; done) | (simp; omega)))⟩
                · have HV : Hid (opB ⟨k, f, n, nm, d⟩ = false) := by show opB _ = _; simp only [opB, opP]; exact decide_eq_false (by omega)
                  go_enter Tryz.func51, Tryz.ntmps51
                  go_wp2
                  go_ret
                  exact ⟨by rw [HV.out]; rfl, by ((repeat' (first | exact Below.refl _ _ | refine below_drewN ?_ _ | refine Below.drew ?_ | refine Below.alloc ?_ ?_ _ | refine Below.trans ?_ (Below.mono (by assumption) ?_))); all_goals (first | exact Nat.le_refl _ | exact Below.size (by assumption) | omega | (simp; done) | (simp; omega)))⟩
              · have HV : Hid (opB ⟨k, f, n, nm, d⟩ = false) := by show opB _ = _; simp only [opB, opP]; exact decide_eq_false (by omega)
                go_enter Tryz.func51, Tryz.ntmps51
                go_wp2
                go_ret
                exact ⟨by rw [HV.out]; rfl, by ((repeat' (first | exact Below.refl _ _ | refine below_drewN ?_ _ | refine Below.drew ?_ | refine Below.alloc ?_ ?_ _ | refine Below.trans ?_ (Below.mono (by assumption) ?_))); all_goals (first | exact Nat.le_refl _ | exact Below.size (by assumption) | omega | (simp; done) | (simp; omega)))⟩
            · have HV : Hid (opB ⟨k, f, n, nm, d⟩ = false) := by show opB _ = _; simp only [opB, opP]; exact decide_eq_false (by omega)
              go_enter Tryz.func51, Tryz.ntmps51
              go_wp2
              go_ret
              exact ⟨by rw [HV.out]; rfl, by ((repeat' (first | exact Below.refl _ _ | refine below_drewN ?_ _ | refine Below.drew ?_ | refine Below.alloc ?_ ?_ _ | refine Below.trans ?_ (Below.mono (by assumption) ?_))); all_goals (first | exact Nat.le_refl _ | exact Below.size (by assumption) | omega | (simp; done) | (simp; omega)))⟩
          · have HV : Hid (opB ⟨k, f, n, nm, d⟩ = false) := by show opB _ = _; simp only [opB, opP]; exact decide_eq_false (by omega)
            go_enter Tryz.func51, Tryz.ntmps51
            go_wp2
            go_ret
            exact ⟨by rw [HV.out]; rfl, by ((repeat' (first | exact Below.refl _ _ | refine below_drewN ?_ _ | refine Below.drew ?_ | refine Below.alloc ?_ ?_ _ | refine Below.trans ?_ (Below.mono (by assumption) ?_))); all_goals (first | exact Nat.le_refl _ | exact Below.size (by assumption) | omega | (simp; done) | (simp; omega)))⟩
        · have HV : Hid (opB ⟨k, f, n, nm, d⟩ = false) := by show opB _ = _; simp only [opB, opP]; exact decide_eq_false (by omega)
          go_enter Tryz.func51, Tryz.ntmps51
          go_wp2
          go_ret
          exact ⟨by rw [HV.out]; rfl, by ((repeat' (first | exact Below.refl _ _ | refine below_drewN ?_ _ | refine Below.drew ?_ | refine Below.alloc ?_ ?_ _ | refine Below.trans ?_ (Below.mono (by assumption) ?_))); all_goals (first | exact Nat.le_refl _ | exact Below.size (by assumption) | omega | (simp; done) | (simp; omega)))⟩
      · have HV : Hid (opB ⟨k, f, n, nm, d⟩ = false) := by show opB _ = _; simp only [opB, opP]; exact decide_eq_false (by omega)
        go_enter Tryz.func51, Tryz.ntmps51
        go_wp2
        go_ret
        exact ⟨by rw [HV.out]; rfl, by ((repeat' (first | exact Below.refl _ _ | refine below_drewN ?_ _ | refine Below.drew ?_ | refine Below.alloc ?_ ?_ _ | refine Below.trans ?_ (Below.mono (by assumption) ?_))); all_goals (first | exact Nat.le_refl _ | exact Below.size (by assumption) | omega | (simp; done) | (simp; omega)))⟩
    · have HV : Hid (opB ⟨k, f, n, nm, d⟩ = false) := by show opB _ = _; simp only [opB, opP]; exact decide_eq_false (by omega)
      go_enter Tryz.func51, Tryz.ntmps51
      go_wp2
      go_ret
      exact ⟨by rw [HV.out]; rfl, by ((repeat' (first | exact Below.refl _ _ | refine below_drewN ?_ _ | refine Below.drew ?_ | refine Below.alloc ?_ ?_ _ | refine Below.trans ?_ (Below.mono (by assumption) ?_))); all_goals (first | exact Nat.le_refl _ | exact Below.size (by assumption) | omega | (simp; done) | (simp; omega)))⟩
  · have HV : Hid (opB ⟨k, f, n, nm, d⟩ = false) := by show opB _ = _; simp only [opB, opP]; exact decide_eq_false (by omega)
    go_enter Tryz.func51, Tryz.ntmps51
    go_wp2
    go_ret
    exact ⟨by rw [HV.out]; rfl, by ((repeat' (first | exact Below.refl _ _ | refine below_drewN ?_ _ | refine Below.drew ?_ | refine Below.alloc ?_ ?_ _ | refine Below.trans ?_ (Below.mono (by assumption) ?_))); all_goals (first | exact Nat.le_refl _ | exact Below.size (by assumption) | omega | (simp; done) | (simp; omega)))⟩
/-- what Check tells of a transaction -/
def txE (t : TxD) : Int := if 12 < t.ops.length then 2 else if nameB t.obj && t.ops.all opB then 0 else 1
theorem all_succ (ops : List OpD) (k : Nat) (hk : k < ops.length) : (ops.take (k + 1)).all opB = ((ops.take k).all opB && opB ops[k]) := by
  rw [List.take_succ_eq_append_getElem hk, List.all_append]
  simp
set_option maxRecDepth 100000 in
set_option maxHeartbeats 4000000 in
theorem tcheck_any (A : Nat → Prop) (t : TxD) (va : Value) (w : World) (h : SlE Enc.op A w va t.ops) : Calls Tryz.prog 34 #[.agg #[.string t.obj, va]] w fun e w' => e = .returned (.int .i64 (txE t)) ∧ Below w.heap.size w w' := by
  obtain ⟨a, c, rfl⟩ := h.shape
  obtain ⟨ob, ops⟩ := t
  simp only at *
  have HS := Lib.hid h
  clear h
  by_cases hl : 12 < ops.length
  · have hl' : (12 : Int) < ops.length := by omega
    have HV : Hid (txE ⟨ob, ops⟩ = 2) := if_pos hl
    go_enter Tryz.func34, Tryz.ntmps34
    go_wp2
    go_ret
    exact ⟨by rw [HV.out]; rfl, by ((repeat' (first | exact Below.refl _ _ | refine below_drewN ?_ _ | refine Below.drew ?_ | refine Below.alloc ?_ ?_ _ | refine Below.trans ?_ (Below.mono (by assumption) ?_))); all_goals (first | exact Nat.le_refl _ | exact Below.size (by assumption) | omega | (simp; done) | (simp; omega)))⟩
  · have hl' : ¬ (12 : Int) < ops.length := by omega
    go_enter Tryz.func34, Tryz.ntmps34
    go_wp2_with fail
    refine (named_any ob _).mono ?_
    rintro e w1 ⟨rfl, hb1⟩
    have B1 := Lib.hid ((hb1.block w.heap.size (by simp)).trans (heap_alloc_new w _))
    have HW : Hid (Below w.heap.size w w1) := ((Below.refl _ w).alloc (Nat.le_refl _) _).trans (hb1.mono (by simp))
    have HS1 := Lib.hid (HS.out.ext HW.out)
    obtain ⟨x1, -⟩ := blk_cell (i := 1) B1.out
    simp at x1
    have lx := (Array.getElem?_eq_some_iff.1 B1.out).1
    have HB0 : Hid (nameB ob = (nameB ob && (ops.take 0).all opB)) := by show _ = _; simp
    have HV : Hid (txE ⟨ob, ops⟩ = if (nameB ob && (ops.take ops.length).all opB) then 0 else 1) := by show _ = _; rw [List.take_length]; exact if_neg hl
    clear hb1 HS
    generalize nameB ob = NB at *
    go_wp2
    go_loopw [3, 16] (fun q3 q16 wr => ∃ (k : Nat) (bb : Bool), k ≤ ops.length ∧ q16 = .int .i64 k ∧ q3 = .bool bb ∧ Hid (bb = (NB && (ops.take k).all opB)) ∧ Below w1.heap.size w1 wr) (fun _ q16 _ => ops.length - (intOf q16).toNat)
    case atStart => exact ⟨0, _, Nat.zero_le _, rfl, rfl, HB0, Below.refl _ _⟩
    case round =>
      obtain ⟨k, bb, hk, rfl, rfl, HBB, hbr⟩ := hrel
      have HBR := Lib.hid hbr
      have hsr := hbr.size
      clear hbr HB0
      by_cases hlt : k < ops.length
      · have HAS := Lib.hid (all_succ ops k hlt)
        obtain ⟨b, off, v, rfl, hb, -, c0, c1, c2, c3, c4, hv⟩ := Ops.at (HS1.out.ext HBR.out) hlt
        obtain ⟨va, vc, rfl⟩ := hv.shape
        clear hv
        generalize ops[k] = o at *
        cases bb with
        | false =>
          have HN : Hid (false = (NB && (ops.take (k + 1)).all opB)) := by
            show _ = _
            rw [HAS.out, ← Bool.and_assoc, ← HBB.out]
            rfl
          clear HAS HBB
          go_wp2
          go_roundw
          case rel => exact ⟨k + 1, _, by omega, by go_num, rfl, HN, HBR.out.trans (Below.mono (by ((repeat' (first | exact Below.refl _ _ | refine below_drewN ?_ _ | refine Below.drew ?_ | refine Below.alloc ?_ ?_ _ | refine Below.trans ?_ (Below.mono (by assumption) ?_))); all_goals (first | exact Nat.le_refl _ | exact Below.size (by assumption) | omega | (simp; done) | (simp; omega))) : Below wr.heap.size wr _) hsr)⟩
          case measure => simp [intOf]; omega
        | true =>
          have HN : Hid (opB o = (NB && (ops.take (k + 1)).all opB)) := by
            show _ = _
            rw [HAS.out, ← Bool.and_assoc, ← HBB.out, Bool.true_and]
          clear HAS HBB
          obtain ⟨k1, f1, n1, nm1, d1⟩ := o
          simp only at c0 c1 c2 c3 c4
          go_wp2_with fail
          refine (tright_any ⟨k1, f1, n1, nm1, d1⟩ va vc _).mono ?_
          rintro e w5 ⟨rfl, hb5⟩
          generalize opB ⟨k1, f1, n1, nm1, d1⟩ = OB at *
          have HB5 : Hid (Below w1.heap.size w1 w5) := HBR.out.trans (((Below.refl _ wr).alloc (Nat.le_refl _) _).trans (hb5.mono (by simp)) |>.mono hsr)
          clear hb5
          go_wp2
          go_roundw
          case rel => exact ⟨k + 1, _, by omega, by go_num, rfl, HN, HB5.out⟩
          case measure => simp [intOf]; omega
      · obtain rfl : k = ops.length := by omega
        cases bb with
        | false =>
          go_wp2
          go_ret
          exact ⟨by rw [HV.out, ← HBB.out]; rfl, HW.out.trans (HBR.out.mono HW.out.size)⟩
        | true =>
          go_wp2
          go_ret
          exact ⟨by rw [HV.out, ← HBB.out]; rfl, HW.out.trans (HBR.out.mono HW.out.size)⟩
end Go.Proofs.YtohfckkgmijlnaaGreatDoor
namespace Go.Proofs.YtohfckkgmijlnaaGreatDoor
open Go.RowKit

def nmI (x : Int) : Bool := decide (x = 46) || (decide (97 ≤ x) && decide (x ≤ 122)) || (decide (48 ≤ x) && decide (x ≤ 57))
theorem signs_nmI (c : UInt8) : nameSigns.contains c = nmI c.toNat := by
  have h : ∀ n : Fin 256, nameSigns.contains (UInt8.ofNat n.1) = nmI (n.1 : Int) := by decide +kernel
  have := h ⟨c.toNat, c.toNat_lt⟩
  simpa using this
theorem dw_nil {α : Type} (p : α → Bool) : ∀ l : List α, l.dropWhile p = [] ↔ ∀ x ∈ l, p x = true
  | [] => by simp
  | a :: l => by
    rw [List.dropWhile_cons]
    cases h : p a with
    | true => simp [h, dw_nil p l]
    | false => simp [h]
theorem trimS_nil (l cs : List UInt8) : Lib.trimS l cs = [] ↔ ∀ x ∈ l, cs.contains x = true := by
  unfold Lib.trimS Lib.trimLeftS Lib.trimRightS
  rw [dw_nil]
  constructor
  · intro h
    have h0 : l.reverse.dropWhile (cs.contains ·) = [] := by
      cases he : l.reverse.dropWhile (cs.contains ·) with
      | nil => rfl
      | cons a t =>
        have h1 := h a (by rw [he]; simp)
        have h2 := tw_stop (cs.contains ·) l.reverse a (by
          have := List.takeWhile_append_dropWhile (p := (cs.contains ·)) (l := l.reverse)
          rw [he] at this
          conv => lhs; arg 1; rw [← this]
          simp)
        rw [h2] at h1
        cases h1
    rw [dw_nil] at h0
    exact fun x hx => h0 x (by simpa using hx)
  · intro h x hx
    have := (List.dropWhile_sublist (cs.contains ·) (l := l.reverse)).subset (List.mem_reverse.1 hx)
    exact h x (by simpa using this)
def nmTo (s : ByteArray) (k : Nat) : Bool := (s.data.toList.take k).all fun c => nmI c.toNat
theorem nmTo_succ (s : ByteArray) (k : Nat) (h : k < s.size) : nmTo s (k + 1) = (nmTo s k && nmI s[k].toNat) := by
  unfold nmTo
  have e : s.data.toList.take (k + 1) = s.data.toList.take k ++ [s[k]] := by
    rw [List.take_succ_eq_append_getElem (by simpa using h)]; rfl
  rw [e, List.all_append]
  simp
theorem nameB_to (s : ByteArray) : nameB s = (decide (1 ≤ s.size) && decide (s.size ≤ 12) && nmTo s s.size) := by
  unfold nameB
  congr 1
  rw [Bool.eq_iff_iff, decide_eq_true_eq, trimS_nil]
  unfold nmTo
  rw [List.take_of_length_le (by show s.data.toList.length ≤ s.data.size; simp), List.all_eq_true]
  constructor
  · intro h x hx
    rw [← signs_nmI]
    exact h x hx
  · intro h x hx
    rw [signs_nmI]
    exact h x hx
theorem nmTo_no {s : ByteArray} {k : Nat} (hk : k < s.size) (h : nmI s[k].toNat = false) : nameB s = false := by
  have h1 : nmTo s (k + 1) = false := by rw [nmTo_succ s k hk, h, Bool.and_false]
  have h2 : nmTo s s.size = false := by
    unfold nmTo at h1 ⊢
    rw [List.all_eq_false] at h1 ⊢
    obtain ⟨x, hx, h3⟩ := h1
    exact ⟨x, by rw [List.take_of_length_le (by show s.data.toList.length ≤ s.data.size; simp)]; exact List.mem_of_mem_take hx, h3⟩
  rw [nameB_to, h2, Bool.and_false]

/-! put, key by key -/
def putStep (nm : ByteArray) (v : List UInt8) (s : List KyD × Bool) (k : KyD) : List KyD × Bool :=
  let t := if !ltS k.name nm && !s.2 then (s.1 ++ [⟨nm, v⟩], true) else s
  if decide (k.name = nm) then t else (t.1 ++ [k], t.2)
def putTo (nm : ByteArray) (v : List UInt8) (ks : List KyD) (k : Nat) : List KyD × Bool := (ks.take k).foldl (putStep nm v) ([], false)
theorem putTo_succ {nm : ByteArray} {v : List UInt8} {ks : List KyD} {k : Nat} (h : k < ks.length) : putTo nm v ks (k + 1) = putStep nm v (putTo nm v ks k) ks[k] := by
  unfold putTo
  rw [List.take_succ_eq_append_getElem h, List.foldl_append]
  rfl
theorem put_done (nm : ByteArray) (v : List UInt8) : ∀ (ks : List KyD) (o : List KyD), ks.foldl (putStep nm v) (o, true) = (o ++ ks.filter fun k => !decide (k.name = nm), true)
  | [], o => by simp
  | k :: ks, o => by
    rw [List.foldl_cons]
    by_cases h : k.name = nm
    · have : putStep nm v (o, true) k = (o, true) := by simp [putStep, h]
      rw [this, put_done nm v ks o]
      simp [h]
    · have : putStep nm v (o, true) k = (o ++ [k], true) := by simp [putStep, h]
      rw [this, put_done nm v ks]
      simp [h]
theorem put_all (nm : ByteArray) (v : List UInt8) : ∀ (ks : List KyD) (o : List KyD), (let s := ks.foldl (putStep nm v) (o, false); if s.2 then s.1 else s.1 ++ [⟨nm, v⟩]) = o ++ putK ks nm v
  | [], o => by simp [putK]
  | k :: ks, o => by
    rw [List.foldl_cons]
    cases hl : ltS k.name nm with
    | true =>
      have hn : ¬ k.name = nm := fun e => by rw [e, ltS_irrefl] at hl; cases hl
      have : putStep nm v (o, false) k = (o ++ [k], false) := by simp [putStep, hn, hl]
      rw [this, put_all nm v ks]
      simp [putK, hl]
    | false =>
      by_cases h : k.name = nm
      · have : putStep nm v (o, false) k = (o ++ [⟨nm, v⟩], true) := by simp [putStep, h, ltS_irrefl]
        rw [this, put_done]
        simp [putK, h, ltS_irrefl]
      · have : putStep nm v (o, false) k = (o ++ [⟨nm, v⟩] ++ [k], true) := by simp [putStep, h, hl]
        rw [this, put_done]
        simp [putK, hl, h]
theorem putTo_end {nm : ByteArray} {v : List UInt8} {ks : List KyD} : putK ks nm v = if (putTo nm v ks ks.length).2 then (putTo nm v ks ks.length).1 else (putTo nm v ks ks.length).1 ++ [⟨nm, v⟩] := by
  have := put_all nm v ks []
  unfold putTo
  rw [List.take_length]
  simpa using this.symm
def dropTo (nm : ByteArray) (ks : List KyD) (k : Nat) : List KyD := (ks.take k).filter fun k => !decide (k.name = nm)
theorem dropTo_succ {nm : ByteArray} {ks : List KyD} {k : Nat} (h : k < ks.length) : dropTo nm ks (k + 1) = if decide ((ks[k]).name = nm) then dropTo nm ks k else dropTo nm ks k ++ [ks[k]] := by
  unfold dropTo
  rw [List.take_succ_eq_append_getElem h, List.filter_append]
  by_cases e : (ks[k]).name = nm <;> simp [e]
theorem dropTo_end (nm : ByteArray) (ks : List KyD) : dropTo nm ks ks.length = dropK ks nm := by
  unfold dropTo dropK
  rw [List.take_length]
end Go.Proofs.YtohfckkgmijlnaaGreatDoor
namespace Go.Proofs.YtohfckkgmijlnaaGreatDoor
open Go.RowKit Go.WideShapes

set_option maxRecDepth 100000 in
set_option maxHeartbeats 1600000 in
theorem rname_any (s : ByteArray) (w : World) : Calls Tryz.prog 24 #[.string s] w fun e w' => e = .returned (.bool (nameB s)) ∧ w = w' := by
  by_cases h1 : 1 ≤ s.size
  · by_cases h2 : s.size ≤ 12
    · have h1' : ¬ (s.size : Int) < 1 := by omega
      have h2' : ¬ (12 : Int) < s.size := by omega
      have HN : Hid (nmTo s s.size = true → nameB s = true) := by show _ → _; intro h; rw [nameB_to, h]; simp [h1, h2]
      go_enter Tryz.func24, Tryz.ntmps24
      go_wp2
      go_loop [3] (fun i => ∃ k : Nat, k ≤ s.size ∧ i = .int .i64 k ∧ nmTo s k = true) (fun i => s.size - (intOf i).toNat)
      case atStart => exact ⟨0, Nat.zero_le _, rfl, rfl⟩
      case round =>
        obtain ⟨k, hk, rfl, hto⟩ := hrel
        have HTO := Lib.hid hto
        clear hto
        by_cases hlt : k < s.size
        · have HS : Hid (nmI s[k].toNat = true → nmTo s (k + 1) = true) := by show _ → _; intro h; rw [nmTo_succ s k hlt, HTO.out, h]; rfl
          have HF : Hid (nmI s[k].toNat = false → nameB s = false) := by show _ → _; exact nmTo_no hlt
          go_wp2
          all_goals
            first
              | (go_round
                 case rel => exact ⟨k + 1, by omega, by go_num, HS.out (by (try simp only [bne_eq_false_iff_eq] at *); simp [nmI]; omega)⟩
                 case measure => simp [intOf]; omega)
              | (go_ret
                 exact ⟨ret_bool (HF.out (by (try simp only [bne_eq_false_iff_eq] at *); simp [nmI]; omega)).symm, rfl⟩)
        · obtain rfl : k = s.size := by omega
          go_wp2
          go_ret
          exact ⟨ret_bool (HN.out HTO.out).symm, rfl⟩
    · have h1' : ¬ (s.size : Int) < 1 := by omega
      have h2' : (12 : Int) < s.size := by omega
      have HN : Hid (nameB s = false) := by show nameB s = _; simp [nameB, h2]
      go_enter Tryz.func24, Tryz.ntmps24
      go_wp2
      go_ret
      exact ⟨ret_bool HN.out.symm, rfl⟩
  · have h1' : (s.size : Int) < 1 := by omega
    have HN : Hid (nameB s = false) := by show nameB s = _; simp [nameB, h1]
    go_enter Tryz.func24, Tryz.ntmps24
    go_wp2
    go_ret
    exact ⟨ret_bool HN.out.symm, rfl⟩
/-- what a call that finds a row of bytes answers: the row lies anywhere -/
def GetRR (A : Nat → Prop) (x : Option (List UInt8)) (w : World) (e : Ending) (w' : World) : Prop := ∃ a n c, e = .returned (.tuple #[.slice a n c, .bool x.isSome]) ∧ RB (UpA A w) w' (.slice a n c) (x.getD []) ∧ n = (x.getD []).length ∧ Below w.heap.size w w'
set_option maxRecDepth 100000 in
set_option maxHeartbeats 1600000 in
theorem rget_any (A : Nat → Prop) (v : Value) (o : ObD) (nm : ByteArray) (w : World) (hv : ObV A w v o) (hl : o.keys.length ≤ 100000) :
    Calls Tryz.prog 63 #[v, .string nm] w (GetRR A (getD o.keys nm) w) := by
  obtain ⟨dv, kv, rfl, hd, hk⟩ := hv
  obtain ⟨da, dc, rfl⟩ := hd.shape
  obtain ⟨ka, kc, rfl⟩ := hk.shape
  obtain ⟨od, ks, os⟩ := o
  simp only at *
  have HK := Lib.hid hk
  clear hd hk
  go_enter Tryz.func63, Tryz.ntmps63
  go_wp2
  obtain ⟨w0, hw0⟩ : ∃ w0, w0 = w.alloc (.cells #[.slice da od.length dc, .slice ka ks.length kc, .int .i64 os] 41) := ⟨_, rfl⟩
  rw [← hw0]
  have B0 : w0.heap[w.heap.size]? = some (.cells #[.slice da od.length dc, .slice ka ks.length kc, .int .i64 os] 41 (0, 0)) := by rw [hw0]; exact heap_alloc_new _ _
  have hw : Below w.heap.size w w0 := by rw [hw0]; ((repeat' (first | exact Below.refl _ _ | refine below_drewN ?_ _ | refine Below.drew ?_ | refine Below.alloc ?_ ?_ _ | refine Below.trans ?_ (Below.mono (by assumption) ?_))); all_goals (first | exact Nat.le_refl _ | exact Below.size (by assumption) | omega | (simp; done) | (simp; omega)))
  have HK0 := Lib.hid (HK.out.ext hw)
  have HW := Lib.hid hw
  obtain ⟨x1, f1⟩ := blk_cell (i := 1) B0
  simp at x1
  clear hw0 hw B0
  go_loop [6] (fun i => ∃ k : Nat, k ≤ ks.length ∧ i = .int .i64 k ∧ k ≤ ixN (fun k => decide (k.name = nm)) ks) (fun i => ks.length - (intOf i).toNat)
  case atStart => exact ⟨0, Nat.zero_le _, rfl, Nat.zero_le _⟩
  case round =>
    obtain ⟨k, hk, rfl, hix⟩ := hrel
    have HIX := Lib.hid hix
    clear hix
    by_cases hlt : k < ks.length
    · obtain ⟨b, off, v, rfl, hb, -, c3, c4, hv⟩ := Keys.at HK0.out hlt
      obtain ⟨va, vc, rfl⟩ := hv.shape
      have HV : Hid (RB (UpA A w) w0 (.slice va (ks[k]).value.length vc) (ks[k]).value) := Lib.hid (hv.weak fun _ _ h => .inl h)
      clear hv
      by_cases hx : (ks[k]).name = nm
      · have HX : Hid (getD ks nm = some (ks[k]).value) := by
          show getD ks nm = _
          rcases ix_ways (fun k => decide (k.name = nm)) ks with ⟨e1, e2⟩ | ⟨j, hj, e1, e2⟩
          · have := List.find?_eq_none.1 e2 _ (List.getElem_mem hlt)
            simp [hx] at this
          · have h1 := ixR_hit HIX.out hlt (by simp [hx])
            obtain rfl : j = k := by rw [h1] at e1; omega
            unfold getD
            rw [e2]
            rfl
        have hxe := eqL (ks[k]).name nm
        have hxt : decide ((ks[k]).name = nm) = true := by simp [hx]
        rw [hxt] at hxe
        clear hx hxt
        go_wp2
        go_ret2
        show GetRR _ _ _ _ _
        rw [HX.out]
        exact ⟨_, _, _, rfl, HV.out, rfl, HW.out⟩
      · have HI : Hid (k + 1 ≤ ixN (fun k => decide (k.name = nm)) ks) := ixN_miss HIX.out hlt (by simp [hx])
        have hxe := eqL (ks[k]).name nm
        have hxt : decide ((ks[k]).name = nm) = false := by simp [hx]
        rw [hxt] at hxe
        clear hx hxt
        go_wp2
        go_round
        case rel => exact ⟨k + 1, by omega, by go_num, HI.out⟩
        case measure => simp [intOf]; omega
    · have HX : Hid (getD ks nm = none) := by
        show getD ks nm = _
        have h1 := ixR_none (ks := ks) (p := fun k => decide (k.name = nm)) (by have := HIX.out; omega)
        rcases ix_ways (fun k => decide (k.name = nm)) ks with ⟨e1, e2⟩ | ⟨j, hj, e1, e2⟩
        · unfold getD
          rw [e2]
          rfl
        · rw [h1] at e1; omega
      go_wp2
      go_ret2
      show GetRR _ _ _ _ _
      rw [HX.out]
      exact ⟨_, _, _, rfl, RB.nil _ _, rfl, HW.out⟩
end Go.Proofs.YtohfckkgmijlnaaGreatDoor
