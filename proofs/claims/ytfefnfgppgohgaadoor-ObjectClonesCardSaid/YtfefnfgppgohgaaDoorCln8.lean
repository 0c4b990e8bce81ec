/- A clone of the data stays what it was: the plain law. No program is named. -/
import Derived.Test.YtfefnfgppgohgaaDoorRdw8
namespace Go.Proofs.YtfefnfgppgohgaaDoor
open Go.RowKit

theorem bl_app : ∀ (a : List UInt8) (x : UInt8) (b : List UInt8), Op.bytesLess a (a ++ x :: b) = true
  | [], x, b => by simp [Op.bytesLess]
  | y :: a, x, b => by
    simp only [List.cons_append, Op.bytesLess]
    simp [bl_app a x b]
/-- an object whose one key holds a clone under a fit name -/
structure Cloned (c : ObD) (nm : ByteArray) (v : List UInt8) : Prop where
  keys : c.keys = [⟨nm, v⟩]
  may : mayB c = true
theorem name_pos {nm : ByteArray} (h : nameB nm = true) : nm.size ≠ 0 := by
  intro h0
  unfold nameB at h
  simp [h0] at h
theorem fromB_self {nm : ByteArray} {v : List UInt8} (h : nameB nm = true) : fromB nm ⟨nm, v⟩ = true := by
  unfold fromB
  simp [ltS_irrefl, name_pos h]
theorem Cloned.name {c : ObD} {nm : ByteArray} {v : List UInt8} (h : Cloned c nm v) : nameB nm = true := by
  obtain ⟨-, -, -, -, hf⟩ := (mayB_iff c).1 h.may
  rw [h.keys] at hf
  exact (hf.key 0 _ rfl).1
theorem Cloned.at_ {c : ObD} {nm : ByteArray} {v : List UInt8} (h : Cloned c nm v) : atD c nm = v := by
  unfold atD
  rw [h.keys]
  simp [fromB_self h.name]
theorem clone_first {o : ObD} {nm : ByteArray} {d : List UInt8} {off n : Int} (hm : mayB o = true) (hk : o.keys = []) (hn : nameB nm = true) :
    ∃ c, doB o true ⟨11, off, n, nm, d⟩ = ⟨c, true, true, 0⟩ ∧ Cloned c nm o.data := by
  obtain ⟨h1, h2, h3, h4, hf⟩ := (mayB_iff o).1 hm
  have hc : changeB o ⟨11, off, n, nm, d⟩ = some { o with keys := [⟨nm, o.data⟩] } := by
    unfold changeB
    simp [hk, keyOp, hn, putK]
    omega
  refine ⟨_, ?_, rfl, changeB_may hm hc⟩
  rw [doB_good hm (of_decide_eq_true rfl) (of_decide_eq_true rfl), if_pos rfl, doG_some (of_decide_eq_true rfl) hc]
  rfl
theorem clone_no {o : ObD} {nm : ByteArray} {d : List UInt8} {off n : Int} (hm : mayB o = true) (hk : o.keys = []) (hn : nameB nm = false) : doB o true ⟨11, off, n, nm, d⟩ = DoR.no 2 := by
  have hc : changeB o ⟨11, off, n, nm, d⟩ = none := by
    unfold changeB
    simp [hk, keyOp, hn]
  rw [doB_good hm (of_decide_eq_true rfl) (of_decide_eq_true rfl)]
  exact doG_none (of_decide_eq_true rfl) hc
theorem clone_again {c : ObD} {nm : ByteArray} {v d : List UInt8} {off n : Int} (h : Cloned c nm v) : doB c true ⟨11, off, n, nm, d⟩ = ⟨c, true, true, 0⟩ := by
  have hc : changeB c ⟨11, off, n, nm, d⟩ = some c := by
    unfold changeB
    simp [h.keys, fromB_self h.name]
  rw [doB_good h.may (of_decide_eq_true rfl) (of_decide_eq_true rfl), if_pos rfl, doG_some (of_decide_eq_true rfl) hc]
  rfl
theorem clone_from {c : ObD} {nm : ByteArray} {v d : List UInt8} {off n : Int} (h : Cloned c nm v) (hv : v.length ≤ 64) : doB c true ⟨14, off, n, nm, d⟩ = ⟨{ c with data := v }, true, true, 0⟩ := by
  have hc : changeB c ⟨14, off, n, nm, d⟩ = some { c with data := v } := by
    unfold changeB
    simp [h.at_, hv]
  rw [doB_good h.may (of_decide_eq_true rfl) (of_decide_eq_true rfl), if_pos rfl, doG_some (of_decide_eq_true rfl) hc]
  rfl
/-- the ops that change the data alone, or the number -/
def plainK (k : Int) : Prop := k = 5 ∨ k = 6 ∨ k = 7 ∨ k = 8 ∨ k = 12
theorem clnd_step {c : ObD} {nm : ByteArray} {v : List UInt8} {op : OpD} (h : Cloned c nm v) (hk : plainK op.kind) (he : (doB c true op).e = 0) : Cloned (doB c true op).o nm v := by
  have h1 : 1 ≤ op.kind := by unfold plainK at hk; omega
  have h5 : 5 ≤ op.kind := by unfold plainK at hk; omega
  have h2 : op.kind ≤ 14 := by unfold plainK at hk; omega
  rw [doB_good h.may h1 h2] at he ⊢
  cases hc : changeB c op with
  | none => rw [if_pos rfl, doG_none h5 hc] at he; cases he
  | some o2 =>
    rw [if_pos rfl, doG_some h5 hc]
    have ht : thereB true op.kind = true := by
      unfold thereB
      split
      · rfl
      · rw [if_neg (by unfold plainK at hk; omega)]
    rw [ht]
    refine ⟨?_, changeB_may h.may hc⟩
    show o2.keys = _
    rw [← h.keys]
    unfold changeB at hc
    unfold plainK at hk
    rcases hk with e | e | e | e | e <;> simp [e] at hc
    · obtain ⟨-, rfl⟩ := hc; rfl
    · obtain ⟨-, rfl⟩ := hc; rfl
    · obtain ⟨-, rfl⟩ := hc; rfl
    · obtain ⟨-, rfl⟩ := hc; rfl
    · obtain ⟨-, rfl⟩ := hc; rfl
theorem clone_other {c : ObD} {nm : ByteArray} {v : List UInt8} (h : Cloned c nm v) {nm2 : ByteArray} (hl : ltS nm nm2 = true) : atD c nm2 = c.data := by
  unfold atD
  rw [h.keys]
  simp [fromB, hl]
end Go.Proofs.YtfefnfgppgohgaaDoor
