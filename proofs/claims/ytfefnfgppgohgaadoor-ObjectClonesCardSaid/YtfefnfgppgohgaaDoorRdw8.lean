/- Writing and zeroing: what object.Do answers, plainly. No program is named. -/
import Derived.Test.YtfefnfgppgohgaaDoorRds8
import Derived.Test.YtfefnfgppgohgaaDoorL8b
namespace Go.Proofs.YtfefnfgppgohgaaDoor
open Go.RowKit

theorem do_write {o : ObD} {off n : Int} {nm : ByteArray} {d : List UInt8} (hm : mayB o = true) (hs : spotB off d.length = true) : doB o true ⟨5, off, n, nm, d⟩ = ⟨{ o with data := writeD o.data off.toNat d }, true, true, 0⟩ := by
  rw [doB_good hm (of_decide_eq_true rfl) (of_decide_eq_true rfl)]
  rw [doG_some (o2 := { o with data := writeD o.data off.toNat d }) (of_decide_eq_true rfl) (by unfold changeB; simp [hs])]
  rfl
theorem do_write_no {o : ObD} {off n : Int} {nm : ByteArray} {d : List UInt8} (hm : mayB o = true) (hs : spotB off d.length = false) : doB o true ⟨5, off, n, nm, d⟩ = DoR.no 2 := by
  rw [doB_good hm (of_decide_eq_true rfl) (of_decide_eq_true rfl)]
  exact doG_none (of_decide_eq_true rfl) (by unfold changeB; simp [hs])
theorem do_zero {o : ObD} {off n : Int} {nm : ByteArray} {d : List UInt8} (hm : mayB o = true) (hs : spotB off n = true) : doB o true ⟨6, off, n, nm, d⟩ = ⟨{ o with data := zeroD o.data off.toNat n.toNat }, true, true, 0⟩ := by
  rw [doB_good hm (of_decide_eq_true rfl) (of_decide_eq_true rfl)]
  rw [doG_some (o2 := { o with data := zeroD o.data off.toNat n.toNat }) (of_decide_eq_true rfl) (by unfold changeB; simp [hs])]
  rfl
theorem write_may {o : ObD} {k : Nat} {d : List UInt8} (hm : mayB o = true) (h : k + d.length ≤ 64) : mayB { o with data := writeD o.data k d } = true := by
  obtain ⟨h1, h2, h3, h4, hf⟩ := (mayB_iff o).1 hm
  exact (mayB_iff _).2 ⟨write_len h1 h, h2, h3, h4, hf⟩
theorem zero_may {o : ObD} {k n : Nat} (hm : mayB o = true) : mayB { o with data := zeroD o.data k n } = true := by
  obtain ⟨h1, h2, h3, h4, hf⟩ := (mayB_iff o).1 hm
  exact (mayB_iff _).2 ⟨zero_len h1, h2, h3, h4, hf⟩
theorem readD_spot {o : ObD} {k n : Nat} (h : k + n ≤ 64) : readD o (k : Int) (n : Int) = padD o.data k n := by
  unfold readD
  rw [if_pos (by unfold spotB; simp; omega)]
  simp
/-- a row that make has made, read as text -/
theorem mk_cnv (n : Nat) (hn : n ≤ 1000000) (W W' : World) (h : Below (W.alloc (.cells (List.replicate n (Value.int .u8 0)).toArray 5)).heap.size (W.alloc (.cells (List.replicate n (Value.int .u8 0)).toArray 5)) W') :
    (Go.convert 22 9 (.slice (some ⟨W.heap.size, 0, none⟩) n n)).run Tryd.prog W' = .ok (.string ⟨(List.replicate n 0).toArray⟩) W' := by
  have ho : OB W.heap.size (W.alloc (.cells (List.replicate n (Value.int .u8 0)).toArray 5)) (.slice (some ⟨W.heap.size, 0, none⟩) (List.replicate n (0 : UInt8)).length n) (List.replicate n 0) :=
    OB.of_blk (t := []) (by rw [rep_map, List.append_nil]; exact heap_alloc_new _ _) (Nat.le_refl _) (by simp) (by simp) (by omega)
  have h2 := cnv_bytes ho.rb W' h
  rw [List.length_replicate] at h2
  exact h2
end Go.Proofs.YtfefnfgppgohgaaDoor
