/- The handle of the type error, out of the row's listed variables; a world that meets them. -/
import Derived.Test.YtgdilkhaopnhaaaGreatDoorMA
import Derived.Test.YtgdilkhaopnhaaaGreatDoorDo8
import Derived.LaidHandle
import Derived.LaidSub
import Derived.LaidLaws
namespace Go.Proofs.YtgdilkhaopnhaaaGreatDoor
open Go.ChangeShapes Go.WideShapes Go.ChangeAt Go.RowKit

theorem et_named : Tryz.prog.globalNamed "errors.errorType" = some 0 := by kernel_rfl
theorem rt_found : (Tryz.prog.cutTypes.find? (·.1 == "internal/reflectlite.rtype")).map (·.2) = some 114 := by kernel_rfl
theorem oneRow : ((List.range 198).filter fun t => Tryz.prog.rowNamed t [101, 114, 114, 111, 114]) = [55] := by kernel_rfl
theorem types_size : Tryz.prog.types.size = 198 := by kernel_rfl
theorem errT_of_laid {W : World} (h : laidMetH Tryz.prog Rows.txnDoesRow.laid W) : ErrT W := by
  have h2 := (laidMetH_iff.1 h).2
  obtain ⟨name, u, ty, e1, e2, e3, e4, e5⟩ := h2 ("errors.errorType", Rows.laid_errors_errorType) (List.mem_filter.2 ⟨by simp [Rows.txnDoesRow], rfl⟩)
  have en : name = [101, 114, 114, 111, 114] := (Option.some.inj e1).symm
  subst en
  obtain rfl := Option.some.inj (rt_found.symm.trans e2)
  have hm : ty ∈ (List.range 198).filter fun t => Tryz.prog.rowNamed t [101, 114, 114, 111, 114] := List.mem_filter.2 ⟨List.mem_range.2 (by rw [← types_size]; exact e3), e4⟩
  rw [oneRow] at hm
  obtain rfl := List.mem_singleton.1 hm
  have hh : typeHandle Tryz.prog 55 = .pointer (some ⟨4, 55, none⟩) := by kernel_rfl
  rw [hh] at e5
  show W.cell? _ = _
  simpa using World.var?_cell et_named e5 0

/-- a world that meets the listed variables -/
noncomputable def wH0 (os : Os) : World :=
  let w0 := World.holding Tryz.prog os ⟨#[], #[], []⟩
  { w0 with heap := w0.heap.modify 0 fun
      | .cells _ t frozen => .cells #[.iface 114 (.agg #[.pointer (some ⟨4, 55, none⟩)])] t frozen
      | o => o }
noncomputable def plainLaid : List (String × DataW Unit) := Rows.txnDoesRow.laid.filter fun x => x.2.handleName?.isNone
noncomputable def wH (os : Os) : World := (wH0 os).layVars Tryz.prog plainLaid
theorem wH_os (os : Os) : (wH os).os = os := World.layVars_os _ _ _
theorem wH_met (os : Os) (args : Array Value) : laidMetH Tryz.prog Rows.txnDoesRow.laid ((wH os).forCall (fun _ _ => 0) ⟨#[], args, []⟩).memory := by
  have e1 : (plainLaid.filter fun x => (plainLaid.map (·.1)).contains x.1) = plainLaid := List.filter_eq_self.2 fun x hx => List.contains_iff_mem.2 (List.mem_map.2 ⟨x, hx, rfl⟩)
  have e2 : (plainLaid.filter fun x => !(plainLaid.map (·.1)).contains x.1) = [] := List.filter_eq_nil_iff.2 fun x hx => by rw [List.contains_iff_mem.2 (List.mem_map.2 ⟨x, hx, rfl⟩)]; simp
  have h : laidMet Tryz.prog plainLaid (wH os) := laidMet_layVars (w0 := wH0 os) (plainLaid.map (·.1)) [] (by rw [e1]; rfl) (by rw [e1]; kernel_rfl) (by rw [e1]; kernel_rfl) (by rw [e2]; exact LaidIn.none)
  exact laidMetH_of_parts (h.of_heap (by simp [World.memory, World.forCall, Input.heap])) (by kernel_rfl)
end Go.Proofs.YtgdilkhaopnhaaaGreatDoor
