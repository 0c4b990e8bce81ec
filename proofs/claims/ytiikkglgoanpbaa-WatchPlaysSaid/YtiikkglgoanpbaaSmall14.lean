/- Small laws of boards. -/
import Derived.Test.YtiikkglgoanpbaaWatchV
namespace Go.Proofs.Ytiikkglgoanpbaa
open Go.RowKit Go.Maps Go.WideShapes

theorem fresh_none {w w' : World} {e : Ending} (h : Fresh w [] e w') : ∃ a c, e = .returned (.slice a 0 c) ∧ Below w.heap.size w w' := by
  obtain ⟨v, rfl, h1, h2, h3⟩ := h
  obtain ⟨a, c, rfl⟩ := owns_shape h1
  exact ⟨a, c, rfl, h3⟩
theorem add_ns (B : Brd) (a b : Int) : (B.add a b).ns = B.ns := by unfold Brd.add; split <;> rfl
theorem add_pb (B : Brd) (a b : Int) : (B.add a b).pb = B.pb := by unfold Brd.add; split <;> rfl
theorem add_fp (B : Brd) (a b : Int) : (B.add a b).fp = B.fp := by unfold Brd.add; split <;> rfl
theorem ack_none {B : Brd} (h : B.ns = []) (a b : Int) : B.ackB a b = false ∧ B.ack a b = B := by
  have : B.ackB a b = false := by simp [Brd.ackB, Brd.missL, h, findN]
  exact ⟨this, by simp [Brd.ack, this]⟩
end Go.Proofs.Ytiikkglgoanpbaa
