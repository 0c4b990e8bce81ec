/- The table of frame's sum, out of the row's listed variables. -/
import Derived.Test.YtidikciankcopaaDoorRowL
import Derived.Test.YtidikciankcopaaDoorCrcW
import Derived.Lib.LaidTab
namespace Go.Proofs.YtidikciankcopaaDoor
open Go.ChangeShapes Go.WideShapes Go.ChangeAt Go.RowKit

/-- the sum's table lies in the world -/
def TabW (w : World) : Prop := ∀ r : Nat, r < 16 → w.cell? ⟨0, r, none⟩ = some (.int .u32 ((Crc.tab.getD r 0 : Nat) : Int))
theorem halves_data : (Rows.laid_terrazzo_frame_halves : DataW Unit) = Lib.tabData .u32 (Crc.tab.map fun n : Nat => (n : Int)) := by kernel_rfl
theorem tab_below {base : Nat} {w w' : World} (h : TabW w) (hb : Below base w w') (hg : 0 < base) : TabW w' := by
  intro r hr
  exact (hb.cell (p := ⟨0, r, none⟩) hg).trans (h r hr)
set_option maxRecDepth 100000 in
theorem tab_of_laid {W : World} (h : laidMetH Tryd.prog Rows.rpcNoneRow.laid W) : TabW W ∧ 0 < W.heap.size := by
  rw [MakeChecks.laidMetH_plain _ _ _ (by kernel_rfl)] at h
  obtain ⟨ps, ⟨_, _, _, _, _, _, _, _, _, _, ⟨g, t, cs, fuel, p, q, hg, ht, hv, hd, _, _⟩, _⟩, _, _⟩ := h
  obtain rfl := Option.some.inj ((show Tryd.prog.globalNamed "terrazzo/frame.halves" = some 0 by kernel_rfl).symm.trans hg)
  obtain rfl := Option.some.inj ((show (Tryd.prog.globals[0]?).map (·.type) = some 132 by kernel_rfl).symm.trans ht)
  rw [halves_data] at hd
  have hT : Lib.TabIs Tryd.prog W "terrazzo/frame.halves" .u32 (Crc.tab.map fun n : Nat => (n : Int)) := by
    unfold Lib.TabIs
    rw [hv, ← Lib.cells_of_tab Tryd.underlying132 Tryd.underlying129 (by kernel_rfl) (by kernel_rfl) hd]
  have hc : TabW W := by
    intro r hr
    have h1 := hT.cell hg r (by show r < 16; exact hr)
    rw [h1]
    congr 2
    have : ∀ t : Fin 16, (Crc.tab.map fun n : Nat => (n : Int)).getD t.val 0 = ((Crc.tab.getD t.val 0 : Nat) : Int) := by decide
    exact this ⟨r, hr⟩
  refine ⟨hc, ?_⟩
  have h0 := hc 0 (by decide)
  by_cases hlt : 0 < W.heap.size
  · exact hlt
  · have : W.heap[0]? = none := Array.getElem?_eq_none (by omega)
    simp [World.cell?, this] at h0
end Go.Proofs.YtidikciankcopaaDoor
