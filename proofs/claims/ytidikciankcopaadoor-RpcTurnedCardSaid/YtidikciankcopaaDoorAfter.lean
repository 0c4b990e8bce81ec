/- A region that draws its order, whose operations read what stays and whose callees only make memory: one walk in the order of the text. No program is named. -/
import Derived.Test.YtidikciankcopaaDoorLib
import Derived.Deep.RegionHeld3
namespace Go.Proofs.YtidikciankcopaaDoor
open Go.RowKit

theorem cellExt {w w' : World} (hb : Below w.heap.size w w') {a : Addr} {v : Value} (h : w.cell? a = some v) : w'.cell? a = some v :=
  (hb.cell (World.block_lt_of_cell? w a h)).trans h

/-- a world that has grown out of W -/
structure After (W : World) where
  w : World
  h : Below W.heap.size W w

def After.one (W : World) : After W := ⟨{ W with drawn := W.drawn + 1 }, ⟨rfl, rfl, rfl, Nat.le_refl _, fun _ _ => rfl⟩⟩

instance After.some (W : World) : Nonempty (After W) := ⟨After.one W⟩

theorem wp_region_after {P : Program} {id : Nat} {Q : Exit → Act → World → Prop} {a : Act} {w : World} {l : List Oper} (hm : P.follows .mixedOrders = true) (hB : Region.lexB .any l.toArray = true)
    (h : wpQuiet P l.toArray (fun w' => ∃ n : After w, w' = n.w) (fun a' => ∀ w', (∃ n : After w, w' = n.w) → Q .normal a' w') l a) : (Code.region id l.toArray true).wp P Q a w :=
  wp_region_quiet (C := fun w' => ∃ n : After w, w' = n.w) hm hB ⟨After.one w, rfl⟩ (by simpa using h)

theorem calls_after {P : Program} {f : FuncId} {args : Array Value} {W : World} {n : After W} {v : Value}
    (h : Calls P f args n.w fun e w' => e = .returned v ∧ Below n.w.heap.size n.w w') : Calls P f args n.w fun e w'' => e = .returned v ∧ ∃ m : After W, w'' = m.w :=
  h.mono fun _ w' ⟨he, hb⟩ => ⟨he, ⟨w', n.h.trans (hb.mono n.h.size)⟩, rfl⟩
theorem after_cell {W : World} {a : Addr} {v : Value} (h : W.cell? a = some v) (n : After W) : n.w.cell? a = some v := cellExt n.h h
end Go.Proofs.YtidikciankcopaaDoor
