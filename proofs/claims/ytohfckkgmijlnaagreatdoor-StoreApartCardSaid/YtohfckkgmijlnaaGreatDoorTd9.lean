/- The walk of txn.Do. -/
import Derived.Test.YtohfckkgmijlnaaGreatDoorPQ
import Derived.Test.YtohfckkgmijlnaaGreatDoorPK
import Derived.Test.YtohfckkgmijlnaaGreatDoorRd9
import Derived.Defers
import Derived.RegionTactic
namespace Go.Proofs.YtohfckkgmijlnaaGreatDoor
open Go.RowKit Go.WideShapes

/-- what txn.Do leaves: what is handed back is the call's own -/
def TDoOut (x : TDoR) (w : World) (e : Ending) (w' : World) : Prop := ∃ dv kv, e = .returned (.tuple #[.agg #[dv, kv, .int .i64 x.o.seq], .bool x.there, .int .i64 x.e]) ∧ Own8 w.heap.size w' dv kv x.o ∧ Below w.heap.size w w'
theorem set1_blk {w : World} {p : Nat} {t : TypeId} {a x : Value} (h : w.heap[p]? = some (.cells #[a] t (0, 0))) : (w.setCell ⟨p, 0, none⟩ x).heap[p]? = some (.cells #[x] t (0, 0)) := by
  simp [World.setCell, Array.getElem?_modify, h]
theorem results_cells3 {P : Program} {fn : Func} {p1 p2 p3 : Tmp} {t1 t2 t3 : TypeId} (h : fn.results = #[.cell p1 t1, .cell p2 t2, .cell p3 t3]) (tmps : Array Value) (w : World) (g1 g2 g3 : Nat) (s1 s2 s3 : TypeId) (cs : Array Value) (v2 v3 : Value) (d1 d2 d3 : TypeDesc)
    (hp1 : tmps.getD p1 undef = .pointer (some ⟨g1, 0, none⟩)) (hp2 : tmps.getD p2 undef = .pointer (some ⟨g2, 0, none⟩)) (hp3 : tmps.getD p3 undef = .pointer (some ⟨g3, 0, none⟩))
    (hg1 : w.heap[g1]? = some (.cells cs s1 (0, 0))) (hg2 : w.heap[g2]? = some (.cells #[v2] s2 (0, 0))) (hg3 : w.heap[g3]? = some (.cells #[v3] s3 (0, 0)))
    (hu1 : P.underlying t1 = some d1) (hd1 : (match d1 with | .struct _ | .array _ _ => true | _ => false) = true) (hi : (P.info? t1).map (·.size) = some cs.size)
    (hu2 : P.underlying t2 = some d2) (hd2 : (match d2 with | .struct _ | .array _ _ => true | _ => false) = false) (hu3 : P.underlying t3 = some d3) (hd3 : (match d3 with | .struct _ | .array _ _ => true | _ => false) = false) :
    (results fn tmps).run P w = .ok (.tuple #[.agg cs, v2, v3]) w := by
  have hp1' : tmps[p1]?.getD undef = .pointer (some ⟨g1, 0, none⟩) := by simpa using hp1
  have hp2' : tmps[p2]?.getD undef = .pointer (some ⟨g2, 0, none⟩) := by simpa using hp2
  have hp3' : tmps[p3]?.getD undef = .pointer (some ⟨g3, 0, none⟩) := by simpa using hp3
  have c2 : w.cell? ⟨g2, 0, none⟩ = some v2 := (blk_cell hg2).1
  have c3 : w.cell? ⟨g3, 0, none⟩ = some v3 := (blk_cell hg3).1
  have l2 : (loadVar t2 ⟨g2, 0, none⟩).run P w = .ok v2 w := by
    cases d2 <;> simp_all [loadVar, isAgg, underlying, Result.andThen]
  have l3 : (loadVar t3 ⟨g3, 0, none⟩).run P w = .ok v3 w := by
    cases d3 <;> simp_all [loadVar, isAgg, underlying, Result.andThen]
  simp [results, h, hp1', hp2', hp3', asAddr, run_loadVar_row w g1 s1 t1 cs (0, 0) d1 hg1 hu1 hd1 hi, l2, l3]
theorem tdo1_ok (pe po pi : Nat) (w : World) (he : w.cell? ⟨pe, 0, none⟩ = some (.int .i64 0)) :
    CallsD Tryz.prog 33 #[.pointer (some ⟨pe, 0, none⟩), .pointer (some ⟨po, 0, none⟩), .pointer (some ⟨pi, 0, none⟩)] .returning w fun e u' w' => u' = .returning ∧ (e = .returned (.tuple #[]) ∧ w' = w) := by
  go_enter_d Tryz.func33, Tryz.ntmps33
  go_wp2
  go_end0
  exact ⟨rfl, rfl⟩
theorem tdo1_err (pe po pi : Nat) (E : Int) (a b c x : Value) (w : World) (hE : E ≠ 0) (he : w.cell? ⟨pe, 0, none⟩ = some (.int .i64 E))
    (ho : w.heap[po]? = some (.cells #[a, b, c] 41 (0, 0))) (hi : w.heap[pi]? = some (.cells #[x] 4 (0, 0))) (hne : pi ≠ po) :
    CallsD Tryz.prog 33 #[.pointer (some ⟨pe, 0, none⟩), .pointer (some ⟨po, 0, none⟩), .pointer (some ⟨pi, 0, none⟩)] .returning w fun e u' w' => u' = .returning ∧ (e = .returned (.tuple #[]) ∧
      w' = (((w.setCell ⟨po, 0, none⟩ (.slice none 0 0)).setCell ⟨po, 1, none⟩ (.slice none 0 0)).setCell ⟨po, 2, none⟩ (.int .i64 0)).setCell ⟨pi, 0, none⟩ (.bool false)) := by
  have t1 : (E != 0) = true := by simpa using hE
  have t2 : (E == 0) = false := by simpa using hE
  obtain ⟨y0, e0⟩ := blk_cell (i := 0) (ho)
  obtain ⟨y1, e1⟩ := blk_cell (i := 1) (ho)
  obtain ⟨y2, e2⟩ := blk_cell (i := 2) (ho)
  simp at y0 y1 y2
  obtain ⟨z0, g0⟩ := blk_cell (i := 0) hi
  simp at z0
  clear hE ho hi
  go_enter_d Tryz.func33, Tryz.ntmps33
  go_wp2
  go_end0
  exact ⟨rfl, rfl⟩
theorem door_blks {w : World} {p : Nat} {a b c d e x y z u v : Value} {tp ti te : TypeId} (h2 : w.heap[p + 1 + 1]? = some (.cells #[a, b, c] tp (0, 0))) (h3 : w.heap[p + 1 + 1 + 1]? = some (.cells #[d] ti (0, 0))) (h4 : w.heap[p + 1 + 1 + 1 + 1]? = some (.cells #[e] te (0, 0))) :
    (((((w.setCell ⟨p + 1 + 1, 0, none⟩ x).setCell ⟨p + 1 + 1, 1, none⟩ y).setCell ⟨p + 1 + 1, 2, none⟩ z).setCell ⟨p + 1 + 1 + 1, 0, none⟩ u).setCell ⟨p + 1 + 1 + 1 + 1, 0, none⟩ v).heap[p + 1 + 1]? = some (.cells #[x, y, z] tp (0, 0)) ∧
    (((((w.setCell ⟨p + 1 + 1, 0, none⟩ x).setCell ⟨p + 1 + 1, 1, none⟩ y).setCell ⟨p + 1 + 1, 2, none⟩ z).setCell ⟨p + 1 + 1 + 1, 0, none⟩ u).setCell ⟨p + 1 + 1 + 1 + 1, 0, none⟩ v).heap[p + 1 + 1 + 1]? = some (.cells #[u] ti (0, 0)) ∧
    (((((w.setCell ⟨p + 1 + 1, 0, none⟩ x).setCell ⟨p + 1 + 1, 1, none⟩ y).setCell ⟨p + 1 + 1, 2, none⟩ z).setCell ⟨p + 1 + 1 + 1, 0, none⟩ u).setCell ⟨p + 1 + 1 + 1 + 1, 0, none⟩ v).heap[p + 1 + 1 + 1 + 1]? = some (.cells #[v] te (0, 0)) := by
  refine ⟨?_, ?_, ?_⟩ <;> simp [World.setCell, Array.getElem?_modify, h2, h3, h4] <;> (try (intro h; omega))
theorem door_blks2 {w : World} {p : Nat} {a b c d e x y z u : Value} {tp ti te : TypeId} (h2 : w.heap[p + 1 + 1]? = some (.cells #[a, b, c] tp (0, 0))) (h3 : w.heap[p + 1 + 1 + 1]? = some (.cells #[d] ti (0, 0))) (h4 : w.heap[p + 1 + 1 + 1 + 1]? = some (.cells #[e] te (0, 0))) :
    ((((w.setCell ⟨p + 1 + 1, 0, none⟩ x).setCell ⟨p + 1 + 1, 1, none⟩ y).setCell ⟨p + 1 + 1, 2, none⟩ z).setCell ⟨p + 1 + 1 + 1, 0, none⟩ u).heap[p + 1 + 1]? = some (.cells #[x, y, z] tp (0, 0)) ∧
    ((((w.setCell ⟨p + 1 + 1, 0, none⟩ x).setCell ⟨p + 1 + 1, 1, none⟩ y).setCell ⟨p + 1 + 1, 2, none⟩ z).setCell ⟨p + 1 + 1 + 1, 0, none⟩ u).heap[p + 1 + 1 + 1]? = some (.cells #[u] ti (0, 0)) ∧
    ((((w.setCell ⟨p + 1 + 1, 0, none⟩ x).setCell ⟨p + 1 + 1, 1, none⟩ y).setCell ⟨p + 1 + 1, 2, none⟩ z).setCell ⟨p + 1 + 1 + 1, 0, none⟩ u).heap[p + 1 + 1 + 1 + 1]? = some (.cells #[e] te (0, 0)) := by
  refine ⟨?_, ?_, ?_⟩ <;> simp [World.setCell, Array.getElem?_modify, h2, h3, h4] <;> (try (intro h; omega))
theorem own_door {base : Nat} {w : World} {p : Nat} {x y z u v dv kv : Value} {d : Bool} {e : Int} {o : ObD} (h : Own8 base w dv kv o)
    (h2 : w.heap[p + 1 + 1]? = some (.cells #[.slice none 0 0, .slice none 0 0, .int .i64 0] 41 (0, 0))) (h3 : w.heap[p + 1 + 1 + 1]? = some (.cells #[.bool d] 4 (0, 0))) (h4 : w.heap[p + 1 + 1 + 1 + 1]? = some (.cells #[.int .i64 e] 34 (0, 0))) :
    Own8 base (((((w.setCell ⟨p + 1 + 1, 0, none⟩ x).setCell ⟨p + 1 + 1, 1, none⟩ y).setCell ⟨p + 1 + 1, 2, none⟩ z).setCell ⟨p + 1 + 1 + 1, 0, none⟩ u).setCell ⟨p + 1 + 1 + 1 + 1, 0, none⟩ v) dv kv o := by
  have k1 := h.past h2 (by decide) (by decide) (boxO3 _ _ _ _ _ _ _) (set3_past x y z).1 (set3_past x y z).2
  have b3 : (((w.setCell ⟨p + 1 + 1, 0, none⟩ x).setCell ⟨p + 1 + 1, 1, none⟩ y).setCell ⟨p + 1 + 1, 2, none⟩ z).heap[p + 1 + 1 + 1]? = some (.cells #[.bool d] 4 (0, 0)) := dset3 rfl (by omega) h3
  have k2 := k1.past (w' := (((w.setCell ⟨p + 1 + 1, 0, none⟩ x).setCell ⟨p + 1 + 1, 1, none⟩ y).setCell ⟨p + 1 + 1, 2, none⟩ z).setCell ⟨p + 1 + 1 + 1, 0, none⟩ u) b3 (by decide) (by decide) (boxB _) (by simp [World.setCell]) fun b hb _ => Below.heap_setCell _ _ _ _ hb
  have b4 : ((((w.setCell ⟨p + 1 + 1, 0, none⟩ x).setCell ⟨p + 1 + 1, 1, none⟩ y).setCell ⟨p + 1 + 1, 2, none⟩ z).setCell ⟨p + 1 + 1 + 1, 0, none⟩ u).heap[p + 1 + 1 + 1 + 1]? = some (.cells #[.int .i64 e] 34 (0, 0)) :=
    (Below.heap_setCell _ _ _ _ (show p + 1 + 1 + 1 + 1 ≠ p + 1 + 1 + 1 by omega)).trans (dset3 rfl (by omega) h4)
  exact k2.past b4 (by decide) (by decide) (boxI _) (by simp [World.setCell]) fun b hb _ => Below.heap_setCell _ _ _ _ hb
/-- the deferred closure, and what is handed back -/
theorem tdo_door {X : TDoR} {w W : World} {T : Array Value} {p : Nat} {dv kv : Value} {o : ObD} {b : Bool} {E : Int} (h6 : T.getD 6 undef = .pointer (some ⟨p + 1 + 1, 0, none⟩)) (h7 : T.getD 7 undef = .pointer (some ⟨p + 1 + 1 + 1, 0, none⟩)) (h8 : T.getD 8 undef = .pointer (some ⟨p + 1 + 1 + 1 + 1, 0, none⟩))
    (hO : W.heap[p + 1 + 1]? = some (.cells #[dv, kv, .int .i64 o.seq] 41 (0, 0))) (hI : W.heap[p + 1 + 1 + 1]? = some (.cells #[.bool b] 4 (0, 0))) (hEb : W.heap[p + 1 + 1 + 1 + 1]? = some (.cells #[.int .i64 E] 34 (0, 0)))
    (hown : Own8 w.heap.size W dv kv o) (hB : Below w.heap.size w W) (hp : w.heap.size ≤ p) (hX : (E = 0 ∧ X = ⟨o, b, 0⟩) ∨ (E ≠ 0 ∧ X = TDoR.no E)) :
    bodyPostD Tryz.prog Tryz.f26 (TDoOut X w) .ret { tmps := T, defers := [{ target := .fn (.func 33) #[.pointer (some ⟨p + 1 + 1 + 1 + 1, 0, none⟩), .pointer (some ⟨p + 1 + 1, 0, none⟩), .pointer (some ⟨p + 1 + 1 + 1, 0, none⟩)], args := #[] }] } W := by
  show Leaves _ _ _ _ _ _ _
  refine leaves_cons (f := 33) (args := #[.pointer (some ⟨p + 1 + 1 + 1 + 1, 0, none⟩), .pointer (some ⟨p + 1 + 1, 0, none⟩), .pointer (some ⟨p + 1 + 1 + 1, 0, none⟩)]) (by simp) (by simp [go_sem]) ?_
  rcases hX with ⟨rfl, rfl⟩ | ⟨hE, rfl⟩
  · refine (tdo1_ok _ _ _ W (blk_cell hEb).1).mono ?_
    rintro e u' w'' ⟨rfl, rfl, rfl⟩
    exact ⟨_, results_cells3 rfl _ _ (p + 1 + 1) (p + 1 + 1 + 1) (p + 1 + 1 + 1 + 1) _ _ _ _ _ _ _ _ _ h6 h7 h8 hO hI hEb Tryz.underlying41 rfl (by kernel_rfl) Tryz.underlying4 rfl Tryz.underlying34 rfl, dv, kv, rfl, hown, hB⟩
  · refine (tdo1_err _ _ _ E _ _ _ _ W hE (blk_cell hEb).1 hO hI (by omega)).mono ?_
    rintro e u' w'' ⟨rfl, rfl, rfl⟩
    obtain ⟨c1, c2, c3⟩ := door_blks2 (x := .slice none 0 0) (y := .slice none 0 0) (z := .int .i64 0) (u := .bool false) hO hI hEb
    exact ⟨_, results_cells3 rfl _ _ (p + 1 + 1) (p + 1 + 1 + 1) (p + 1 + 1 + 1 + 1) _ _ _ _ _ _ _ _ _ h6 h7 h8 c1 c2 c3 Tryz.underlying41 rfl (by kernel_rfl) Tryz.underlying4 rfl Tryz.underlying34 rfl, .slice none 0 0, .slice none 0 0, rfl, Own8.none _ _, (below3 hB (by omega) _ _ _).setCell (show w.heap.size ≤ p + 1 + 1 + 1 by omega) _⟩
end Go.Proofs.YtohfckkgmijlnaaGreatDoor
