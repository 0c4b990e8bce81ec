/- Pieces: the plain law: a unit's bytes one by one are a unit at once. -/
import Derived.Test.YthbpafbgnenljaaRoom
namespace Go.Proofs.Ythbpafbgnenljaa
open Go.RowKit

structure Pc where
  ob : Int
  off : Int
  len : Int
  fr : Int
def Pc.cells (p : Pc) : List Value := [.int .i64 p.ob, .int .i64 p.off, .int .i64 p.len, .int .i64 p.fr]
def pcCells (l : List Pc) : List Value := l.flatMap Pc.cells
theorem length_pcCells (l : List Pc) : (pcCells l).length = l.length * 4 := by
  induction l with
  | nil => rfl
  | cons p l ih => simp [pcCells, Pc.cells] at *; omega
theorem pcCells_append (a b : List Pc) : pcCells (a ++ b) = pcCells a ++ pcCells b := by simp [pcCells]
theorem pcCells_at (l : List Pc) (i : Nat) (h : i < l.length) : (pcCells l)[i * 4]? = some (.int .i64 l[i].ob) ∧ (pcCells l)[i * 4 + 1]? = some (.int .i64 l[i].off) ∧ (pcCells l)[i * 4 + 2]? = some (.int .i64 l[i].len) ∧ (pcCells l)[i * 4 + 3]? = some (.int .i64 l[i].fr) := by
  induction l generalizing i with
  | nil => simp at h
  | cons p l ih =>
    cases i with
    | zero => simp [pcCells, Pc.cells]
    | succ i =>
      have := ih i (by simpa using h)
      simp only [pcCells, List.flatMap_cons, Pc.cells, List.cons_append, List.nil_append] at *
      rw [show (i + 1) * 4 = i * 4 + 4 by omega]
      simpa [show i * 4 + 4 + 1 = i * 4 + 1 + 4 by omega, show i * 4 + 4 + 2 = i * 4 + 2 + 4 by omega, show i * 4 + 4 + 3 = i * 4 + 3 + 4 by omega] using this

theorem pcCells_set (l : List Pc) (q : Pc) (n : Int) : (pcCells (l ++ [q])).set (l.length * 4 + 2) (.int .i64 n) = pcCells (l ++ [{ q with len := n }]) := by
  rw [pcCells_append, pcCells_append, List.set_append_right _ _ (by rw [length_pcCells]; omega), length_pcCells]
  rw [show l.length * 4 + 2 - l.length * 4 = 2 by omega]
  rfl
/-- does p go on where l ends? -/
def goesOn (l : List Pc) (p : Pc) : Bool := match l.getLast? with
  | some q => q.ob == p.ob && q.off + q.len == p.off
  | none => false
def joinP (l : List Pc) (p : Pc) : List Pc := match l.getLast? with
  | some q => if q.ob == p.ob && q.off + q.len == p.off then l.dropLast ++ [{ q with len := q.len + p.len }] else l ++ [p]
  | none => [p]
theorem joinP_nil (p : Pc) : joinP [] p = [p] := rfl
theorem joinP_hit (l : List Pc) (q p : Pc) (h : q.ob = p.ob) (h' : q.off + q.len = p.off) : joinP (l ++ [q]) p = l ++ [{ q with len := q.len + p.len }] := by
  simp [joinP, h, h']
theorem joinP_miss (l : List Pc) (q p : Pc) (h : ¬ (q.ob = p.ob ∧ q.off + q.len = p.off)) : joinP (l ++ [q]) p = l ++ [q] ++ [p] := by
  simp [joinP]
  intro a b
  exact absurd ⟨a, b⟩ h
theorem snoc_cases {α : Type} (l : List α) : l = [] ∨ ∃ a q, l = a ++ [q] := by
  rcases List.eq_nil_or_concat l with h | ⟨a, q, h⟩
  · exact .inl h
  · exact .inr ⟨a, q, by rw [h, List.concat_eq_append]⟩
theorem joinP_joinP (l : List Pc) (p : Pc) (d f : Int) : joinP (joinP l p) ⟨p.ob, p.off + p.len, d, f⟩ = joinP l { p with len := p.len + d } := by
  rcases snoc_cases l with rfl | ⟨a, q, rfl⟩
  · rw [joinP_nil, joinP_nil]
    exact joinP_hit [] p _ rfl rfl
  · by_cases h : q.ob = p.ob ∧ q.off + q.len = p.off
    · rw [joinP_hit a q p h.1 h.2, joinP_hit a q { p with len := p.len + d } h.1 h.2, joinP_hit]
      · simp [Int.add_assoc]
      · exact h.1
      · show q.off + (q.len + p.len) = p.off + p.len
        omega
    · rw [joinP_miss a q p h, joinP_miss a q { p with len := p.len + d } h, joinP_hit]
      · rfl
      · rfl
theorem length_joinP (l : List Pc) (p : Pc) : (joinP l p).length ≤ l.length + 1 := by
  rcases snoc_cases l with rfl | ⟨a, q, rfl⟩
  · simp [joinP_nil]
  · by_cases h : q.ob = p.ob ∧ q.off + q.len = p.off
    · rw [joinP_hit a q p h.1 h.2]; simp
    · rw [joinP_miss a q p h]; simp

def pcAt (u c o off : Int) (i : Nat) (m : Int) : Pc := ⟨plO u c o (off + i), plK u c o (off + i), m, i⟩
/-- the pieces of the first i bytes -/
def pcs (u c o off : Int) : Nat → List Pc
  | 0 => []
  | i + 1 => joinP (pcs u c o off i) (pcAt u c o off i 1)
theorem length_pcs (u c o off : Int) (i : Nat) : (pcs u c o off i).length ≤ i := by
  induction i with
  | zero => simp [pcs]
  | succ i ih => have := length_joinP (pcs u c o off i) (pcAt u c o off i 1); simp only [pcs]; omega
theorem pcs_unit {u c o off : Int} (H : Lay u c o) (i : Nat) (m : Nat) (h : (off + i) % u + (m + 1) ≤ u) :
    pcs u c o off (i + (m + 1)) = joinP (pcs u c o off i) (pcAt u c o off i ((m : Int) + 1)) := by
  induction m with
  | zero => rfl
  | succ m ih =>
    have e : pcs u c o off (i + (m + 1 + 1)) = joinP (pcs u c o off (i + (m + 1))) (pcAt u c o off (i + (m + 1)) 1) := rfl
    rw [e, ih (by omega)]
    have p := pl_in H (off := off + i) (d := (m : Int) + 1) (by omega) (by omega)
    have := joinP_joinP (pcs u c o off i) (pcAt u c o off i ((m : Int) + 1)) 1 ((i + (m + 1) : Nat) : Int)
    have x : pcAt u c o off (i + (m + 1)) 1 = ⟨(pcAt u c o off i ((m : Int) + 1)).ob, (pcAt u c o off i ((m : Int) + 1)).off + (pcAt u c o off i ((m : Int) + 1)).len, 1, ((i + (m + 1) : Nat) : Int)⟩ := by
      unfold pcAt
      rw [show off + ((i + (m + 1) : Nat) : Int) = off + i + ((m : Int) + 1) by omega, p.1, p.2]
    rw [x, this]
    rfl
def PCS (u c o off n : Int) : List Pc := if okB u c o && inF off && decide (0 ≤ n) && decide (n ≤ 512) then pcs u c o off n.toNat else []
end Go.Proofs.Ythbpafbgnenljaa
