/- How many bytes of an object an image has: both functions find the one number that parts the object's bytes. Pieces: the plain law: a unit's bytes one by one are a unit at once. Which of a span's bytes the pieces of an object have, plainly. Walks of Pieces and its closure. The walk of Pieces. The walk of the reference's Pieces. -/
import Derived.Test.YtlekdfajcpmolaaGreatDoorGCA
namespace Go.Proofs.YtlekdfajcpmolaaGreatDoor
open Go.RowKit

/-- n parts the bytes below m of an object into those that lie below s and those that don't -/
def Parts (u c o ob s m n : Int) : Prop := 0 ≤ n ∧ n ≤ m ∧ ∀ k, 0 ≤ k → k < m → (k < n ↔ bk u c o ob k < s)
theorem Parts.one {u c o ob s m n n' : Int} (h : Parts u c o ob s m n) (h' : Parts u c o ob s m n') : n = n' := by
  obtain ⟨a0, a1, a2⟩ := h
  obtain ⟨b0, b1, b2⟩ := h'
  rcases Int.lt_trichotomy n n' with g | g | g
  · have h1 := (b2 n (by omega) (by omega)).1 g
    have h2 := (a2 n (by omega) (by omega)).2 h1
    omega
  · exact g
  · have h1 := (a2 n' (by omega) (by omega)).1 g
    have h2 := (b2 n' (by omega) (by omega)).2 h1
    omega
theorem plO_le_off {u c o off : Int} (H : Lay u c o) (h : 0 ≤ off) : plO u c o off ≤ off := by
  have a := Int.ediv_nonneg h (show 0 ≤ u by have := H.u1; omega)
  have b := Int.ediv_nonneg a (show 0 ≤ c by have := H.c1; omega)
  have d := Int.ediv_le_self (o / u) b
  have e := qr_sum (off / u) c
  have f := Int.ediv_le_self u h
  have g : off / u / c / (o / u) * c ≤ off / u / c * c := Int.mul_le_mul_of_nonneg_right d (by have := H.c1; omega)
  unfold plO; omega
section
variable {u c o : Int} (H : Lay u c o)
include H
theorem parts_hit {ob i n : Int} (_hi : 0 ≤ i) (_h0 : 0 ≤ ob) (h : Parts u c o ob i o n) (hp : plO u c o i = ob) :
    Parts u c o ob (i + 1) o (max n (plK u c o i + 1)) := by
  have r := plK_range H (off := i)
  have e := bk_pl H (off := i)
  rw [hp] at e
  obtain ⟨a, b, d⟩ := h
  have hn : ¬ plK u c o i < n := fun g => by have := (d _ r.1 r.2).1 g; omega
  refine ⟨by omega, by omega, fun k k0 k1 => ?_⟩
  rcases Int.lt_trichotomy k (plK u c o i) with g | g | g
  · have := bk_lt H (ob := ob) k0 g
    omega
  · subst g; omega
  · have h1 := bk_lt H (ob := ob) r.1 g
    have h2 := d k k0 k1
    have h3 : ¬ bk u c o ob k < i := by omega
    have h4 : ¬ k < n := fun g => h3 (h2.1 g)
    omega
theorem parts_miss {ob i n : Int} (h0 : 0 ≤ ob) (h : Parts u c o ob i o n) (hp : plO u c o i ≠ ob) :
    Parts u c o ob (i + 1) o n := by
  obtain ⟨a, b, d⟩ := h
  refine ⟨a, b, fun k k0 k1 => ?_⟩
  have h1 := d k k0 k1
  have h2 : bk u c o ob k ≠ i := fun e => hp (by have := (pl_bk H h0 k0 k1).1; rw [e] at this; exact this)
  omega
theorem parts_none {ob : Int} (h0 : 0 ≤ ob) : Parts u c o ob 0 o 0 :=
  ⟨Int.le_refl _, by have := H.uo; have := H.u1; omega, fun k k0 k1 => by have := bk_nonneg H (k := k) h0 k0; omega⟩
end

def Rm (u c o ob s r : Int) : Prop := if okB u c o && inF ob && decide (0 ≤ s) && decide (s ≤ 512) then Parts u c o ob s o r else r = 0
theorem Rm.one {u c o ob s r r' : Int} (h : Rm u c o ob s r) (h' : Rm u c o ob s r') : r = r' := by
  unfold Rm at h h'
  split at h
  · rw [if_pos (by assumption)] at h'
    exact h.one h'
  · rw [if_neg (by assumption)] at h'
    omega
theorem Rm.no {u c o ob s : Int} (h : okB u c o = false ∨ ob < 0 ∨ 1099511627776 < ob ∨ s < 0 ∨ 512 < s) : Rm u c o ob s 0 := by
  unfold Rm
  rw [if_neg]
  simp only [Bool.and_eq_true, decide_eq_true_eq, inF_iff]
  rintro ⟨⟨⟨a, b⟩, d⟩, e⟩
  rw [a] at h
  simp at h
  omega
theorem Rm.yes {u c o ob s r : Int} (h : okB u c o = true) (h0 : 0 ≤ ob) (h1 : ob ≤ 1099511627776) (h2 : 0 ≤ s) (h3 : s ≤ 512) (p : Parts u c o ob s o r) : Rm u c o ob s r := by
  unfold Rm
  rw [if_pos]
  · exact p
  · simp only [Bool.and_eq_true, decide_eq_true_eq, inF_iff]
    exact ⟨⟨⟨h, h0, h1⟩, h2⟩, h3⟩

end Go.Proofs.YtlekdfajcpmolaaGreatDoor
namespace Go.Proofs.YtlekdfajcpmolaaGreatDoor
open Go.RowKit

structure Pc where
  ob : Int
  off : Int
  len : Int
  fr : Int
def Pc.cells (p : Pc) : List Value := [.int .i64 p.ob, .int .i64 p.off, .int .i64 p.len, .int .i64 p.fr]
def pcCells (l : List Pc) : List Value := l.flatMap Pc.cells
theorem length_pcCells (l : List Pc) : (pcCells l).length = l.length * 4 := by
  induction l with
  | nil => rfl
  | cons p l ih => simp [pcCells, Pc.cells] at *; omega
theorem pcCells_append (a b : List Pc) : pcCells (a ++ b) = pcCells a ++ pcCells b := by simp [pcCells]
theorem pcCells_at (l : List Pc) (i : Nat) (h : i < l.length) : (pcCells l)[i * 4]? = some (.int .i64 l[i].ob) ∧ (pcCells l)[i * 4 + 1]? = some (.int .i64 l[i].off) ∧ (pcCells l)[i * 4 + 2]? = some (.int .i64 l[i].len) ∧ (pcCells l)[i * 4 + 3]? = some (.int .i64 l[i].fr) := by
  induction l generalizing i with
  | nil => simp at h
  | cons p l ih =>
    cases i with
    | zero => simp [pcCells, Pc.cells]
    | succ i =>
      have := ih i (by simpa using h)
      simp only [pcCells, List.flatMap_cons, Pc.cells, List.cons_append, List.nil_append] at *
      rw [show (i + 1) * 4 = i * 4 + 4 by omega]
      simpa [show i * 4 + 4 + 1 = i * 4 + 1 + 4 by omega, show i * 4 + 4 + 2 = i * 4 + 2 + 4 by omega, show i * 4 + 4 + 3 = i * 4 + 3 + 4 by omega] using this

theorem pcCells_set (l : List Pc) (q : Pc) (n : Int) : (pcCells (l ++ [q])).set (l.length * 4 + 2) (.int .i64 n) = pcCells (l ++ [{ q with len := n }]) := by
  rw [pcCells_append, pcCells_append, List.set_append_right _ _ (by rw [length_pcCells]; omega), length_pcCells]
  rw [show l.length * 4 + 2 - l.length * 4 = 2 by omega]
  rfl
def joinP (l : List Pc) (p : Pc) : List Pc := match l.getLast? with
  | some q => if q.ob == p.ob && q.off + q.len == p.off then l.dropLast ++ [{ q with len := q.len + p.len }] else l ++ [p]
  | none => [p]
theorem joinP_nil (p : Pc) : joinP [] p = [p] := rfl
theorem joinP_hit (l : List Pc) (q p : Pc) (h : q.ob = p.ob) (h' : q.off + q.len = p.off) : joinP (l ++ [q]) p = l ++ [{ q with len := q.len + p.len }] := by
  simp [joinP, h, h']
theorem joinP_miss (l : List Pc) (q p : Pc) (h : ¬ (q.ob = p.ob ∧ q.off + q.len = p.off)) : joinP (l ++ [q]) p = l ++ [q] ++ [p] := by
  simp [joinP]
  intro a b
  exact absurd ⟨a, b⟩ h
theorem snoc_cases {α : Type} (l : List α) : l = [] ∨ ∃ a q, l = a ++ [q] := by
  rcases List.eq_nil_or_concat l with h | ⟨a, q, h⟩
  · exact .inl h
  · exact .inr ⟨a, q, by rw [h, List.concat_eq_append]⟩
theorem joinP_joinP (l : List Pc) (p : Pc) (d f : Int) : joinP (joinP l p) ⟨p.ob, p.off + p.len, d, f⟩ = joinP l { p with len := p.len + d } := by
  rcases snoc_cases l with rfl | ⟨a, q, rfl⟩
  · rw [joinP_nil, joinP_nil]
    exact joinP_hit [] p _ rfl rfl
  · by_cases h : q.ob = p.ob ∧ q.off + q.len = p.off
    · rw [joinP_hit a q p h.1 h.2, joinP_hit a q { p with len := p.len + d } h.1 h.2, joinP_hit]
      · simp [Int.add_assoc]
      · exact h.1
      · show q.off + (q.len + p.len) = p.off + p.len
        omega
    · rw [joinP_miss a q p h, joinP_miss a q { p with len := p.len + d } h, joinP_hit]
      · rfl
      · rfl
theorem length_joinP (l : List Pc) (p : Pc) : (joinP l p).length ≤ l.length + 1 := by
  rcases snoc_cases l with rfl | ⟨a, q, rfl⟩
  · simp [joinP_nil]
  · by_cases h : q.ob = p.ob ∧ q.off + q.len = p.off
    · rw [joinP_hit a q p h.1 h.2]; simp
    · rw [joinP_miss a q p h]; simp

def pcAt (u c o off : Int) (i : Nat) (m : Int) : Pc := ⟨plO u c o (off + i), plK u c o (off + i), m, i⟩
/-- the pieces of the first i bytes -/
def pcs (u c o off : Int) : Nat → List Pc
  | 0 => []
  | i + 1 => joinP (pcs u c o off i) (pcAt u c o off i 1)
theorem length_pcs (u c o off : Int) (i : Nat) : (pcs u c o off i).length ≤ i := by
  induction i with
  | zero => simp [pcs]
  | succ i ih => have := length_joinP (pcs u c o off i) (pcAt u c o off i 1); simp only [pcs]; omega
theorem pcs_unit {u c o off : Int} (H : Lay u c o) (i : Nat) (m : Nat) (h : (off + i) % u + (m + 1) ≤ u) :
    pcs u c o off (i + (m + 1)) = joinP (pcs u c o off i) (pcAt u c o off i ((m : Int) + 1)) := by
  induction m with
  | zero => rfl
  | succ m ih =>
    have e : pcs u c o off (i + (m + 1 + 1)) = joinP (pcs u c o off (i + (m + 1))) (pcAt u c o off (i + (m + 1)) 1) := rfl
    rw [e, ih (by omega)]
    have p := pl_in H (off := off + i) (d := (m : Int) + 1) (by omega) (by omega)
    have := joinP_joinP (pcs u c o off i) (pcAt u c o off i ((m : Int) + 1)) 1 ((i + (m + 1) : Nat) : Int)
    have x : pcAt u c o off (i + (m + 1)) 1 = ⟨(pcAt u c o off i ((m : Int) + 1)).ob, (pcAt u c o off i ((m : Int) + 1)).off + (pcAt u c o off i ((m : Int) + 1)).len, 1, ((i + (m + 1) : Nat) : Int)⟩ := by
      unfold pcAt
      rw [show off + ((i + (m + 1) : Nat) : Int) = off + i + ((m : Int) + 1) by omega, p.1, p.2]
    rw [x, this]
    rfl
def PCS (u c o off n : Int) : List Pc := if okB u c o && inF off && decide (0 ≤ n) && decide (n ≤ 512) then pcs u c o off n.toNat else []
end Go.Proofs.YtlekdfajcpmolaaGreatDoor
namespace Go.Proofs.YtlekdfajcpmolaaGreatDoor

def posP (l : List Pc) (ob : Int) : List Nat := (l.filter fun p => decide (p.ob = ob)).flatMap fun p => List.range' p.fr.toNat p.len.toNat
theorem posP_append (a b : List Pc) (ob : Int) : posP (a ++ b) ob = posP a ob ++ posP b ob := by simp [posP]
theorem posP_one (p : Pc) (ob : Int) : posP [p] ob = if p.ob = ob then List.range' p.fr.toNat p.len.toNat else [] := by
  unfold posP
  by_cases h : p.ob = ob
  · simp [h]
  · simp [h]
theorem range_filter (f : Nat → Int) (ob : Int) (i : Nat) : (List.range (i + 1)).filter (fun k => decide (f k = ob)) = (List.range i).filter (fun k => decide (f k = ob)) ++ (if f i = ob then [i] else []) := by
  rw [List.range_succ, List.filter_append]
  by_cases h : f i = ob
  · simp [h]
  · simp [h]
theorem posP_pcs (u c o off : Int) : ∀ i : Nat, (∀ ob, posP (pcs u c o off i) ob = (List.range i).filter fun k => decide (plO u c o (off + (k : Nat)) = ob)) ∧ (∀ a p, pcs u c o off i = a ++ [p] → p.fr + p.len = (i : Int) ∧ 0 ≤ p.fr ∧ 1 ≤ p.len)
  | 0 => ⟨fun ob => rfl, fun a p h => by cases a <;> cases h⟩
  | i + 1 => by
    obtain ⟨ih, ie⟩ := posP_pcs u c o off i
    have hs : pcs u c o off (i + 1) = joinP (pcs u c o off i) ⟨plO u c o (off + (i : Nat)), plK u c o (off + (i : Nat)), 1, (i : Nat)⟩ := rfl
    have hq : ∀ ob, posP [(⟨plO u c o (off + (i : Nat)), plK u c o (off + (i : Nat)), 1, (i : Nat)⟩ : Pc)] ob = if plO u c o (off + (i : Nat)) = ob then [i] else [] := fun ob => by
      rw [posP_one]
      simp
    rcases snoc_cases (pcs u c o off i) with e | ⟨a, p, e⟩
    · rw [hs]
      rw [e] at ih ⊢
      rw [joinP_nil]
      refine ⟨fun ob => ?_, fun a p h => ?_⟩
      · rw [range_filter (fun k => plO u c o (off + (k : Nat))), ← ih ob, hq]
        rfl
      · have h2 : [] ++ [(⟨plO u c o (off + (i : Nat)), plK u c o (off + (i : Nat)), 1, (i : Nat)⟩ : Pc)] = a ++ [p] := h
        have := List.append_inj_right' h2 rfl
        cases this
        exact ⟨by simp only; omega, by simp only; omega, by simp only; omega⟩
    · obtain ⟨q1, q2, q3⟩ := ie a p e
      by_cases hit : p.ob = plO u c o (off + (i : Nat)) ∧ p.off + p.len = plK u c o (off + (i : Nat))
      · rw [hs, e, joinP_hit a p _ hit.1 hit.2]
        refine ⟨fun ob => ?_, fun a' p' h => ?_⟩
        · rw [range_filter (fun k => plO u c o (off + (k : Nat))), ← ih ob, e, posP_append, posP_append, List.append_assoc]
          congr 1
          rw [posP_one, posP_one, ← hit.1]
          simp only
          by_cases ho : p.ob = ob
          · rw [if_pos ho, if_pos ho, if_pos ho, show (p.len + 1).toNat = p.len.toNat + 1 by omega, List.range'_concat]
            simp only [Nat.one_mul, List.append_cancel_left_eq, List.cons.injEq, and_true]
            omega
          · rw [if_neg ho, if_neg ho, if_neg ho]
            rfl
        · have := (List.append_inj_right' h rfl)
          cases this
          exact ⟨by simp only; omega, q2, by simp only; omega⟩
      · rw [hs, e, joinP_miss a p _ hit]
        refine ⟨fun ob => ?_, fun a' p' h => ?_⟩
        · rw [range_filter (fun k => plO u c o (off + (k : Nat))), ← ih ob, e, posP_append _ [_], hq]
        · have := (List.append_inj_right' h rfl)
          cases this
          exact ⟨by simp only; omega, by simp only; omega, by simp only; omega⟩
end Go.Proofs.YtlekdfajcpmolaaGreatDoor
namespace Go.Proofs.YtlekdfajcpmolaaGreatDoor
open Go.RowKit

abbrev pcV (p : Pc) : Value := .agg #[.int .i64 p.ob, .int .i64 p.off, .int .i64 p.len, .int .i64 p.fr]

theorem Tryz.infoPc : (Tryz.prog.info? 162).map (fun i => (i.zero, i.size, i.bytes)) = some (some (.agg #[.int .i64 0, .int .i64 0, .int .i64 0, .int .i64 0]), 4, 32) := by kernel_rfl

set_option maxHeartbeats 800000 in
/-- the piece goes on where the last one ends -/
theorem join_hit (p q : Pc) (l : List Pc) (bo g cap : Nat) (w : World) (hbo : w.heap[bo]? = some (.cells #[.slice (some ⟨g, 0, none⟩) (l.length + 1) cap] 153 (0, 0)))
    (hown : w.ownsRow (bo + 1) 162 4 (.slice (some ⟨g, 0, none⟩) (l.length + 1) cap) (l.length + 1) (pcCells (l ++ [q])))
    (hl : l.length ≤ 1000) (h1 : q.ob = p.ob) (h2 : q.off + q.len = p.off)
    (b0 : 0 ≤ q.off) (b1 : 0 ≤ q.len) (b2 : 0 ≤ p.len) (b3 : p.off ≤ 1000) (b4 : p.len ≤ 1000) :
    Calls Tryz.prog 185 #[pcV p, .pointer (some ⟨bo, 0, none⟩)] w fun e w' => e = .returned (.tuple #[]) ∧
      w'.ownsRow (bo + 1) 162 4 (.slice (some ⟨g, 0, none⟩) (l.length + 1) cap) (l.length + 1) (pcCells (l ++ [{ q with len := q.len + p.len }])) ∧ w'.heap[bo]? = w.heap[bo]? ∧ Fr (fun k => k = g) w w' := by
  have hbs := lt_of_block hbo
  have hb0 := cell_of_one hbo
  have hgb := (hown.lt g rfl).1
  have hgs := (hown.lt g rfl).2
  have ce := fun j (hj : j < (l.length + 1) * 4) => hown.cellAt j hj
  have hq := pcCells_at (l ++ [q]) l.length (by simp)
  simp only [List.getElem_concat_length] at hq
  have q0 : w.cell? ⟨g, l.length * 4, none⟩ = some (.int .i64 q.ob) := (ce _ (by omega)).trans hq.1
  have q1 : w.cell? ⟨g, l.length * 4 + 1, none⟩ = some (.int .i64 q.off) := (ce _ (by omega)).trans hq.2.1
  have q2 : w.cell? ⟨g, l.length * 4 + 2, none⟩ = some (.int .i64 q.len) := (ce _ (by omega)).trans hq.2.2.1
  have qf : w.frozen? ⟨g, l.length * 4 + 2, none⟩ = false := hown.frozenAt _
  clear ce hq
  have t1 : (q.ob == p.ob) = true := by simp [h1]
  have t2 : (q.off + q.len == p.off) = true := by simp [h2]
  have b5 : q.off + q.len ≤ 1000 := by omega
  have b6 : q.len + p.len ≤ 2000 := by omega
  have HO := Lib.hid hown
  have HB := Lib.hid hbo
  clear hown hbo h1 h2
  go_enter Tryz.func185, Tryz.ntmps185
  go_wp2
  go_quiet (fail)
  go_wp2
  go_region
  all_goals
    go_wp2
    refine bodyPost_ret (results_none rfl _ _ _) rfl ?_
    refine ⟨rfl, ?_, ?_, ?_⟩
    · have := ((ownsRow_drewN (HO.out.alloc (.cells #[.int .i64 p.ob, .int .i64 p.off, .int .i64 p.len, .int .i64 p.fr] 162)) (nq + 1)).stored (l.length * 4 + 2) (.int .i64 (q.len + p.len))).1
      rwa [pcCells_set] at this
    · rw [Below.heap_setCell _ _ _ _ (by simp; omega)]
      exact Below.heap_alloc _ _ _ hbs
    · exact Fr.setCell (S := fun k => k = g) (((Fr.refl _ _).alloc _).drewN _) (fun _ => rfl) _

set_option maxHeartbeats 800000 in
/-- the piece doesn't go on where the last one ends -/
theorem join_miss (p q : Pc) (l : List Pc) (bo g cap : Nat) (w : World) (hbo : w.heap[bo]? = some (.cells #[.slice (some ⟨g, 0, none⟩) (l.length + 1) cap] 153 (0, 0)))
    (hown : w.ownsRow (bo + 1) 162 4 (.slice (some ⟨g, 0, none⟩) (l.length + 1) cap) (l.length + 1) (pcCells (l ++ [q])))
    (hl : l.length ≤ 1000) (h : ¬ (q.ob = p.ob ∧ q.off + q.len = p.off))
    (b0 : 0 ≤ q.off) (b1 : 0 ≤ q.len) (b2 : q.off ≤ 1000) (b3 : q.len ≤ 1000) :
    Calls Tryz.prog 185 #[pcV p, .pointer (some ⟨bo, 0, none⟩)] w fun e w' => ∃ v', e = .returned (.tuple #[]) ∧
      w'.ownsRow (bo + 1) 162 4 v' (l.length + 2) (pcCells (l ++ [q] ++ [p])) ∧ w'.heap[bo]? = some (.cells #[v'] 153 (0, 0)) ∧ Fr (fun k => k = bo ∨ k = g) w w' := by
  have hbs := lt_of_block hbo
  have hb0 := cell_of_one hbo
  have hbf := free_of_one hbo
  have hgb := (hown.lt g rfl).1
  have hgs := (hown.lt g rfl).2
  have ce := fun j (hj : j < (l.length + 1) * 4) => hown.cellAt j hj
  have hq := pcCells_at (l ++ [q]) l.length (by simp)
  simp only [List.getElem_concat_length] at hq
  have q0 : w.cell? ⟨g, l.length * 4, none⟩ = some (.int .i64 q.ob) := (ce _ (by omega)).trans hq.1
  have q1 : w.cell? ⟨g, l.length * 4 + 1, none⟩ = some (.int .i64 q.off) := (ce _ (by omega)).trans hq.2.1
  have q2 : w.cell? ⟨g, l.length * 4 + 2, none⟩ = some (.int .i64 q.len) := (ce _ (by omega)).trans hq.2.2.1
  clear ce hq
  obtain ⟨i0, hi, hz0, hz1, hz2⟩ := info_parts Tryz.infoPc
  have HO := Lib.hid hown
  have HB := Lib.hid hbo
  clear hown hbo
  have fin : ∀ (nq : Nat) (v' : Value) (w3 : World),
      w3.ownsRow (bo + 1) 162 4 v' (l.length + 1 + 1) (pcCells (l ++ [q]) ++ p.cells) →
      ((((w.alloc (.cells #[.int .i64 p.ob, .int .i64 p.off, .int .i64 p.len, .int .i64 p.fr] 162)).drewN nq).alloc (.cells #[.int .i64 p.ob, .int .i64 p.off, .int .i64 p.len, .int .i64 p.fr] 162)).grownBy w3 (some g)) →
      (w3.cell? ⟨bo, 0, none⟩ = some (.slice (some ⟨g, 0, none⟩) (l.length + 1) cap) ∧ w3.frozen? ⟨bo, 0, none⟩ = false) ∧
      (w3.setCell ⟨bo, 0, none⟩ v').ownsRow (bo + 1) 162 4 v' (l.length + 2) (pcCells (l ++ [q] ++ [p])) ∧ (w3.setCell ⟨bo, 0, none⟩ v').heap[bo]? = some (.cells #[v'] 153 (0, 0)) ∧ Fr (fun k => k = bo ∨ k = g) w (w3.setCell ⟨bo, 0, none⟩ v') := by
    intro nq v' w3 ho hg
    have e1 : w3.heap[bo]? = some (.cells #[.slice (some ⟨g, 0, none⟩) (l.length + 1) cap] 153 (0, 0)) := by
      rw [hg.block bo (by simp; omega) (by simp; omega)]
      exact (Below.heap_alloc _ _ _ (by simp; omega)).trans ((Below.heap_alloc _ _ _ hbs).trans HB.out)
    refine ⟨⟨cell_of_one e1, free_of_one e1⟩, ?_, one_setCell e1, ?_⟩
    · have := ownsRow_setCell_below ho (a := ⟨bo, 0, none⟩) (by simp) v'
      rw [pcCells_append]
      simpa [pcCells] using this
    · refine Fr.setCell (Fr.grown ((((Fr.refl _ _).alloc _).drewN nq).alloc _) hg ?_) (fun _ => .inl rfl) _
      intro k _ hk
      simp at hk
      exact .inr hk
  have FIN := Lib.hid fin
  clear fin
  cases t1 : (q.ob == p.ob)
  · clear h
    go_enter Tryz.func185, Tryz.ntmps185
    go_wp2
    go_quiet (fail)
    go_wp2_with (at_builtin; refine wpList_append_own _ rfl _ _ 153 rfl (bo + 1) 162 i0 (.agg #[.int .i64 0, .int .i64 0, .int .i64 0, .int .i64 0]) 4 32 Tryz.underlying153 hi hz0 hz1 hz2 rfl (by decide) _ _ _ rfl ((ownsRow_drewN (HO.out.alloc _) nq).alloc _) ⟨w.heap.size + 1, 0, none⟩ 1 1 p.cells rfl rfl ?c1 ?c2 ?c3 ?c4 ?c5 ?_)
    case c1 =>
      have := cells_new ((w.alloc (.cells #[.int .i64 p.ob, .int .i64 p.off, .int .i64 p.len, .int .i64 p.fr] 162)).drewN nq) p.cells 162
      simpa [Pc.cells] using this
    case c2 => simp [Pc.cells, Value.oneCell']
    case c3 => unfold maxLen; omega
    case c4 => omega
    case c5 => simp; omega
    intro v' w3 ho hg _
    obtain ⟨⟨hc3, hf3⟩, hfin⟩ := FIN.out _ _ _ ho hg
    have HF := Lib.hid hfin
    have hz3 : w.heap.size ≤ w3.heap.size := by have := hg.size; simp at this; omega
    obtain ⟨a3, c3, rfl⟩ := owns_shape ho
    clear hfin ho hg
    go_wp2
    go_end0
    exact ⟨_, rfl, HF.out⟩
  · have t2 : (q.off + q.len == p.off) = false := by
      simp at t1 ⊢
      exact fun e => h ⟨t1, e⟩
    clear h
    go_enter Tryz.func185, Tryz.ntmps185
    go_wp2
    go_quiet (fail)
    go_wp2_with (at_builtin; refine wpList_append_own _ rfl _ _ 153 rfl (bo + 1) 162 i0 (.agg #[.int .i64 0, .int .i64 0, .int .i64 0, .int .i64 0]) 4 32 Tryz.underlying153 hi hz0 hz1 hz2 rfl (by decide) _ _ _ rfl ((ownsRow_drewN (HO.out.alloc _) nq).alloc _) ⟨w.heap.size + 1, 0, none⟩ 1 1 p.cells rfl rfl ?c1 ?c2 ?c3 ?c4 ?c5 ?_)
    case c1 =>
      have := cells_new ((w.alloc (.cells #[.int .i64 p.ob, .int .i64 p.off, .int .i64 p.len, .int .i64 p.fr] 162)).drewN nq) p.cells 162
      simpa [Pc.cells] using this
    case c2 => simp [Pc.cells, Value.oneCell']
    case c3 => unfold maxLen; omega
    case c4 => omega
    case c5 => simp; omega
    intro v' w3 ho hg _
    obtain ⟨⟨hc3, hf3⟩, hfin⟩ := FIN.out _ _ _ ho hg
    have HF := Lib.hid hfin
    have hz3 : w.heap.size ≤ w3.heap.size := by have := hg.size; simp at this; omega
    obtain ⟨a3, c3, rfl⟩ := owns_shape ho
    clear hfin ho hg
    go_wp2
    go_end0
    exact ⟨_, rfl, HF.out⟩

set_option maxHeartbeats 800000 in
/-- the first piece -/
theorem join_first (p : Pc) (bo : Nat) (w : World) (hbo : w.heap[bo]? = some (.cells #[.slice none 0 0] 153 (0, 0))) :
    Calls Tryz.prog 185 #[pcV p, .pointer (some ⟨bo, 0, none⟩)] w fun e w' => ∃ v', e = .returned (.tuple #[]) ∧
      w'.ownsRow (bo + 1) 162 4 v' 1 (pcCells [p]) ∧ w'.heap[bo]? = some (.cells #[v'] 153 (0, 0)) ∧ Fr (fun k => k = bo) w w' := by
  have hbs := lt_of_block hbo
  have hb0 := cell_of_one hbo
  have hbf := free_of_one hbo
  obtain ⟨i0, hi, hz0, hz1, hz2⟩ := info_parts Tryz.infoPc
  have HB := Lib.hid hbo
  clear hbo
  have fin : ∀ (nq : Nat) (v' : Value) (w3 : World),
      w3.ownsRow (bo + 1) 162 4 v' (0 + 1) ([] ++ p.cells) →
      ((((w.alloc (.cells #[.int .i64 p.ob, .int .i64 p.off, .int .i64 p.len, .int .i64 p.fr] 162)).drewN nq).alloc (.cells #[.int .i64 p.ob, .int .i64 p.off, .int .i64 p.len, .int .i64 p.fr] 162)).grownBy w3 none) →
      (w3.cell? ⟨bo, 0, none⟩ = some (.slice none 0 0) ∧ w3.frozen? ⟨bo, 0, none⟩ = false) ∧
      (w3.setCell ⟨bo, 0, none⟩ v').ownsRow (bo + 1) 162 4 v' 1 (pcCells [p]) ∧ (w3.setCell ⟨bo, 0, none⟩ v').heap[bo]? = some (.cells #[v'] 153 (0, 0)) ∧ Fr (fun k => k = bo) w (w3.setCell ⟨bo, 0, none⟩ v') := by
    intro nq v' w3 ho hg
    have e1 : w3.heap[bo]? = some (.cells #[.slice none 0 0] 153 (0, 0)) := by
      rw [hg.block bo (by simp; omega) (by simp)]
      exact (Below.heap_alloc _ _ _ (by simp; omega)).trans ((Below.heap_alloc _ _ _ hbs).trans HB.out)
    refine ⟨⟨cell_of_one e1, free_of_one e1⟩, ?_, one_setCell e1, ?_⟩
    · have := ownsRow_setCell_below ho (a := ⟨bo, 0, none⟩) (by simp) v'
      simpa [pcCells] using this
    · refine Fr.setCell (S := fun k => k = bo) (Fr.grown ((((Fr.refl _ _).alloc _).drewN nq).alloc _) hg ?_) (fun _ => rfl) _
      intro k _ hk
      simp at hk
  have FIN := Lib.hid fin
  clear fin
  go_enter Tryz.func185, Tryz.ntmps185
  go_wp2
  go_quiet (fail)
  go_wp2_with (at_builtin; refine wpList_append_own _ rfl _ _ 153 rfl (bo + 1) 162 i0 (.agg #[.int .i64 0, .int .i64 0, .int .i64 0, .int .i64 0]) 4 32 Tryz.underlying153 hi hz0 hz1 hz2 rfl (by decide) _ 0 [] rfl (World.ownsRow_nil _ _ _ _) ⟨w.heap.size + 1, 0, none⟩ 1 1 p.cells rfl rfl ?c1 ?c2 ?c3 ?c4 ?c5 ?_)
  case c1 =>
    have := cells_new ((w.alloc (.cells #[.int .i64 p.ob, .int .i64 p.off, .int .i64 p.len, .int .i64 p.fr] 162)).drewN nq) p.cells 162
    simpa [Pc.cells] using this
  case c2 => simp [Pc.cells, Value.oneCell']
  case c3 => unfold maxLen; omega
  case c4 => omega
  case c5 => simp; omega
  intro v' w3 ho hg _
  obtain ⟨⟨hc3, hf3⟩, hfin⟩ := FIN.out _ _ _ ho hg
  have HF := Lib.hid hfin
  have hz3 : w.heap.size ≤ w3.heap.size := by have := hg.size; simp at this; omega
  obtain ⟨a3, c3, rfl⟩ := owns_shape ho
  clear hfin ho hg
  go_wp2
  go_end0
  exact ⟨_, rfl, HF.out⟩

def Small (o : Int) (l : List Pc) : Prop := ∀ q ∈ l, 0 ≤ q.off ∧ 0 ≤ q.len ∧ q.off + q.len ≤ o

theorem joinP_ne (l : List Pc) (p : Pc) : joinP l p ≠ [] := by
  rcases snoc_cases l with rfl | ⟨a, q, rfl⟩
  · simp [joinP_nil]
  · by_cases h : q.ob = p.ob ∧ q.off + q.len = p.off
    · rw [joinP_hit a q p h.1 h.2]; simp
    · rw [joinP_miss a q p h]; simp
theorem joinP_small {o : Int} {l : List Pc} {p : Pc} (h : Small o l) (h0 : 0 ≤ p.off) (h1 : 0 ≤ p.len) (h2 : p.off + p.len ≤ o) : Small o (joinP l p) := by
  rcases snoc_cases l with rfl | ⟨a, q, rfl⟩
  · rw [joinP_nil]
    intro x hx
    simp at hx
    subst hx
    exact ⟨h0, h1, h2⟩
  · by_cases g : q.ob = p.ob ∧ q.off + q.len = p.off
    · rw [joinP_hit a q p g.1 g.2]
      intro x hx
      simp at hx
      rcases hx with hx | hx
      · exact h x (by simp [hx])
      · subst hx
        have := h q (by simp)
        simp only
        omega
    · rw [joinP_miss a q p g]
      intro x hx
      simp at hx
      rcases hx with hx | hx | hx
      · exact h x (by simp [hx])
      · subst hx; exact h x (by simp)
      · subst hx; exact ⟨h0, h1, h2⟩

/-- the closure, whatever was gathered -/
theorem join_any (p : Pc) (l : List Pc) (v : Value) (bo : Nat) (w : World) (hbo : w.heap[bo]? = some (.cells #[v] 153 (0, 0)))
    (hown : w.ownsRow (bo + 1) 162 4 v l.length (pcCells l)) (hnil : l = [] → v = .slice none 0 0)
    (hl : l.length ≤ 1000) (hs : Small 64 l) (b2 : 0 ≤ p.len) (b3 : p.off ≤ 1000) (b4 : p.len ≤ 1000) :
    Calls Tryz.prog 185 #[pcV p, .pointer (some ⟨bo, 0, none⟩)] w fun e w' => ∃ v', e = .returned (.tuple #[]) ∧
      w'.ownsRow (bo + 1) 162 4 v' (joinP l p).length (pcCells (joinP l p)) ∧ w'.heap[bo]? = some (.cells #[v'] 153 (0, 0)) ∧ Fr (fun k => k = bo ∨ some k = v.ownBlock) w w' := by
  rcases snoc_cases l with rfl | ⟨a, q, rfl⟩
  · obtain rfl := hnil rfl
    refine (join_first p bo w hbo).mono ?_
    rintro e w' ⟨v', rfl, h1, h2, h3⟩
    exact ⟨v', rfl, h1, h2, h3.weaken fun k _ hk => .inl hk⟩
  · have hq := hs q (by simp)
    rcases hown.2 with ⟨_, h0⟩ | ⟨g, cap, cur, rfl, hr⟩
    · simp at h0
    · have hl' : a.length ≤ 1000 := by simp at hl; omega
      simp only [List.length_append, List.length_singleton] at hown hbo ⊢
      by_cases h : q.ob = p.ob ∧ q.off + q.len = p.off
      · refine (join_hit p q a bo g cap w hbo hown hl' h.1 h.2 hq.1 hq.2.1 b2 b3 b4).mono ?_
        rintro e w' ⟨rfl, h1, h2, h3⟩
        refine ⟨_, rfl, ?_, h2.trans hbo, h3.weaken fun k _ hk => .inr (by simp [Value.ownBlock, hk])⟩
        rw [joinP_hit a q p h.1 h.2]
        simpa using h1
      · refine (join_miss p q a bo g cap w hbo hown hl' h hq.1 hq.2.1 (by omega) (by omega)).mono ?_
        rintro e w' ⟨v', rfl, h1, h2, h3⟩
        refine ⟨v', rfl, ?_, h2, h3.weaken fun k _ hk => hk.imp id (by rintro rfl; rfl)⟩
        rw [joinP_miss a q p h]
        simpa using h1
end Go.Proofs.YtlekdfajcpmolaaGreatDoor
namespace Go.Proofs.YtlekdfajcpmolaaGreatDoor
open Go.RowKit

theorem PCS_no {u c o off n : Int} (h : (okB u c o && (inF off && inF n)) = false ∨ 512 < n) : PCS u c o off n = [] := by
  unfold PCS
  rw [if_neg]
  intro g
  simp only [Bool.and_eq_true, decide_eq_true_eq] at g
  rcases h with h | h
  · have : inF n = true := inF_iff.2 ⟨g.1.2, by omega⟩
    rw [g.1.1.1, g.1.1.2, this] at h
    simp at h
  · omega

theorem pcs_small {u c o : Int} (H : Lay u c o) (off : Int) (i : Nat) : Small 64 (pcs u c o off i) := by
  induction i with
  | zero => intro q h; simp [pcs] at h
  | succ i ih =>
    have r := plK_range H (off := off + i)
    have := H.o64
    exact joinP_small ih r.1 (by simp [pcAt]) (by simp only [pcAt]; omega)

structure PlF' (u c o off : Int) : Prop where
  a : 0 ≤ off / u ∧ off / u ≤ 1099511628288
  b : 0 ≤ off / u / c ∧ off / u / c ≤ 1099511628288
  d : 0 ≤ off / u % c ∧ off / u % c < c
  m : 0 ≤ off % u ∧ off % u < u
  r : 0 ≤ off / u / c / (o / u) ∧ off / u / c / (o / u) ≤ 1099511628288
  s : 0 ≤ off / u / c % (o / u) ∧ off / u / c % (o / u) < o / u
  t : 0 ≤ off / u / c / (o / u) * c ∧ off / u / c / (o / u) * c ≤ 1099511628288 * 8
  v : 0 ≤ off / u / c % (o / u) * u ∧ off / u / c % (o / u) * u ≤ 64 * 64
theorem plF' {u c o off : Int} (H : Lay u c o) (h0 : 0 ≤ off) (h1 : off ≤ 1099511628288) : PlF' u c o off := by
  have a := div_b h0 h1 H.u1
  have b := div_b a.1 a.2 H.c1
  have r := div_b b.1 b.2 H.e1
  have s := mod_b (a := off / u / c) H.e1
  have he := H.e64
  have := H.uo
  have := H.o64
  exact ⟨a, b, mod_b H.c1, mod_b H.u1, r, s, mul_b r.1 r.2 (by have := H.c1; omega) H.c8, mul_b s.1 (by omega) (by have := H.u1; omega) (by omega)⟩

set_option maxHeartbeats 2000000 in
theorem pieces_any (u c o off n : Int) (w : World) :
    Calls Tryz.prog 149 #[lay u c o, .int .i64 off, .int .i64 n] w fun e w' => ∃ v, e = .returned v ∧ Sl w' 4 v (PCS u c o off n).length (pcCells (PCS u c o off n)) ∧ Below w.heap.size w w' := by
  cases hh : (okB u c o && (inF off && inF n))
  · have HP := Lib.hid (PCS_no (.inl hh))
    have HH := Lib.hid hh
    clear hh
    go_enter Tryz.func149, Tryz.ntmps149
    go_wp2_with (go_at_call 163; refine (may2 _ _ _ off n _ _ _ (by simp) (by simp) (by simp)).mono ?_; rintro e w' ⟨rfl, hb1⟩; rw [HH.out])
    go_ret
    exact ⟨_, rfl, by rw [HP.out]; exact Sl.nil _ _, by ((repeat' (first | exact Below.refl _ _ | refine below_drewN ?_ _ | refine Below.drew ?_ | refine Below.alloc ?_ ?_ _ | refine Below.trans ?_ (Below.mono (by assumption) ?_))); all_goals (first | exact Nat.le_refl _ | exact Below.size (by assumption) | omega | (simp; done) | (simp; omega)))⟩
  · have HH := Lib.hid hh
    rw [Bool.and_eq_true, Bool.and_eq_true, inF_iff, inF_iff] at hh
    obtain ⟨hok, ⟨hi0, hi1⟩, hn0, hn1⟩ := hh
    by_cases hg : 512 < n
    · have HP := Lib.hid (PCS_no (u := u) (c := c) (o := o) (off := off) (.inr hg))
      clear hok
      go_enter Tryz.func149, Tryz.ntmps149
      go_wp2_with (go_at_call 163; refine (may2 _ _ _ off n _ _ _ (by simp) (by simp) (by simp)).mono ?_; rintro e w' ⟨rfl, hb1⟩; rw [HH.out])
      go_ret
      exact ⟨_, rfl, by rw [HP.out]; exact Sl.nil _ _, by ((repeat' (first | exact Below.refl _ _ | refine below_drewN ?_ _ | refine Below.drew ?_ | refine Below.alloc ?_ ?_ _ | refine Below.trans ?_ (Below.mono (by assumption) ?_))); all_goals (first | exact Nat.le_refl _ | exact Below.size (by assumption) | omega | (simp; done) | (simp; omega)))⟩
    · obtain ⟨N, rfl⟩ := Int.eq_ofNat_of_zero_le hn0
      have H := lay_of hok
      have HP : Hid (PCS u c o off (N : Int) = pcs u c o off N) := by
        show _ = _
        unfold PCS
        rw [if_pos]
        · simp
        · rw [hok, inF_iff.2 ⟨hi0, hi1⟩]
          simp
          omega
      have HL := Lib.hid H
      clear hok
      go_enter Tryz.func149, Tryz.ntmps149
      go_wp2_with (go_at_call 163; refine (may2 _ _ _ off N _ _ _ (by simp) (by simp) (by simp)).mono ?_; rintro e w1 ⟨rfl, hb1⟩; rw [HH.out])
      have hsz1 : w.heap.size + 1 ≤ w1.heap.size := by have := hb1.size; simp at this; omega
      have hbw : Below (w.heap.size + 1) (w.alloc (.cells #[.int .i64 u, .int .i64 c, .int .i64 o] 23)) w1 := by
        refine Below.trans ?_ (hb1.mono (by simp))
        exact (Below.refl _ _).alloc (by simp) _
      clear hb1
      go_loopw [9] (fun i wr => ∃ (k : Nat) (v : Value), k ≤ N ∧ i = .int .i64 k ∧ wr.heap[w1.heap.size]? = some (.cells #[v] 153 (0, 0)) ∧ wr.ownsRow (w1.heap.size + 1) 162 4 v (pcs u c o off k).length (pcCells (pcs u c o off k)) ∧ (pcs u c o off k = [] → v = .slice none 0 0) ∧ Below (w.heap.size + 1) (w.alloc (.cells #[.int .i64 u, .int .i64 c, .int .i64 o] 23)) wr) (fun i _ => N - (intOf i).toNat)
      case atStart =>
        refine ⟨0, _, Nat.zero_le _, rfl, heap_alloc_new _ _, World.ownsRow_nil _ _ _ _, fun _ => rfl, hbw.alloc hsz1 _⟩
      case round =>
        obtain ⟨k, v, hk, rfl, hbo, hown, hnil, hbr⟩ := hrel
        clear hbw
        have x0 : wr.cell? ⟨w.heap.size, 0, none⟩ = some (.int .i64 u) := (hbr.cell (p := ⟨w.heap.size, 0, none⟩) (by simp)).trans (by simp)
        have x1 : wr.cell? ⟨w.heap.size, 1, none⟩ = some (.int .i64 c) := (hbr.cell (p := ⟨w.heap.size, 1, none⟩) (by simp)).trans (by simp)
        have x2 : wr.cell? ⟨w.heap.size, 2, none⟩ = some (.int .i64 o) := (hbr.cell (p := ⟨w.heap.size, 2, none⟩) (by simp)).trans (by simp)
        have hbs := lt_of_block hbo
        have hb0 := cell_of_one hbo
        have hsz : w.heap.size < wr.heap.size := by have := hbr.size; simp at this; omega
        by_cases hlt : k < N
        · obtain ⟨⟨a0, a1⟩, ⟨b0, b1⟩, ⟨d0, d1⟩, ⟨m0, m1⟩, ⟨r0, r1⟩, ⟨s0, s1⟩, ⟨t0, t1⟩, ⟨v0, v1⟩⟩ := plF' H (off := off + k) (by omega) (by omega)
          obtain ⟨u1, c1, c8, uo, o64, e1, e64, -⟩ := H
          have HB := Lib.hid hbo
          have HO := Lib.hid hown
          have HN := Lib.hid hnil
          clear hbo hown hnil
          go_wp2
          go_region
          generalize hM : (if (N : Int) - (k : Int) < u - (off + ↑k) % u then (N : Int) - (k : Int) else u - (off + ↑k) % u) = M
          have g : 1 ≤ M ∧ M ≤ N - k ∧ M ≤ u - (off + k) % u := by rw [← hM]; split <;> omega
          clear hM
          obtain ⟨g1, g2, g3⟩ := g
          obtain ⟨m, rfl⟩ : ∃ m : Nat, M = (m : Int) + 1 := ⟨(M - 1).toNat, by omega⟩
          have HU := Lib.hid (pcs_unit HL.out (off := off) k m (by omega))
          have hlen := length_pcs u c o off k
          have hK : (off + ↑k) / u / c % (o / u) * u + (off + ↑k) % u < o := (plK_range HL.out).2
          have fin : ∀ (v' : Value) (w3 : World) (o3 : Obj), Fr (fun j => j = w1.heap.size ∨ some j = v.ownBlock) (wr.alloc o3).drew w3 →
              w3.cell? ⟨wr.heap.size, 2, none⟩ = (wr.alloc o3).cell? ⟨wr.heap.size, 2, none⟩ ∧ Below (w.heap.size + 1) (w.alloc (.cells #[.int .i64 u, .int .i64 c, .int .i64 o] 23)) w3 := by
            intro v' w3 o3 h3
            refine ⟨?_, ?_⟩
            · refine (h3.cell (p := ⟨wr.heap.size, 2, none⟩) (by simp) ?_).trans rfl
              rintro (e | e)
              · simp only at e; omega
              · have := (HO.out.lt _ e.symm).2
                simp only at this; omega
            · refine (hbr.alloc (by omega) o3).drew.trans (h3.below (by simp; omega) ?_)
              rintro j hj (e | e)
              · omega
              · have := (HO.out.lt _ e.symm).1
                omega
          have FIN := Lib.hid fin
          clear fin
          go_wp2_with fail
          refine (join_any ⟨_, _, _, _⟩ (pcs u c o off k) v w1.heap.size _ (by exact (Below.heap_alloc _ _ _ hbs).trans HB.out) (by exact (HO.out.alloc _).drew) HN.out (by omega) (pcs_small HL.out _ _) (by simp only []; omega) (by simp only []; omega) (by simp only []; omega)).mono ?_
          rintro e w3 ⟨v', rfl, h1, h2, h3⟩
          obtain ⟨y0, y1⟩ := FIN.out v' w3 _ h3
          rw [World.cell?_alloc_new] at y0
          have H1 := Lib.hid h1
          have H2 := Lib.hid h2
          have H3 := Lib.hid y1
          clear h1 h2 h3 y1 FIN
          go_wp2
          go_roundw
          case rel =>
            refine ⟨k + (m + 1), v', by omega, by go_num, H2.out, ?_, ?_, H3.out⟩
            · rw [HU.out]; exact H1.out
            · rw [HU.out]; exact fun e => absurd e (joinP_ne _ _)
          case measure => simp [intOf]; omega
        · have hkn : k = N := by omega
          subst hkn
          have HS := Lib.hid (Sl.of_owns hown)
          obtain ⟨a3, c3, rfl⟩ := owns_shape hown
          clear hown hnil
          go_wp2
          go_ret
          exact ⟨_, rfl, by rw [HP.out]; exact HS.out, by ((repeat' (first | exact Below.refl _ _ | refine below_drewN ?_ _ | refine Below.drew ?_ | refine Below.alloc ?_ ?_ _ | refine Below.trans ?_ (Below.mono (by assumption) ?_))); all_goals (first | exact Nat.le_refl _ | exact Below.size (by assumption) | omega | (simp; done) | (simp; omega)))⟩
end Go.Proofs.YtlekdfajcpmolaaGreatDoor
namespace Go.Proofs.YtlekdfajcpmolaaGreatDoor
open Go.RowKit

end Go.Proofs.YtlekdfajcpmolaaGreatDoor
