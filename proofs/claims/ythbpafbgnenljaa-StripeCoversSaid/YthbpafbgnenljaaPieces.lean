/- Walks of Pieces and its closure. -/
import Derived.Test.YthbpafbgnenljaaPcs
namespace Go.Proofs.Ythbpafbgnenljaa
open Go.RowKit

abbrev pcV (p : Pc) : Value := .agg #[.int .i64 p.ob, .int .i64 p.off, .int .i64 p.len, .int .i64 p.fr]

theorem Try.infoPc : (Try.prog.info? 37).map (fun i => (i.zero, i.size, i.bytes)) = some (some (.agg #[.int .i64 0, .int .i64 0, .int .i64 0, .int .i64 0]), 4, 32) := by kernel_rfl

set_option maxHeartbeats 800000 in
/-- the piece goes on where the last one ends -/
theorem join_hit (p q : Pc) (l : List Pc) (bo g cap : Nat) (w : World) (hbo : w.heap[bo]? = some (.cells #[.slice (some ⟨g, 0, none⟩) (l.length + 1) cap] 33 (0, 0)))
    (hown : w.ownsRow (bo + 1) 37 4 (.slice (some ⟨g, 0, none⟩) (l.length + 1) cap) (l.length + 1) (pcCells (l ++ [q])))
    (hl : l.length ≤ 1000) (h1 : q.ob = p.ob) (h2 : q.off + q.len = p.off)
    (b0 : 0 ≤ q.off) (b1 : 0 ≤ q.len) (b2 : 0 ≤ p.len) (b3 : p.off ≤ 1000) (b4 : p.len ≤ 1000) :
    Calls Try.prog 24 #[pcV p, .pointer (some ⟨bo, 0, none⟩)] w fun e w' => e = .returned (.tuple #[]) ∧
      w'.ownsRow (bo + 1) 37 4 (.slice (some ⟨g, 0, none⟩) (l.length + 1) cap) (l.length + 1) (pcCells (l ++ [{ q with len := q.len + p.len }])) ∧ w'.heap[bo]? = w.heap[bo]? ∧ Fr (fun k => k = g) w w' := by
  have hbs := lt_of_block hbo
  have hb0 := cell_of_one hbo
  have hgb := (hown.lt g rfl).1
  have hgs := (hown.lt g rfl).2
  have ce := fun j (hj : j < (l.length + 1) * 4) => hown.cellAt j hj
  have hq := pcCells_at (l ++ [q]) l.length (by simp)
  simp only [List.getElem_concat_length] at hq
  have q0 : w.cell? ⟨g, l.length * 4, none⟩ = some (.int .i64 q.ob) := (ce _ (by omega)).trans hq.1
  have q1 : w.cell? ⟨g, l.length * 4 + 1, none⟩ = some (.int .i64 q.off) := (ce _ (by omega)).trans hq.2.1
  have q2 : w.cell? ⟨g, l.length * 4 + 2, none⟩ = some (.int .i64 q.len) := (ce _ (by omega)).trans hq.2.2.1
  have qf : w.frozen? ⟨g, l.length * 4 + 2, none⟩ = false := hown.frozenAt _
  clear ce hq
  have t1 : (q.ob == p.ob) = true := by simp [h1]
  have t2 : (q.off + q.len == p.off) = true := by simp [h2]
  have b5 : q.off + q.len ≤ 1000 := by omega
  have b6 : q.len + p.len ≤ 2000 := by omega
  have HO := Lib.hid hown
  have HB := Lib.hid hbo
  clear hown hbo h1 h2
  go_enter Try.func24, Try.ntmps24
  go_wp2
  go_quiet (fail)
  go_wp2
  go_region
  all_goals
    go_wp2
    refine bodyPost_ret (results_none rfl _ _ _) rfl ?_
    refine ⟨rfl, ?_, ?_, ?_⟩
    · have := ((ownsRow_drewN (HO.out.alloc (.cells #[.int .i64 p.ob, .int .i64 p.off, .int .i64 p.len, .int .i64 p.fr] 37)) (nq + 1)).stored (l.length * 4 + 2) (.int .i64 (q.len + p.len))).1
      rwa [pcCells_set] at this
    · rw [Below.heap_setCell _ _ _ _ (by simp; omega)]
      exact Below.heap_alloc _ _ _ hbs
    · exact Fr.setCell (S := fun k => k = g) (((Fr.refl _ _).alloc _).drewN _) (fun _ => rfl) _

set_option maxHeartbeats 800000 in
/-- the piece doesn't go on where the last one ends -/
theorem join_miss (p q : Pc) (l : List Pc) (bo g cap : Nat) (w : World) (hbo : w.heap[bo]? = some (.cells #[.slice (some ⟨g, 0, none⟩) (l.length + 1) cap] 33 (0, 0)))
    (hown : w.ownsRow (bo + 1) 37 4 (.slice (some ⟨g, 0, none⟩) (l.length + 1) cap) (l.length + 1) (pcCells (l ++ [q])))
    (hl : l.length ≤ 1000) (h : ¬ (q.ob = p.ob ∧ q.off + q.len = p.off))
    (b0 : 0 ≤ q.off) (b1 : 0 ≤ q.len) (b2 : q.off ≤ 1000) (b3 : q.len ≤ 1000) :
    Calls Try.prog 24 #[pcV p, .pointer (some ⟨bo, 0, none⟩)] w fun e w' => ∃ v', e = .returned (.tuple #[]) ∧
      w'.ownsRow (bo + 1) 37 4 v' (l.length + 2) (pcCells (l ++ [q] ++ [p])) ∧ w'.heap[bo]? = some (.cells #[v'] 33 (0, 0)) ∧ Fr (fun k => k = bo ∨ k = g) w w' := by
  have hbs := lt_of_block hbo
  have hb0 := cell_of_one hbo
  have hbf := free_of_one hbo
  have hgb := (hown.lt g rfl).1
  have hgs := (hown.lt g rfl).2
  have ce := fun j (hj : j < (l.length + 1) * 4) => hown.cellAt j hj
  have hq := pcCells_at (l ++ [q]) l.length (by simp)
  simp only [List.getElem_concat_length] at hq
  have q0 : w.cell? ⟨g, l.length * 4, none⟩ = some (.int .i64 q.ob) := (ce _ (by omega)).trans hq.1
  have q1 : w.cell? ⟨g, l.length * 4 + 1, none⟩ = some (.int .i64 q.off) := (ce _ (by omega)).trans hq.2.1
  have q2 : w.cell? ⟨g, l.length * 4 + 2, none⟩ = some (.int .i64 q.len) := (ce _ (by omega)).trans hq.2.2.1
  clear ce hq
  obtain ⟨i0, hi, hz0, hz1, hz2⟩ := info_parts Try.infoPc
  have HO := Lib.hid hown
  have HB := Lib.hid hbo
  clear hown hbo
  have fin : ∀ (nq : Nat) (v' : Value) (w3 : World),
      w3.ownsRow (bo + 1) 37 4 v' (l.length + 1 + 1) (pcCells (l ++ [q]) ++ p.cells) →
      ((((w.alloc (.cells #[.int .i64 p.ob, .int .i64 p.off, .int .i64 p.len, .int .i64 p.fr] 37)).drewN nq).alloc (.cells #[.int .i64 p.ob, .int .i64 p.off, .int .i64 p.len, .int .i64 p.fr] 37)).grownBy w3 (some g)) →
      (w3.cell? ⟨bo, 0, none⟩ = some (.slice (some ⟨g, 0, none⟩) (l.length + 1) cap) ∧ w3.frozen? ⟨bo, 0, none⟩ = false) ∧
      (w3.setCell ⟨bo, 0, none⟩ v').ownsRow (bo + 1) 37 4 v' (l.length + 2) (pcCells (l ++ [q] ++ [p])) ∧ (w3.setCell ⟨bo, 0, none⟩ v').heap[bo]? = some (.cells #[v'] 33 (0, 0)) ∧ Fr (fun k => k = bo ∨ k = g) w (w3.setCell ⟨bo, 0, none⟩ v') := by
    intro nq v' w3 ho hg
    have e1 : w3.heap[bo]? = some (.cells #[.slice (some ⟨g, 0, none⟩) (l.length + 1) cap] 33 (0, 0)) := by
      rw [hg.block bo (by simp; omega) (by simp; omega)]
      exact (Below.heap_alloc _ _ _ (by simp; omega)).trans ((Below.heap_alloc _ _ _ hbs).trans HB.out)
    refine ⟨⟨cell_of_one e1, free_of_one e1⟩, ?_, one_setCell e1, ?_⟩
    · have := ownsRow_setCell_below ho (a := ⟨bo, 0, none⟩) (by simp) v'
      rw [pcCells_append]
      simpa [pcCells] using this
    · refine Fr.setCell (Fr.grown ((((Fr.refl _ _).alloc _).drewN nq).alloc _) hg ?_) (fun _ => .inl rfl) _
      intro k _ hk
      simp at hk
      exact .inr hk
  have FIN := Lib.hid fin
  clear fin
  cases t1 : (q.ob == p.ob)
  · clear h
    go_enter Try.func24, Try.ntmps24
    go_wp2
    go_quiet (fail)
    go_wp2_with (at_builtin; refine wpList_append_own _ rfl _ _ 33 rfl (bo + 1) 37 i0 (.agg #[.int .i64 0, .int .i64 0, .int .i64 0, .int .i64 0]) 4 32 Try.underlying33 hi hz0 hz1 hz2 rfl (by decide) _ _ _ rfl ((ownsRow_drewN (HO.out.alloc _) nq).alloc _) ⟨w.heap.size + 1, 0, none⟩ 1 1 p.cells rfl rfl ?c1 ?c2 ?c3 ?c4 ?c5 ?_)
    case c1 =>
      have := cells_new ((w.alloc (.cells #[.int .i64 p.ob, .int .i64 p.off, .int .i64 p.len, .int .i64 p.fr] 37)).drewN nq) p.cells 37
      simpa [Pc.cells] using this
    case c2 => simp [Pc.cells, Value.oneCell']
    case c3 => unfold maxLen; omega
    case c4 => omega
    case c5 => simp; omega
    intro v' w3 ho hg _
    obtain ⟨⟨hc3, hf3⟩, hfin⟩ := FIN.out _ _ _ ho hg
    have HF := Lib.hid hfin
    have hz3 : w.heap.size ≤ w3.heap.size := by have := hg.size; simp at this; omega
    obtain ⟨a3, c3, rfl⟩ := owns_shape ho
    clear hfin ho hg
    go_wp2
    go_end0
    exact ⟨_, rfl, HF.out⟩
  · have t2 : (q.off + q.len == p.off) = false := by
      simp at t1 ⊢
      exact fun e => h ⟨t1, e⟩
    clear h
    go_enter Try.func24, Try.ntmps24
    go_wp2
    go_quiet (fail)
    go_wp2_with (at_builtin; refine wpList_append_own _ rfl _ _ 33 rfl (bo + 1) 37 i0 (.agg #[.int .i64 0, .int .i64 0, .int .i64 0, .int .i64 0]) 4 32 Try.underlying33 hi hz0 hz1 hz2 rfl (by decide) _ _ _ rfl ((ownsRow_drewN (HO.out.alloc _) nq).alloc _) ⟨w.heap.size + 1, 0, none⟩ 1 1 p.cells rfl rfl ?c1 ?c2 ?c3 ?c4 ?c5 ?_)
    case c1 =>
      have := cells_new ((w.alloc (.cells #[.int .i64 p.ob, .int .i64 p.off, .int .i64 p.len, .int .i64 p.fr] 37)).drewN nq) p.cells 37
      simpa [Pc.cells] using this
    case c2 => simp [Pc.cells, Value.oneCell']
    case c3 => unfold maxLen; omega
    case c4 => omega
    case c5 => simp; omega
    intro v' w3 ho hg _
    obtain ⟨⟨hc3, hf3⟩, hfin⟩ := FIN.out _ _ _ ho hg
    have HF := Lib.hid hfin
    have hz3 : w.heap.size ≤ w3.heap.size := by have := hg.size; simp at this; omega
    obtain ⟨a3, c3, rfl⟩ := owns_shape ho
    clear hfin ho hg
    go_wp2
    go_end0
    exact ⟨_, rfl, HF.out⟩

set_option maxHeartbeats 800000 in
/-- the first piece -/
theorem join_first (p : Pc) (bo : Nat) (w : World) (hbo : w.heap[bo]? = some (.cells #[.slice none 0 0] 33 (0, 0))) :
    Calls Try.prog 24 #[pcV p, .pointer (some ⟨bo, 0, none⟩)] w fun e w' => ∃ v', e = .returned (.tuple #[]) ∧
      w'.ownsRow (bo + 1) 37 4 v' 1 (pcCells [p]) ∧ w'.heap[bo]? = some (.cells #[v'] 33 (0, 0)) ∧ Fr (fun k => k = bo) w w' := by
  have hbs := lt_of_block hbo
  have hb0 := cell_of_one hbo
  have hbf := free_of_one hbo
  obtain ⟨i0, hi, hz0, hz1, hz2⟩ := info_parts Try.infoPc
  have HB := Lib.hid hbo
  clear hbo
  have fin : ∀ (nq : Nat) (v' : Value) (w3 : World),
      w3.ownsRow (bo + 1) 37 4 v' (0 + 1) ([] ++ p.cells) →
      ((((w.alloc (.cells #[.int .i64 p.ob, .int .i64 p.off, .int .i64 p.len, .int .i64 p.fr] 37)).drewN nq).alloc (.cells #[.int .i64 p.ob, .int .i64 p.off, .int .i64 p.len, .int .i64 p.fr] 37)).grownBy w3 none) →
      (w3.cell? ⟨bo, 0, none⟩ = some (.slice none 0 0) ∧ w3.frozen? ⟨bo, 0, none⟩ = false) ∧
      (w3.setCell ⟨bo, 0, none⟩ v').ownsRow (bo + 1) 37 4 v' 1 (pcCells [p]) ∧ (w3.setCell ⟨bo, 0, none⟩ v').heap[bo]? = some (.cells #[v'] 33 (0, 0)) ∧ Fr (fun k => k = bo) w (w3.setCell ⟨bo, 0, none⟩ v') := by
    intro nq v' w3 ho hg
    have e1 : w3.heap[bo]? = some (.cells #[.slice none 0 0] 33 (0, 0)) := by
      rw [hg.block bo (by simp; omega) (by simp)]
      exact (Below.heap_alloc _ _ _ (by simp; omega)).trans ((Below.heap_alloc _ _ _ hbs).trans HB.out)
    refine ⟨⟨cell_of_one e1, free_of_one e1⟩, ?_, one_setCell e1, ?_⟩
    · have := ownsRow_setCell_below ho (a := ⟨bo, 0, none⟩) (by simp) v'
      simpa [pcCells] using this
    · refine Fr.setCell (S := fun k => k = bo) (Fr.grown ((((Fr.refl _ _).alloc _).drewN nq).alloc _) hg ?_) (fun _ => rfl) _
      intro k _ hk
      simp at hk
  have FIN := Lib.hid fin
  clear fin
  go_enter Try.func24, Try.ntmps24
  go_wp2
  go_quiet (fail)
  go_wp2_with (at_builtin; refine wpList_append_own _ rfl _ _ 33 rfl (bo + 1) 37 i0 (.agg #[.int .i64 0, .int .i64 0, .int .i64 0, .int .i64 0]) 4 32 Try.underlying33 hi hz0 hz1 hz2 rfl (by decide) _ 0 [] rfl (World.ownsRow_nil _ _ _ _) ⟨w.heap.size + 1, 0, none⟩ 1 1 p.cells rfl rfl ?c1 ?c2 ?c3 ?c4 ?c5 ?_)
  case c1 =>
    have := cells_new ((w.alloc (.cells #[.int .i64 p.ob, .int .i64 p.off, .int .i64 p.len, .int .i64 p.fr] 37)).drewN nq) p.cells 37
    simpa [Pc.cells] using this
  case c2 => simp [Pc.cells, Value.oneCell']
  case c3 => unfold maxLen; omega
  case c4 => omega
  case c5 => simp; omega
  intro v' w3 ho hg _
  obtain ⟨⟨hc3, hf3⟩, hfin⟩ := FIN.out _ _ _ ho hg
  have HF := Lib.hid hfin
  have hz3 : w.heap.size ≤ w3.heap.size := by have := hg.size; simp at this; omega
  obtain ⟨a3, c3, rfl⟩ := owns_shape ho
  clear hfin ho hg
  go_wp2
  go_end0
  exact ⟨_, rfl, HF.out⟩

def Small (o : Int) (l : List Pc) : Prop := ∀ q ∈ l, 0 ≤ q.off ∧ 0 ≤ q.len ∧ q.off + q.len ≤ o

theorem joinP_ne (l : List Pc) (p : Pc) : joinP l p ≠ [] := by
  rcases snoc_cases l with rfl | ⟨a, q, rfl⟩
  · simp [joinP_nil]
  · by_cases h : q.ob = p.ob ∧ q.off + q.len = p.off
    · rw [joinP_hit a q p h.1 h.2]; simp
    · rw [joinP_miss a q p h]; simp
theorem joinP_small {o : Int} {l : List Pc} {p : Pc} (h : Small o l) (h0 : 0 ≤ p.off) (h1 : 0 ≤ p.len) (h2 : p.off + p.len ≤ o) : Small o (joinP l p) := by
  rcases snoc_cases l with rfl | ⟨a, q, rfl⟩
  · rw [joinP_nil]
    intro x hx
    simp at hx
    subst hx
    exact ⟨h0, h1, h2⟩
  · by_cases g : q.ob = p.ob ∧ q.off + q.len = p.off
    · rw [joinP_hit a q p g.1 g.2]
      intro x hx
      simp at hx
      rcases hx with hx | hx
      · exact h x (by simp [hx])
      · subst hx
        have := h q (by simp)
        simp only
        omega
    · rw [joinP_miss a q p g]
      intro x hx
      simp at hx
      rcases hx with hx | hx | hx
      · exact h x (by simp [hx])
      · subst hx; exact h x (by simp)
      · subst hx; exact ⟨h0, h1, h2⟩

/-- the closure, whatever was gathered -/
theorem join_any (p : Pc) (l : List Pc) (v : Value) (bo : Nat) (w : World) (hbo : w.heap[bo]? = some (.cells #[v] 33 (0, 0)))
    (hown : w.ownsRow (bo + 1) 37 4 v l.length (pcCells l)) (hnil : l = [] → v = .slice none 0 0)
    (hl : l.length ≤ 1000) (hs : Small 64 l) (b2 : 0 ≤ p.len) (b3 : p.off ≤ 1000) (b4 : p.len ≤ 1000) :
    Calls Try.prog 24 #[pcV p, .pointer (some ⟨bo, 0, none⟩)] w fun e w' => ∃ v', e = .returned (.tuple #[]) ∧
      w'.ownsRow (bo + 1) 37 4 v' (joinP l p).length (pcCells (joinP l p)) ∧ w'.heap[bo]? = some (.cells #[v'] 33 (0, 0)) ∧ Fr (fun k => k = bo ∨ some k = v.ownBlock) w w' := by
  rcases snoc_cases l with rfl | ⟨a, q, rfl⟩
  · obtain rfl := hnil rfl
    refine (join_first p bo w hbo).mono ?_
    rintro e w' ⟨v', rfl, h1, h2, h3⟩
    exact ⟨v', rfl, h1, h2, h3.weaken fun k _ hk => .inl hk⟩
  · have hq := hs q (by simp)
    rcases hown.2 with ⟨_, h0⟩ | ⟨g, cap, cur, rfl, hr⟩
    · simp at h0
    · have hl' : a.length ≤ 1000 := by simp at hl; omega
      simp only [List.length_append, List.length_singleton] at hown hbo ⊢
      by_cases h : q.ob = p.ob ∧ q.off + q.len = p.off
      · refine (join_hit p q a bo g cap w hbo hown hl' h.1 h.2 hq.1 hq.2.1 b2 b3 b4).mono ?_
        rintro e w' ⟨rfl, h1, h2, h3⟩
        refine ⟨_, rfl, ?_, h2.trans hbo, h3.weaken fun k _ hk => .inr (by simp [Value.ownBlock, hk])⟩
        rw [joinP_hit a q p h.1 h.2]
        simpa using h1
      · refine (join_miss p q a bo g cap w hbo hown hl' h hq.1 hq.2.1 (by omega) (by omega)).mono ?_
        rintro e w' ⟨v', rfl, h1, h2, h3⟩
        refine ⟨v', rfl, ?_, h2, h3.weaken fun k _ hk => hk.imp id (by rintro rfl; rfl)⟩
        rw [joinP_miss a q p h]
        simpa using h1
end Go.Proofs.Ythbpafbgnenljaa
