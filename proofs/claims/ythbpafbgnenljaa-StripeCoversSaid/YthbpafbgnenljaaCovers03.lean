/- Proved: for every layout and numbers, terrazzolaw03.StripeCovers answers true, and its arguments read afterwards as before. No condition. -/
import Derived.Test.YthbpafbgnenljaaLaw03a
namespace Go.Proofs.Ythbpafbgnenljaa
open Go.ChangeShapes Go.WideShapes Go.ChangeAt Go.RowKit Go.Joins

def tot (l : List Pc) : Int := (l.map Pc.len).sum
theorem tot_append (a b : List Pc) : tot (a ++ b) = tot a + tot b := by simp [tot]
theorem tot_one (p : Pc) : tot [p] = p.len := by simp [tot]

structure Good (u c o off : Int) (p : Pc) (m : Int) : Prop where
  fr : p.fr = m
  len : 1 ≤ p.len
  off0 : 0 ≤ p.off
  end_ : p.off + p.len ≤ o
  ob0 : 0 ≤ p.ob
  ob1 : p.ob ≤ 1099511627776
  bk : ∀ k, 0 ≤ k → k < p.len → bk u c o p.ob (p.off + k) = off + m + k
structure Cov (u c o off : Int) (l : List Pc) : Prop where
  good : ∀ (i : Nat) (p : Pc), l[i]? = some p → Good u c o off p (tot (l.take i))
  apart : ∀ (i : Nat) (q p : Pc), l[i]? = some q → l[i + 1]? = some p → ¬ (q.ob = p.ob ∧ q.off + q.len = p.off)

theorem snoc_at {α : Type} {a : List α} {q p : α} {i : Nat} (h : (a ++ [q])[i]? = some p) : (i < a.length ∧ a[i]? = some p) ∨ (i = a.length ∧ p = q) := by
  rcases Nat.lt_or_ge i a.length with g | g
  · rw [List.getElem?_append_left g] at h
    exact .inl ⟨g, h⟩
  · rw [List.getElem?_append_right g] at h
    have : i - a.length = 0 := by
      rcases Nat.eq_zero_or_pos (i - a.length) with e | e
      · exact e
      · simp [List.getElem?_eq_none (l := [q]) (i := i - a.length) (by simp; omega)] at h
    rw [this] at h
    simp at h
    exact .inr ⟨by omega, h.symm⟩
theorem take_snoc_le {α : Type} {a : List α} {q : α} {i : Nat} (h : i ≤ a.length) : (a ++ [q]).take i = a.take i := by
  rw [List.take_append_of_le_length h]

theorem cov_snoc {u c o off : Int} {l : List Pc} {p : Pc} (h : Cov u c o off l) (g : Good u c o off p (tot l)) (ha : ∀ q, l.getLast? = some q → ¬ (q.ob = p.ob ∧ q.off + q.len = p.off)) : Cov u c o off (l ++ [p]) := by
  refine ⟨fun i x hx => ?_, fun i x y hx hy => ?_⟩
  · rcases snoc_at hx with ⟨h1, h2⟩ | ⟨rfl, rfl⟩
    · rw [take_snoc_le (by omega)]
      exact h.good i x h2
    · rw [take_snoc_le (Nat.le_refl _), List.take_length]
      exact g
  · rcases snoc_at hy with ⟨h1, h2⟩ | ⟨h1, rfl⟩
    · rcases snoc_at hx with ⟨h3, h4⟩ | ⟨rfl, rfl⟩
      · exact h.apart i x y h4 h2
      · omega
    · rcases snoc_at hx with ⟨h3, h4⟩ | ⟨rfl, rfl⟩
      · refine ha x ?_
        rw [List.getLast?_eq_getElem?, ← h1]
        exact h4
      · omega
theorem cov_init {u c o off : Int} {l : List Pc} {p : Pc} (h : Cov u c o off (l ++ [p])) : Cov u c o off l := by
  refine ⟨fun i x hx => ?_, fun i x y hx hy => ?_⟩
  · have hlt := (List.getElem?_eq_some_iff.1 hx).1
    have := h.good i x (by rw [List.getElem?_append_left hlt]; exact hx)
    rwa [take_snoc_le (by omega)] at this
  · have hlt := (List.getElem?_eq_some_iff.1 hy).1
    exact h.apart i x y (by rw [List.getElem?_append_left (by omega)]; exact hx) (by rw [List.getElem?_append_left hlt]; exact hy)
theorem cov_join {u c o off : Int} {l : List Pc} {p : Pc} (h : Cov u c o off l) (g : Good u c o off p (tot l)) : Cov u c o off (joinP l p) ∧ tot (joinP l p) = tot l + p.len := by
  rcases snoc_cases l with rfl | ⟨a, q, rfl⟩
  · rw [joinP_nil]
    exact ⟨cov_snoc h g (by simp), by simp [tot]⟩
  · by_cases e : q.ob = p.ob ∧ q.off + q.len = p.off
    · rw [joinP_hit a q p e.1 e.2]
      have gq := h.good a.length q (by simp)
      rw [take_snoc_le (Nat.le_refl _), List.take_length] at gq
      have ht : tot (a ++ [q]) = tot a + q.len := by rw [tot_append, tot_one]
      refine ⟨cov_snoc (cov_init h) ⟨gq.fr, ?_, gq.off0, ?_, gq.ob0, gq.ob1, ?_⟩ ?_, ?_⟩
      · have := gq.len; have := g.len; simp only; omega
      · have := g.end_; simp only; omega
      · intro k k0 k1
        simp only at k1 ⊢
        rcases Int.lt_or_le k q.len with f | f
        · exact gq.bk k k0 f
        · have := g.bk (k - q.len) (by omega) (by omega)
          rw [ht, ← e.1, show p.off + (k - q.len) = q.off + k by omega] at this
          omega
      · intro x hx
        have h1 := h.apart (a.length - 1) x q
        rw [List.getLast?_eq_getElem?] at hx
        have hlt := (List.getElem?_eq_some_iff.1 hx).1
        refine h1 ?_ ?_
        · rw [List.getElem?_append_left hlt]; exact hx
        · rw [show a.length - 1 + 1 = a.length by omega]; simp
      · rw [tot_append, tot_one, ht]; simp only; omega
    · rw [joinP_miss a q p e]
      exact ⟨cov_snoc h g (fun x hx => by simp at hx; subst hx; exact e), by rw [tot_append (a ++ [q]), tot_one]⟩
theorem cov_pcs {u c o off : Int} (H : Lay u c o) (h0 : 0 ≤ off) (h1 : off ≤ 1000000000) (n : Nat) (hn : n ≤ 512) : Cov u c o off (pcs u c o off n) ∧ tot (pcs u c o off n) = n := by
  induction n with
  | zero => exact ⟨⟨fun i p hp => by simp [pcs] at hp, fun i p q hp => by simp [pcs] at hp⟩, rfl⟩
  | succ n ih =>
    obtain ⟨a, b⟩ := ih (by omega)
    have r := plK_range H (off := off + n)
    have x0 := plO_nonneg H (off := off + n) (by omega)
    have x1 := plO_le_off H (off := off + n) (by omega)
    have y := bk_pl H (off := off + n)
    have g : Good u c o off (pcAt u c o off n 1) (tot (pcs u c o off n)) := by
      rw [b]
      refine ⟨rfl, by simp [pcAt], r.1, by simp only [pcAt]; omega, x0, by simp only [pcAt]; omega, ?_⟩
      intro k k0 k1
      obtain rfl : k = 0 := by simp only [pcAt] at k1; omega
      simp only [pcAt, Int.add_zero]
      exact y
    obtain ⟨d, e⟩ := cov_join a g
    refine ⟨d, ?_⟩
    show tot (joinP _ _) = _
    rw [e, b]
    simp only [pcAt]
    omega
theorem tot_take_le {u c o off : Int} {l : List Pc} (h : Cov u c o off l) (i : Nat) : 0 ≤ tot (l.take i) ∧ tot (l.take i) ≤ tot l := by
  have hall : ∀ p ∈ l, 1 ≤ p.len := by
    intro p hp
    obtain ⟨j, hj, rfl⟩ := List.getElem_of_mem hp
    exact (h.good j l[j] (by simp [hj])).len
  have pos : ∀ m : List Pc, (∀ p ∈ m, 1 ≤ p.len) → 0 ≤ tot m := by
    intro m
    induction m with
    | nil => intro _; simp [tot]
    | cons p m ih =>
      intro hm
      have := ih (fun x hx => hm x (by simp [hx]))
      have := hm p (by simp)
      simp only [tot, List.map_cons, List.sum_cons] at *
      omega
  refine ⟨pos _ (fun p hp => hall p (List.mem_of_mem_take hp)), ?_⟩
  have e := tot_append (l.take i) (l.drop i)
  rw [List.take_append_drop] at e
  have := pos (l.drop i) (fun p hp => hall p (List.mem_of_mem_drop hp))
  omega
theorem tot_take_succ {l : List Pc} {i : Nat} {p : Pc} (h : l[i]? = some p) : tot (l.take (i + 1)) = tot (l.take i) + p.len := by
  obtain ⟨hlt, rfl⟩ := List.getElem?_eq_some_iff.1 h
  rw [List.take_succ_eq_append_getElem hlt, tot_append, tot_one]

set_option maxRecDepth 100000 in
set_option maxHeartbeats 1600000 in
theorem law_covers_no (u c o off n : Int) (w : World) (h : okB u c o = false ∨ off < 0 ∨ 1000000000 < off ∨ n < 0 ∨ 512 < n) :
    Calls Try.prog 7 #[lay u c o, .int .i64 off, .int .i64 n] w fun e w' => e = .returned (.bool true) ∧ Below w.heap.size w w' := by
  have HP : Hid (PCS u c o off (-1) = []) := PCS_no (.inl (by simp [inF]))
  have fin : ∀ (P : Prop), (okB u c o = false → P) → (okB u c o = true → off < 0 → P) → (okB u c o = true → 0 ≤ off → 1000000000 < off → P) → (okB u c o = true → 0 ≤ off → off ≤ 1000000000 → n < 0 → P) → (okB u c o = true → 0 ≤ off → off ≤ 1000000000 → 0 ≤ n → 512 < n → P) → P := by
    intro P h0 h1 h2 h3 h4
    cases hok : okB u c o
    · exact h0 hok
    rw [hok] at h
    simp only [Bool.true_eq_false, false_or] at h
    rcases Int.lt_or_le off 0 with g | g
    · exact h1 hok g
    rcases Int.lt_or_le 1000000000 off with g2 | g2
    · exact h2 hok g g2
    rcases Int.lt_or_le n 0 with g3 | g3
    · exact h3 hok g g2 g3
    exact h4 hok g g2 g3 (by omega)
  clear h
  refine fin _ ?_ ?_ ?_ ?_ ?_ <;> clear fin
  all_goals
    intro hok
    have HK := Lib.hid hok
    clear hok
    intros
    go_enter Try.func7, Try.ntmps7
    go_wp2_with fail
    refine (awake_any _).mono ?_
    rintro e w1 ⟨rfl, hb⟩
    have x0 : w1.cell? ⟨w.heap.size, 0, none⟩ = some (.int .i64 u) := cellExt hb (by simp)
    have x1 : w1.cell? ⟨w.heap.size, 1, none⟩ = some (.int .i64 c) := cellExt hb (by simp)
    have x2 : w1.cell? ⟨w.heap.size, 2, none⟩ = some (.int .i64 o) := cellExt hb (by simp)
    have hB : Below w.heap.size w w1 := by ((repeat' (first | exact Below.refl _ _ | refine below_drewN ?_ _ | refine Below.drew ?_ | refine Below.alloc ?_ ?_ _ | refine Below.trans ?_ (Below.mono (by assumption) ?_))); all_goals (first | exact Nat.le_refl _ | exact Below.size (by assumption) | omega | (simp; done) | (simp; omega)))
    clear hb
    go_wp2_with fail
    first | refine (check_no _ _ _ _ HK.out).mono ?_ | refine (check_ok _ _ _ _ HK.out).mono ?_
    rintro e w2 ⟨rfl, hb⟩
    replace x0 := cellExt hb x0
    replace x1 := cellExt hb x1
    replace x2 := cellExt hb x2
    replace hB := hB.trans (hb.mono hB.size)
    clear hb
    go_wp2_with fail
    refine (pieces_any _ _ _ _ _ _).mono ?_
    rintro e w3 ⟨v, rfl, hv, hb⟩
    rw [HP.out] at hv
    obtain ⟨a3, c3, rfl⟩ : ∃ a c, v = .slice a 0 c := by
      rcases hv.2 with ⟨rfl, _⟩ | ⟨b, of, cap, rfl, _⟩
      · exact ⟨_, _, rfl⟩
      · exact ⟨_, _, rfl⟩
    clear hv
    replace x0 := cellExt hb x0
    replace x1 := cellExt hb x1
    replace x2 := cellExt hb x2
    replace hB := hB.trans (hb.mono hB.size)
    clear hb
    go_wp2_with fail
    go_ret
    exact ⟨rfl, hB⟩

set_option maxRecDepth 100000 in
set_option maxHeartbeats 6400000 in
theorem law_covers_yes (u c o off : Int) (n : Nat) (w : World) (hok : okB u c o = true) (ho0 : 0 ≤ off) (ho1 : off ≤ 1000000000) (hn : n ≤ 512) :
    Calls Try.prog 7 #[lay u c o, .int .i64 off, .int .i64 n] w fun e w' => e = .returned (.bool true) ∧ Below w.heap.size w w' := by
  have H := lay_of hok
  have HK := Lib.hid hok
  have HL := Lib.hid H
  have o64 := H.o64
  obtain ⟨hc, ht⟩ := cov_pcs H ho0 ho1 n hn
  have HP : Hid (PCS u c o off n = pcs u c o off n) := by
    show _ = _
    unfold PCS
    rw [if_pos]
    · simp
    · rw [hok, inF_iff.2 ⟨ho0, by omega⟩]
      simp
      omega
  have hlen := length_pcs u c o off n
  rw [← HP.out] at hc ht hlen
  generalize hl : PCS u c o off n = l at *
  have HLl := Lib.hid hl
  have HC := Lib.hid hc
  have HT := Lib.hid ht
  clear hok hc ht H HP hl
  go_enter Try.func7, Try.ntmps7
  go_wp2_with fail
  refine (awake_any _).mono ?_
  rintro e w1 ⟨rfl, hb⟩
  have x0 : w1.cell? ⟨w.heap.size, 0, none⟩ = some (.int .i64 u) := cellExt hb (by simp)
  have x1 : w1.cell? ⟨w.heap.size, 1, none⟩ = some (.int .i64 c) := cellExt hb (by simp)
  have x2 : w1.cell? ⟨w.heap.size, 2, none⟩ = some (.int .i64 o) := cellExt hb (by simp)
  have hB : Below w.heap.size w w1 := by ((repeat' (first | exact Below.refl _ _ | refine below_drewN ?_ _ | refine Below.drew ?_ | refine Below.alloc ?_ ?_ _ | refine Below.trans ?_ (Below.mono (by assumption) ?_))); all_goals (first | exact Nat.le_refl _ | exact Below.size (by assumption) | omega | (simp; done) | (simp; omega)))
  clear hb
  go_wp2_with fail
  refine (check_ok _ _ _ _ HK.out).mono ?_
  rintro e w2 ⟨rfl, hb⟩
  replace x0 := cellExt hb x0
  replace x1 := cellExt hb x1
  replace x2 := cellExt hb x2
  replace hB := hB.trans (hb.mono hB.size)
  clear hb
  go_wp2_with fail
  refine (pieces_any _ _ _ _ _ _).mono ?_
  rintro e w3 ⟨v, rfl, hv, hb⟩
  rw [HLl.out] at hv
  replace x0 := cellExt hb x0
  replace x1 := cellExt hb x1
  replace x2 := cellExt hb x2
  replace hB := hB.trans (hb.mono hB.size)
  clear hb
  -- the slice's cells
  have hcell : Hid (∀ (j : Nat) (p : Pc), l[j]? = some p → ∃ b of cap, v = .slice (some ⟨b, of, none⟩) l.length cap ∧ w3.cell? ⟨b, of + j * 4, none⟩ = some (.int .i64 p.ob) ∧ w3.cell? ⟨b, of + j * 4 + 1, none⟩ = some (.int .i64 p.off) ∧ w3.cell? ⟨b, of + j * 4 + 2, none⟩ = some (.int .i64 p.len) ∧ w3.cell? ⟨b, of + j * 4 + 3, none⟩ = some (.int .i64 p.fr)) := by
    intro j p hj
    obtain ⟨hlt, rfl⟩ := List.getElem?_eq_some_iff.1 hj
    rcases hv.2 with ⟨_, h0⟩ | ⟨b, of, cap, rfl, _, _, hx⟩
    · omega
    · have hq := pcCells_at l j hlt
      exact ⟨b, of, cap, rfl, (hx _ (by omega)).trans hq.1, (show _ = _ from hx (j * 4 + 1) (by omega)).trans hq.2.1, (show _ = _ from hx (j * 4 + 2) (by omega)).trans hq.2.2.1, (show _ = _ from hx (j * 4 + 3) (by omega)).trans hq.2.2.2⟩
  obtain ⟨va, vc, hva⟩ : ∃ a c, v = .slice a l.length c := by
    rcases hv.2 with ⟨rfl, h0⟩ | ⟨b, of, cap, rfl, _⟩
    · rw [h0]; exact ⟨_, _, rfl⟩
    · exact ⟨_, _, rfl⟩
  subst hva
  clear hv
  go_wp2_with fail
  go_loopw [9, 10] (fun at_ i wr => ∃ j : Nat, j ≤ l.length ∧ i = .int .i64 j ∧ at_ = .int .i64 (tot (l.take j)) ∧ Below w3.heap.size w3 wr) (fun _ i _ => l.length - (intOf i).toNat)
  case atStart => exact ⟨0, Nat.zero_le _, rfl, rfl, Below.refl _ _⟩
  case round =>
    obtain ⟨j, hj, rfl, rfl, hbr⟩ := hrel
    replace x0 := cellExt hbr x0
    replace x1 := cellExt hbr x1
    replace x2 := cellExt hbr x2
    replace hB := hB.trans (hbr.mono hB.size)
    by_cases hlt : j < l.length
    · have hpj : l[j]? = some l[j] := by simp [hlt]
      generalize l[j] = p at hpj
      obtain ⟨b, of, cap, hvv, y0, y1, y2, y3⟩ := hcell.out j p hpj
      simp only [Value.slice.injEq, true_and] at hvv
      obtain ⟨rfl, rfl⟩ := hvv
      replace y0 := cellExt hbr y0
      replace y1 := cellExt hbr y1
      replace y2 := cellExt hbr y2
      replace y3 := cellExt hbr y3
      obtain ⟨g1, g2, g3, g4, g5, g6, g7⟩ := HC.out.good j p hpj
      obtain ⟨t0, t1⟩ := tot_take_le HC.out j
      have t2 := HT.out
      have HG := Lib.hid g7
      have HS := Lib.hid (tot_take_succ hpj)
      have t3 := (tot_take_le HC.out (j + 1)).2
      rw [tot_take_succ hpj] at t3
      have tt1 : tot (l.take j) + p.len ≤ 512 := by omega
      clear g7 t1 t2 t3
      have HF : (p.fr != tot (l.take j)) = false := by rw [g1]; simp
      have HA := Lib.hid (fun (i : Nat) (hi : i + 1 = j) (q : Pc) (hq : l[i]? = some q) => HC.out.apart i q p hq (by rw [hi]; exact hpj))
      clear g1
      generalize tot (l.take j) = m at *
      have hBr := Lib.hid hbr
      clear hbr
      have hw1 : IntKind.i64.wrap (p.off + p.len) = p.off + p.len := IntWalk.i64_in _ (by omega)
      have hd1 : decide (p.len < 1) = false := by simp; omega
      have hd2 : decide (o < p.off + p.len) = false := by simp; omega
      go_wp2_with fail
      go_quiet (fail)
      clear hw1 hd1 hd2
      go_wp2_with fail
      obtain ⟨wo, hwo, hwo'⟩ : ∃ wo : World, wo = wr.drewN nq ∧ Below wr.heap.size wr wo := ⟨_, rfl, below_drewN (Below.refl _ _) _⟩
      rw [← hwo]
      clear hwo
      replace x0 := cellExt hwo' x0
      replace x1 := cellExt hwo' x1
      replace x2 := cellExt hwo' x2
      replace y0 := cellExt hwo' y0
      replace y1 := cellExt hwo' y1
      replace y2 := cellExt hwo' y2
      replace y3 := cellExt hwo' y3
      replace hB := hB.trans (hwo'.mono hB.size)
      replace hBr : Hid (Below w3.heap.size w3 wo) := hBr.out.trans (hwo'.mono hBr.out.size)
      clear hwo'
      go_loopw [11] (fun i wi => ∃ k : Nat, (k : Int) ≤ p.len ∧ i = .int .i64 k ∧ Below wo.heap.size wo wi) (fun i _ => (p.len - intOf i).toNat)
      case atStart => exact ⟨0, by simp; omega, rfl, Below.refl _ _⟩
      case round =>
        obtain ⟨k, hk, rfl, hbi⟩ := hrel
        replace x0 := cellExt hbi x0
        replace x1 := cellExt hbi x1
        replace x2 := cellExt hbi x2
        replace y0 := cellExt hbi y0
        replace y1 := cellExt hbi y1
        replace y2 := cellExt hbi y2
        replace y3 := cellExt hbi y3
        by_cases hkl : (k : Int) < p.len
        · have hg := HG.out k (by omega) hkl
          have HV : Hid (BK u c o p.ob (p.off + k) = off + m + k) := by
            show _ = _
            rw [BK_yes (by rw [HK.out, inF_iff.2 ⟨g5, g6⟩, inF_iff.2 ⟨by omega, by omega⟩]; rfl) (by omega), hg]
          clear hg
          have x0' := after_cell x0
          have x1' := after_cell x1
          have x2' := after_cell x2
          have y0' := after_cell y0
          have y1' := after_cell y1
          have hw1 : IntKind.i64.wrap (p.off + k) = p.off + k := IntWalk.i64_in _ (by omega)
          have hw2 : IntKind.i64.wrap (off + m) = off + m := IntWalk.i64_in _ (by omega)
          have hw3 : IntKind.i64.wrap (off + m + k) = off + m + k := IntWalk.i64_in _ (by omega)
          go_wp2_with fail
          (refine wp_region_after (by kernel_rfl) (by kernel_rfl) ?_
           repeat (first | go_big_quiet_skip | (go_big_quiet_want; go_big_quiet_op; (first | go_big_quiet_on | (apply Exists.intro; refine ⟨fun _ => ?_, ?_⟩; (focus ((go_at_call 14; have hbk := back_any u c o p.ob (p.off + k); rw [HV.out] at hbk; exact calls_after (hbk _)))); go_big_quiet_on))))
           refine wpQuiet_nil ?_
           intro _ hw'
           obtain ⟨nq, hw''⟩ := hw'
           subst hw''
           have hq := nq.h)
          clear hw1 hw2 hw3
          go_wp2_with fail
          go_roundw
          case rel => exact ⟨k + 1, by omega, by go_num, hbi.trans (hq.mono hbi.size)⟩
          case measure => simp [intOf]; omega
        · have hkl' : p.len ≤ k := by omega
          rcases Nat.lt_or_ge 0 j with hj0 | hj0
          · obtain ⟨i, hi⟩ : ∃ i, i + 1 = j := ⟨j - 1, by omega⟩
            have hil : i < l.length := by omega
            have hqi : l[i]? = some l[i] := by simp [hil]
            generalize l[i] = q at hqi
            have hap := HA.out i hi q hqi
            obtain ⟨b', of', cap', hvv, z0, z1, z2, -⟩ := hcell.out i q hqi
            simp only [Value.slice.injEq, Option.some.injEq, Addr.mk.injEq, and_true, true_and] at hvv
            obtain ⟨⟨rfl, rfl⟩, rfl⟩ := hvv
            replace z0 := cellExt hbi (cellExt hBr.out z0)
            replace z1 := cellExt hbi (cellExt hBr.out z1)
            replace z2 := cellExt hbi (cellExt hBr.out z2)
            obtain ⟨-, gq2, gq3, gq4, -, -, -⟩ := HC.out.good i q hqi
            have hw0 : IntKind.i64.wrap ((j : Int) - 1) = i := (IntWalk.i64_in _ (by omega)).trans (by omega)
            have hd0 : decide ((0 : Int) < (j : Int)) = true := by simp; omega
            clear hi
            have hw1 : IntKind.i64.wrap (q.off + q.len) = q.off + q.len := IntWalk.i64_in _ (by omega)
            cases ht1 : (q.ob == p.ob)
            · clear hap
              go_wp2_with fail
              go_quiet (fail)
              clear hw0 hw1 hd0
              go_wp2_with fail
              go_roundw
              case rel => exact ⟨j + 1, by omega, by go_num, by rw [HS.out], below_drewN (hBr.out.trans (hbi.mono hBr.out.size)) _⟩
              case measure => simp [intOf]; omega
            · have ht2 : (q.off + q.len == p.off) = false := by
                simp at ht1 ⊢
                exact fun e => hap ⟨ht1, e⟩
              clear hap
              go_wp2_with fail
              go_quiet (fail)
              clear hw0 hw1 hd0
              go_wp2_with fail
              go_roundw
              case rel => exact ⟨j + 1, by omega, by go_num, by rw [HS.out], below_drewN (hBr.out.trans (hbi.mono hBr.out.size)) _⟩
              case measure => simp [intOf]; omega
          · have hg0 : decide (0 < j) = false := by simp; omega
            go_wp2_with fail
            go_quiet (fail)
            clear hg0
            go_wp2_with fail
            go_roundw
            case rel => exact ⟨j + 1, by omega, by go_num, by rw [HS.out], below_drewN (hBr.out.trans (hbi.mono hBr.out.size)) _⟩
            case measure => simp [intOf]; omega
    · have hjn : j = l.length := by omega
      subst hjn
      have T : (tot l == (n : Int)) = true := by rw [HT.out]; simp
      go_wp2_with fail
      go_ret
      exact ⟨rfl, hB⟩

theorem law_covers (u c o off n : Int) (w : World) :
    Calls Try.prog 7 #[lay u c o, .int .i64 off, .int .i64 n] w fun e w' => e = .returned (.bool true) ∧ Below w.heap.size w w' := by
  by_cases h : okB u c o = false ∨ off < 0 ∨ 1000000000 < off ∨ n < 0 ∨ 512 < n
  · exact law_covers_no u c o off n w h
  · simp only [not_or, Bool.not_eq_false] at h
    obtain ⟨n, rfl⟩ := Int.eq_ofNat_of_zero_le (show 0 ≤ n by omega)
    exact law_covers_yes u c o off n w h.1 (by omega) (by omega) (by omega)

theorem stripeCovers_lifted (os : Os) (started : os.Started) (H : Type) (enc : TypeId × Value → H) :
    ReturnsInHanded {} Try.checked os 7 .any (Rows.stripeCoversSpec.pre6 enc Try.prog Try.f7 [] false) (Rows.stripeCoversSpec.post enc Try.prog Try.f7 false true false false) := by
  refine lift_law os started rfl rfl ?_ ?_ (by kernel_rfl) Try.func7
    (ChangeSpec.witness6 (enc := enc) (C := Try.checked) false ⟨#[], #[.agg #[.int .i64 0, .int .i64 0, .int .i64 0], .int .i64 0, .int .i64 0], []⟩ 8 (by kernel_rfl) (by kernel_rfl) (by kernel_rfl) (by kernel_rfl)) ?_
  · intro ds hn
    rw [Try.params7] at hn
    obtain ⟨d1, d2, d3, rfl⟩ : ∃ d1 d2 d3, ds = [d1, d2, d3] := by match ds, hn with | [a, b, c], _ => exact ⟨a, b, c, rfl⟩
    exact ⟨rfl, rfl, rfl⟩
  · rw [Try.params7]
    intro t ht
    simp at ht
    rcases ht with rfl | rfl <;> exact ⟨by kernel_rfl, of_decide_eq_true (by kernel_rfl)⟩
  · intro W base args ds p hval hlt hfz hA
    rw [Try.params7] at hA hval
    obtain ⟨u, c, o, a, b, rfl⟩ := open_args3 hval hA
    exact law_covers u c o a b W
theorem stripeCovers_holds : Rows.StripeCoversSaid :=
  OpenClaim.holds_of_wide 7 Try.f7 rfl rfl rfl rfl rfl rfl rfl ⟨rfl, rfl, rfl, rfl, rfl⟩ rfl rfl rfl rfl rfl (by kernel_rfl) Try.func7 (by kernel_rfl)
    (of_decide_eq_true (by kernel_rfl)) (by unfold Func.isWrapper; rw [if_neg (of_decide_eq_false (by kernel_rfl))]; exact ⟨rfl, rfl⟩)
    (fun os started H enc _ => stripeCovers_lifted os started H enc)
end Go.Proofs.Ythbpafbgnenljaa
