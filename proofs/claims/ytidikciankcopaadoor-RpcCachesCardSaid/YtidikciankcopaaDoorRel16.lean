/- The plain law of caches: the answers kept by client, and the reference's row of replies, tell the same. -/
import Derived.Test.YtidikciankcopaaDoorRKp
import Derived.Test.YtidikciankcopaaDoorFew
namespace Go.Proofs.YtidikciankcopaaDoor

structure Rel (f : Nat → Option RpD) (l : List RpD) : Prop where
  fwd : ∀ i r, i < 8 → f i = some r → r ∈ l ∧ r.client = (i : Nat)
  bwd : ∀ r, r ∈ l → ∃ i : Nat, i < 8 ∧ r.client = (i : Nat) ∧ f i = some r
theorem Rel.nil : Rel (fun _ => none) [] := ⟨fun i r _ h => by simp at h, fun r h => by simp at h⟩
theorem rl_none (q : RqD) : ∀ l : List RpD, (∀ r ∈ l, r.client ≠ q.client) → rl q l = (0, RpD.none)
  | [], _ => rfl
  | r :: l, h => by
    rw [rl, if_neg (h r (by simp))]
    exact rl_none q l fun x hx => h x (by simp [hx])
theorem rl_one (q : RqD) (r : RpD) : ∀ l : List RpD, (∀ x ∈ l, x.client = q.client → x = r) → r ∈ l → r.client = q.client → rl q l = if r.grt q then (2, RpD.none) else if r.eqv q then (1, r) else (0, RpD.none)
  | [], _, h, _ => by simp at h
  | x :: l, h, hm, hc => by
    rw [rl]
    by_cases hx : x.client = q.client
    · obtain rfl := h x (by simp) hx
      rw [if_pos hx]
      by_cases h1 : x.grt q
      · rw [if_pos h1, if_pos h1]
      · rw [if_neg h1, if_neg h1]
        by_cases h2 : x.eqv q
        · rw [if_pos h2, if_pos h2]
        · rw [if_neg h2, if_neg h2]
          by_cases hr : x ∈ l
          · rw [rl_one q x l (fun y hy => h y (by simp [hy])) hr hx, if_neg h1, if_neg h2]
          · exact rl_none q l fun y hy e => hr (by have := h y (by simp [hy]) e; subst this; exact hy)
    · rw [if_neg hx]
      have hr : r ∈ l := by
        rcases List.mem_cons.1 hm with e | e
        · subst e; exact absurd hc hx
        · exact e
      exact rl_one q r l (fun y hy => h y (by simp [hy])) hr hc
theorem rel_look {f : Nat → Option RpD} {l : List RpD} (h : Rel f l) (q : RqD) (i : Nat) (hi : i < 8) (hq : q.client = (i : Nat)) : rl q l = (lookN (f i) q.life q.seq, lookD (f i) q.life q.seq) := by
  cases hf : f i with
  | none =>
    refine (rl_none q l fun r hr e => ?_).trans rfl
    obtain ⟨j, hj, hc, hfj⟩ := h.bwd r hr
    have : j = i := by omega
    subst this
    rw [hf] at hfj
    cases hfj
  | some r =>
    obtain ⟨hm, hc⟩ := h.fwd i r hi hf
    rw [rl_one q r l (fun x hx e => ?_) hm (hc.trans hq.symm)]
    · by_cases h1 : r.life < q.life ∨ (r.life = q.life ∧ r.seq < q.seq)
      · have e1 : lookN (some r) q.life q.seq = 0 := if_pos h1
        have n1 : ¬ r.grt q := by unfold RpD.grt; omega
        have n2 : ¬ r.eqv q := by unfold RpD.eqv; omega
        unfold lookD
        rw [e1, if_neg n1, if_neg n2]
        rfl
      · by_cases h2 : r.life = q.life ∧ r.seq = q.seq
        · have e1 : lookN (some r) q.life q.seq = 1 := (if_neg h1).trans (if_pos h2)
          have n1 : ¬ r.grt q := by unfold RpD.grt; omega
          have n2 : r.eqv q := h2
          unfold lookD
          rw [e1, if_neg n1, if_pos n2]
          rfl
        · have e1 : lookN (some r) q.life q.seq = 2 := (if_neg h1).trans (if_neg h2)
          have n1 : r.grt q := by unfold RpD.grt; omega
          unfold lookD
          rw [e1, if_pos n1]
          rfl
    · obtain ⟨j, hj, hcj, hfj⟩ := h.bwd x hx
      have : j = i := by omega
      subst this
      rw [hf] at hfj
      exact (Option.some.inj hfj).symm
theorem rel_bad {f : Nat → Option RpD} {l : List RpD} (h : Rel f l) (p : RpD) (i : Nat) (hi : i < 8) (hq : p.client = (i : Nat)) : (∃ r ∈ l, bad p r) ↔ lookN (f i) p.life p.seq ≠ 0 := by
  constructor
  · rintro ⟨r, hr, hc, hb⟩
    obtain ⟨j, hj, hcj, hfj⟩ := h.bwd r hr
    have : j = i := by omega
    subst this
    rw [hfj]
    unfold lookN
    simp only
    rw [if_neg (by omega)]
    split <;> simp
  · intro hn
    cases hf : f i with
    | none => rw [hf] at hn; exact absurd rfl hn
    | some r =>
      obtain ⟨hm, hc⟩ := h.fwd i r hi hf
      refine ⟨r, hm, hc.trans hq.symm, ?_⟩
      rw [hf] at hn
      by_cases h1 : r.life < p.life ∨ (r.life = p.life ∧ r.seq < p.seq)
      · exact absurd (if_pos h1) hn
      · omega
theorem rel_put {f : Nat → Option RpD} {l : List RpD} (h : Rel f l) (p : RpD) (i : Nat) (hi : i < 8) (hq : p.client = (i : Nat)) : Rel (fun j => if j = i then some p else f j) (others p l ++ [p]) := by
  refine ⟨fun j r hj hr => ?_, fun r hr => ?_⟩
  · by_cases e : j = i
    · subst e
      simp only [if_true] at hr
      obtain rfl := Option.some.inj hr
      exact ⟨by simp, hq⟩
    · simp only [if_neg e] at hr
      obtain ⟨hm, hc⟩ := h.fwd j r hj hr
      refine ⟨List.mem_append.2 (.inl (List.mem_filter.2 ⟨hm, ?_⟩)), hc⟩
      simp only [decide_eq_true_eq]
      omega
  · rcases List.mem_append.1 hr with hr | hr
    · obtain ⟨hm, hc⟩ := List.mem_filter.1 hr
      simp only [decide_eq_true_eq] at hc
      obtain ⟨j, hj, hcj, hfj⟩ := h.bwd r hm
      refine ⟨j, hj, hcj, ?_⟩
      rw [if_neg (by omega)]
      exact hfj
    · simp at hr
      subst hr
      exact ⟨i, hi, hq, by rw [if_pos rfl]⟩
theorem others_len (p : RpD) (l : List RpD) : (others p l ++ [p]).length ≤ l.length + 1 := by
  rw [List.length_append, List.length_singleton]
  exact Nat.succ_le_succ (List.length_filter_le _ _)
theorem nat_of_range {x : Int} (h : 0 ≤ x ∧ x ≤ 7) : ∃ i : Nat, i < 8 ∧ x = (i : Nat) := ⟨x.toNat, by omega, by omega⟩
theorem thin_okl {o : ObD} (h : thinP o) : o.okl := ⟨by have := h.1; omega, by have := h.2.1; omega, fun k hk => by have := (h.2.2 k hk).1; omega⟩
end Go.Proofs.YtidikciankcopaaDoor
