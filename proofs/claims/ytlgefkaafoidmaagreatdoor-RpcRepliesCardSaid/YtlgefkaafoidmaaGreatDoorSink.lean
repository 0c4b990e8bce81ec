/- A region that draws its order and whose last operation waits for all others: the others under a condition that holds till then. No program is named. -/
import Derived.StillTail
import Derived.Deep.RegionHeld
namespace Go.Proofs.YtlgefkaafoidmaaGreatDoor
open Go

/-- every edge goes back -/
def backB (md : Region.Mode) (ops : Array Oper) : Bool :=
  (List.range ops.size).all fun j => match ops[j]? with
    | some oj => oj.after.all fun e => !Region.binds md e || decide (e.on < j)
    | none => true
section
variable {P : Program} {ops : Array Oper} {md : Region.Mode} {Q : Exit → Act → World → Prop} {S : World → Prop}
theorem backB_spec (h : backB md ops = true) {j : Nat} {oj : Oper} (hj : ops[j]? = some oj) : ∀ e ∈ oj.after, Region.binds md e = true → e.on < j := by
  intro e he hb
  have h1 := List.all_eq_true.1 h j (List.mem_range.2 (Array.getElem?_eq_some_iff.1 hj).1)
  simp only [hj] at h1
  have h2 := Array.all_eq_true'.1 h1 e he
  simpa [hb] using h2
/-- what is asked behind a region whose last operation has yet to come -/
def SinkQ (P : Program) (ops : Array Oper) (n : Nat) (Q : Exit → Act → World → Prop) : Exit → Act → World → Prop
  | .normal, a, w => wpOp P ops Q n (Q .normal) a w
  | .exit i, a, w => Q (.exit i) a w
  | .goto i, a, w => Q (.goto i) a w
  | .ret, a, w => Q .ret a w
  | .panic c, a, w => Q (.panic c) a w
  | .outgrown, a, w => Q .outgrown a w
theorem SinkQ.imp {n : Nat} : ∀ (e : Exit) (a : Act) (w : World), e ≠ .normal → SinkQ P ops n Q e a w → Q e a w := by
  intro e a w he h
  cases e <;> first | exact absurd rfl he | exact h
theorem wp_monoQ {o : Oper} {a : Act} {w : World} {K K' : Act → World → Prop} {Q' : Exit → Act → World → Prop} (h : ∀ a w, K a w → K' a w) (hq : ∀ (e : Exit) a w, e ≠ .normal → Q' e a w → Q e a w)
    (hh : o.wp P a w K Q') : o.wp P a w K' Q := by
  have ho : LetsOut Q' → LetsOut Q := fun ⟨a, w, q⟩ => ⟨a, w, hq _ _ _ (by simp) q⟩
  unfold Oper.wp at *
  generalize (execOp a.eval o).run P w = r at *
  cases r with
  | ok n w' =>
    cases n <;> simp only [Oper.upon] at hh ⊢ <;>
      first
        | exact h _ _ hh
        | exact Calls.mono hh (fun e w'' he => by cases e <;> first | exact h _ _ he | exact hq _ _ _ (by simp) he | exact ho he)
        | exact Rows.mono hh (fun _ _ he => h _ _ he)
        | exact hq _ _ _ (by simp) hh
  | halt x w' => cases x <;> simp only [Oper.upon] at hh ⊢ <;> first | exact hh | exact hq _ _ _ (by simp) hh | exact ho hh
theorem wpOp_monoQ {i : Nat} {a : Act} {w : World} {K K' : Act → World → Prop} {Q' : Exit → Act → World → Prop} (h : ∀ a w, K a w → K' a w) (hq : ∀ (e : Exit) a w, e ≠ .normal → Q' e a w → Q e a w)
    (hh : wpOp P ops Q' i K a w) : wpOp P ops Q i K' a w := by
  have ho : LetsOut Q' → LetsOut Q := fun ⟨a, w, q⟩ => ⟨a, w, hq _ _ _ (by simp) q⟩
  unfold wpOp at *
  split
  · exact h _ _ (by simpa [*] using hh)
  · rename_i o h0
    simp only [h0] at hh
    split
    · rename_i hw; simp only [hw, if_true] at hh; exact hh.imp (wp_monoQ h hq) fun hx => ⟨hx.1, ho hx.2⟩
    · rename_i hw; simp only [hw] at hh; exact h _ _ hh
theorem least_ready {n : Nat} {listed : Array Bool} (hb : backB md ops = true) (hn : n + 1 = ops.size) (inv : HeadInv md ops n listed) :
    ∀ (i : Nat), i < n → listed.getD i true = false → ∃ j, j < n ∧ j ∈ Region.ready md ops listed := by
  intro i
  induction i using Nat.strongRecOn with
  | _ i ih =>
    intro hi hu
    by_cases h : ∃ j, j < i ∧ listed.getD j true = false
    · obtain ⟨j, hj, hj2⟩ := h
      exact ih j hj (by omega) hj2
    · have hio : i < ops.size := by omega
      refine ⟨i, hi, mem_ready.2 ⟨hu, ops[i], by simp [hio], fun e he hbe => ?_⟩⟩
      have hlt := backB_spec hb (show ops[i]? = some ops[i] by simp [hio]) e he hbe
      have hs := inv.size
      have h2 : listed.getD e.on true ≠ false := fun h3 => h ⟨e.on, hlt, h3⟩
      have hl : e.on < listed.size := by omega
      simp [hl] at h2 ⊢
      exact h2
theorem ready_sink {n j : Nat} {listed : Array Bool} (hb : backB md ops = true) (hn : n + 1 = ops.size) (hj : j ≠ n) : j ∈ Region.ready md ops (listed.setIfInBounds n true) ↔ j ∈ Region.ready md ops listed := by
  constructor
  · intro h
    obtain ⟨h0, o, ho, hall⟩ := mem_ready.1 h
    have hlt : j < ops.size := (Array.getElem?_eq_some_iff.1 ho).1
    refine mem_ready.2 ⟨by rw [← getD_set_ne true (Ne.symm hj)]; exact h0, o, ho, fun e he hbe => ?_⟩
    have h1 := hall e he hbe
    have h2 := backB_spec hb ho e he hbe
    rwa [getD_set_ne false (by omega)] at h1
  · exact fun h => ready_mono h hj
theorem sink_ready {n : Nat} {listed : Array Bool} (hb : backB md ops = true) (hn : n + 1 = ops.size) (inv : HeadInv md ops n listed) (h : ∀ i, i < n → listed.getD i true ≠ false) : Region.ready md ops listed = [n] ∧ Region.ready md ops (listed.setIfInBounds n true) = [] := by
  have hno : ops[n]? = some (ops[n]'(by omega)) := by simp
  have hr : ∀ j, j ∈ Region.ready md ops listed ↔ j = n := by
    intro j
    constructor
    · intro hj
      obtain ⟨h0, o, ho, -⟩ := mem_ready.1 hj
      have hlt : j < ops.size := (Array.getElem?_eq_some_iff.1 ho).1
      by_cases hjn : j < n
      · exact absurd h0 (h j hjn)
      · omega
    · rintro rfl
      refine mem_ready.2 ⟨inv.tail _ (Nat.le_refl _) (by omega), _, hno, fun e he hbe => ?_⟩
      have h2 := backB_spec hb hno e he hbe
      have h3 := h e.on h2
      have hl : e.on < listed.size := by rw [inv.size]; omega
      simp [hl] at h3 ⊢
      exact h3
  constructor
  · have h1 : (Region.ready md ops listed).Nodup := by unfold Region.ready; exact List.Pairwise.filter _ List.nodup_range
    cases hl : Region.ready md ops listed with
    | nil => have := (hr n).2 rfl; rw [hl] at this; cases this
    | cons x xs =>
      rw [hl] at h1 hr
      obtain rfl := (hr x).1 (by simp)
      cases xs with
      | nil => rfl
      | cons y ys =>
        obtain rfl := (hr y).1 (by simp)
        simp at h1
  · refine List.eq_nil_iff_forall_not_mem.2 fun j hj => ?_
    obtain ⟨h0, o, ho, -⟩ := mem_ready.1 hj
    have hlt : j < ops.size := (Array.getElem?_eq_some_iff.1 ho).1
    by_cases hjn : j = n
    · subst hjn
      have hl : j < listed.size := by rw [inv.size]; omega
      simp [hl] at h0
    · exact hjn ((hr j).1 ((ready_sink hb hn hjn).1 hj))
theorem wpAny_sink {n : Nat} (hs : Region.sinkB md ops n = true) (hc : Region.chainB md ops n = true) (hb : backB md ops = true) (hn : n + 1 = ops.size) :
    ∀ (fuel : Nat) (listed : Array Bool) (a : Act) (w : World), HeadInv md ops n listed → wpAny P md ops (SinkQ P ops n Q) fuel (listed.setIfInBounds n true) a w → wpAny P md ops Q (fuel + 1) listed a w := by
  intro fuel
  induction fuel with
  | zero =>
    intro listed a w inv H
    have hall : ∀ i, i < n → listed.getD i true ≠ false := fun i hi hu => by
      obtain ⟨j, hj, hjr⟩ := least_ready hb hn inv i hi hu
      have := (ready_sink hb hn (Nat.ne_of_lt hj)).2 hjr
      rw [H.1] at this
      cases this
    obtain ⟨h1, h2⟩ := sink_ready hb hn inv hall
    refine ⟨fun h => (by rw [h1] at h; cases h), fun i hi => ?_⟩
    rw [h1] at hi
    obtain rfl := List.mem_singleton.1 hi
    exact wpOp_mono (fun a' w' h => ⟨h2, h⟩) H.2
  | succ fuel ih =>
    intro listed a w inv H
    by_cases hex : ∃ i, i < n ∧ listed.getD i true = false
    · obtain ⟨i0, hi0, hu0⟩ := hex
      have hnr : n ∉ Region.ready md ops listed := tail_waits hs hc (by omega) inv _ i0 rfl hi0 hu0 n (Nat.le_refl _)
      refine ⟨fun h => ?_, fun i hi => ?_⟩
      · obtain ⟨j, _, hjr⟩ := least_ready hb hn inv i0 hi0 hu0
        rw [h] at hjr
        cases hjr
      · have hin : i ≠ n := fun e => hnr (e ▸ hi)
        have hlt : i < n := by
          obtain ⟨_, o, ho, _⟩ := mem_ready.1 hi
          have := (Array.getElem?_eq_some_iff.1 ho).1
          omega
        refine wpOp_monoQ (fun a' w' h => ih _ a' w' (inv.set hi hlt) ?_) SinkQ.imp (H.2 i ((ready_sink hb hn hin).2 hi))
        rw [Array.setIfInBounds_comm _ _ hin]
        exact h
    · have hall : ∀ i, i < n → listed.getD i true ≠ false := fun i hi hu => hex ⟨i, hi, hu⟩
      obtain ⟨h1, h2⟩ := sink_ready hb hn inv hall
      refine ⟨fun h => (by rw [h1] at h; cases h), fun i hi => ?_⟩
      rw [h1] at hi
      obtain rfl := List.mem_singleton.1 hi
      exact wpOp_mono (fun a' w' h => wpAny_done h2 h _) (H.1 h2)
/-- the end: the last operation -/
theorem sink_end {n : Nat} {o : Oper} {a : Act} {w : World} (ho : ops[n]? = some o) (h : ∀ K' : Act → World → Prop, (∀ a w, Q .normal a w → K' a w) → if Region.wanted o (yielded ops a.tmps) = true then Oper.wp P o a w K' Q else K' (a.put o.dst undef) w) : SinkQ P ops n Q .normal a w := wpOp_step ho h
/-- the beginning: the last operation, number n, is left to the end -/
theorem wp_region_sink {id n : Nat} {a : Act} {w : World} (S : World → Prop) (hm : P.follows .mixedOrders = true) (hs : Region.sinkB .any ops n = true) (hc : Region.chainB .any ops n = true) (hb : backB .any ops = true) (hn : ops.size = n + 1)
    (hS : S w.drew) (h : S w.drew → wpAnyH P .any ops (SinkQ P ops n Q) S n ((Array.replicate (n + 1) false).setIfInBounds n true) a w.drew) : (Code.region id ops true).wp P Q a w := by
  refine wp_region_any hm ?_
  rw [hn]
  refine wpAny_sink hs hc hb hn.symm n _ a _ ⟨by simp [hn], fun j oj _ hl => ?_, fun t h1 h2 => ?_⟩ (wpAny_of_held _ _ _ _ (h hS))
  · rw [getD_replicate_false] at hl
    cases hl
  · have : t < n + 1 := by omega
    simp [this]
end
end Go.Proofs.YtlgefkaafoidmaaGreatDoor
