/- Transactions, plainly: what a transaction makes of an object; done twice; two behind each other. No program is named. The walk of terrazzoref09.Check. -/
import Derived.Test.YtfeonfihlleoeaaDoorGAS
import Derived.Test.YtfeonfihlleoeaaDoorGAN
namespace Go.Proofs.YtfeonfihlleoeaaDoor
open Go.RowKit

/-- an object behind a transaction, whether it is there, the error -/
structure TDoR where
  o : ObD
  there : Bool
  e : Int
def TDoR.no (e : Int) : TDoR := ⟨ObD.none, false, e⟩
def runT (o : ObD) (th : Bool) : List OpD → TDoR
  | [] => ⟨o, th, 0⟩
  | op :: l => if (doB o th op).e = 0 then (if (doB o th op).on = true then runT (doB o th op).o (doB o th op).there l else ⟨(doB o th op).o, (doB o th op).there, 0⟩) else TDoR.no (doB o th op).e
def txDo (o : ObD) (th : Bool) (t : TxD) : TDoR :=
  if txE t = 0 then (if mayB o = true then runT (if th then o else ObD.none) th t.ops else TDoR.no 1) else TDoR.no (txE t)
theorem txE_ok' {t : TxD} (h : txE t = 0) : t.ops.length ≤ 12 ∧ ∀ op ∈ t.ops, opP op := by
  unfold txE at h
  split at h
  · cases h
  · split at h
    · rename_i h1 h2
      simp only [Bool.and_eq_true] at h2
      exact ⟨by omega, fun o ho => of_decide_eq_true (List.all_eq_true.1 h2.2 o ho)⟩
    · cases h
theorem runT_nil (o : ObD) (th : Bool) : runT o th [] = ⟨o, th, 0⟩ := rfl
theorem runT_go {o : ObD} {th : Bool} {op : OpD} {l : List OpD} (h : (doB o th op).e = 0) (hon : (doB o th op).on = true) : runT o th (op :: l) = runT (doB o th op).o (doB o th op).there l := by
  rw [runT, if_pos h, if_pos hon]
theorem runT_halt {o : ObD} {th : Bool} {op : OpD} {l : List OpD} (h : (doB o th op).e = 0) (hon : (doB o th op).on = false) : runT o th (op :: l) = ⟨(doB o th op).o, (doB o th op).there, 0⟩ := by
  rw [runT, if_pos h, if_neg (by rw [hon]; decide)]
theorem runT_bad {o : ObD} {th : Bool} {op : OpD} {l : List OpD} (h : (doB o th op).e ≠ 0) : runT o th (op :: l) = TDoR.no (doB o th op).e := by
  rw [runT, if_neg h]
theorem runT_no : ∀ (l : List OpD) (o : ObD) (th : Bool), (runT o th l).e ≠ 0 → runT o th l = TDoR.no (runT o th l).e
  | [], o, th, h => absurd rfl h
  | op :: l, o, th, h => by
    by_cases h0 : (doB o th op).e = 0
    · cases hon : (doB o th op).on with
      | true => rw [runT_go h0 hon] at h ⊢; exact runT_no l _ _ h
      | false => rw [runT_halt h0 hon] at h; exact absurd rfl h
    · rw [runT_bad h0]; rfl
theorem runT_may : ∀ (l : List OpD) (o : ObD) (th : Bool), mayB o = true → (th = false → o = ObD.none) → (runT o th l).e = 0 → mayB (runT o th l).o = true ∧ ((runT o th l).there = false → (runT o th l).o = ObD.none)
  | [], o, th, hm, hn, _ => ⟨hm, hn⟩
  | op :: l, o, th, hm, hn, h => by
    have hs := stay_of (op := op) hm hn
    by_cases h0 : (doB o th op).e = 0
    · cases hon : (doB o th op).on with
      | true => rw [runT_go h0 hon] at h ⊢; exact runT_may l _ _ (hs.may h0) (hs.nn h0) h
      | false => rw [runT_halt h0 hon]; exact ⟨hs.may h0, hs.nn h0⟩
    · rw [runT_bad h0] at h; exact absurd h h0
theorem guardB_on {o : ObD} {th : Bool} {op : OpD} (h : (guardB o th op).1 = 0) (hk : op.kind ≠ 4) : (guardB o th op).2 = true := by
  unfold guardB at *
  repeat' split at h
  all_goals simp_all
theorem doB_on {o : ObD} {th : Bool} {op : OpD} (h : (doB o th op).e = 0) (hk : op.kind ≠ 4) : (doB o th op).on = true := by
  by_cases hg : mayB o = true ∧ 1 ≤ op.kind ∧ op.kind ≤ 14
  · rw [doB_good hg.1 hg.2.1 hg.2.2] at h ⊢
    by_cases h1 : (guardB (if th then o else ObD.none) th op).1 = 0
    · cases hc : changeB (if th then o else ObD.none) op with
      | none => rw [doG_n h1 hc] at h; cases h
      | some o2 => rw [doG_s h1 hc]; exact guardB_on h1 hk
    · rw [doG_g h1] at h; exact absurd h h1
  · rw [doB_bad (by
      by_cases h1 : mayB o = true
      · by_cases h2 : 1 ≤ op.kind
        · exact .inr (.inr fun h3 => hg ⟨h1, h2, h3⟩)
        · exact .inr (.inl h2)
      · exact .inl (by simpa using h1))] at h
    cases h
/-- ops in two parts; the first says nowhere that it is enough -/
theorem runT_app : ∀ (l m : List OpD) (o : ObD) (th : Bool), (∀ op ∈ l, op.kind ≠ 4) → runT o th (l ++ m) = if (runT o th l).e = 0 then runT (runT o th l).o (runT o th l).there m else runT o th l
  | [], m, o, th, _ => by rw [runT_nil, if_pos rfl]; rfl
  | op :: l, m, o, th, hk => by
    rw [List.cons_append]
    by_cases h0 : (doB o th op).e = 0
    · have hon := doB_on h0 (hk op (List.mem_cons_self ..))
      rw [runT_go h0 hon, runT_go h0 hon]
      exact runT_app l m _ _ fun x hx => hk x (List.mem_cons_of_mem _ hx)
    · rw [runT_bad h0, runT_bad h0]
      exact (if_neg h0).symm
theorem thereB_true {k : Int} (h : k ≠ 13) : thereB true k = true := by
  unfold thereB
  split
  · rfl
  · rfl
theorem doB_there {o : ObD} {op : OpD} (h : (doB o true op).e = 0) (hk : op.kind ≠ 13) : (doB o true op).there = true := by
  by_cases hg : mayB o = true ∧ 1 ≤ op.kind ∧ op.kind ≤ 14
  · rw [doB_good hg.1 hg.2.1 hg.2.2, if_pos rfl] at h ⊢
    by_cases h1 : (guardB o true op).1 = 0
    · cases hc : changeB o op with
      | none => rw [doG_n h1 hc] at h; cases h
      | some o2 => rw [doG_s h1 hc]; exact thereB_true hk
    · rw [doG_g h1] at h; exact absurd h h1
  · rw [doB_bad (by
      by_cases h1 : mayB o = true
      · by_cases h2 : 1 ≤ op.kind
        · exact .inr (.inr fun h3 => hg ⟨h1, h2, h3⟩)
        · exact .inr (.inl h2)
      · exact .inl (by simpa using h1))] at h
    cases h
theorem runT_there : ∀ (l : List OpD) (o : ObD), (∀ op ∈ l, op.kind ≠ 13) → (runT o true l).e = 0 → (runT o true l).there = true
  | [], o, _, _ => rfl
  | op :: l, o, hk, h => by
    by_cases h0 : (doB o true op).e = 0
    · have ht := doB_there h0 (hk op (List.mem_cons_self ..))
      cases hon : (doB o true op).on with
      | true =>
        rw [runT_go h0 hon, ht] at h ⊢
        exact runT_there l _ (fun x hx => hk x (List.mem_cons_of_mem _ hx)) h
      | false => rw [runT_halt h0 hon]; exact ht
    · rw [runT_bad h0] at h; exact absurd h h0
theorem doB_below {o : ObD} {nm : ByteArray} {d : List UInt8} {off n : Int} (hm : mayB o = true) : doB o true ⟨4, off, n, nm, d⟩ = ⟨o, true, decide (o.seq < n), 0⟩ := by
  rw [doB_good hm (of_decide_eq_true rfl) (of_decide_eq_true rfl), if_pos rfl]
  rw [doG_s (o2 := o) (by unfold guardB; simp) (changeB_lo (of_decide_eq_true rfl) (of_decide_eq_true rfl))]
  simp [guardB, thereB]
theorem doB_seq {o : ObD} {nm : ByteArray} {d : List UInt8} {off n : Int} (hm : mayB o = true) (h0 : 0 ≤ n) (h1 : n ≤ 1099511627776) : doB o true ⟨12, off, n, nm, d⟩ = ⟨{ o with seq := n }, true, true, 0⟩ := by
  rw [doB_good hm (of_decide_eq_true rfl) (of_decide_eq_true rfl), if_pos rfl]
  rw [doG_some (o2 := { o with seq := n }) (of_decide_eq_true rfl) (by unfold changeB; simp [h0, h1])]
  simp [thereB]
def opBelow (n : Int) : OpD := ⟨4, 0, n, ByteArray.empty, []⟩
def opSeq (n : Int) : OpD := ⟨12, 0, n, ByteArray.empty, []⟩
theorem txDo_bad {o : ObD} {th : Bool} {t : TxD} (h : (txDo o th t).e ≠ 0) : txDo o th t = TDoR.no (txDo o th t).e := by
  by_cases h1 : txE t = 0
  · by_cases h2 : mayB o = true
    · have e : txDo o th t = runT (if th then o else ObD.none) th t.ops := by unfold txDo; rw [if_pos h1, if_pos h2]
      rw [e] at h ⊢
      exact runT_no _ _ _ h
    · have e : txDo o th t = TDoR.no 1 := by unfold txDo; rw [if_pos h1, if_neg h2]
      rw [e]
      rfl
  · have e : txDo o th t = TDoR.no (txE t) := by unfold txDo; rw [if_neg h1]
    rw [e]
    rfl
theorem txDo_ok {o : ObD} {th : Bool} {t : TxD} (h : (txDo o th t).e = 0) : txE t = 0 ∧ mayB o = true ∧ txDo o th t = runT (if th then o else ObD.none) th t.ops := by
  unfold txDo at *
  split at h
  · rename_i h1
    split at h
    · rename_i h2
      rw [if_pos h1, if_pos h2]
      exact ⟨h1, h2, rfl⟩
    · cases h
  · rename_i h1
    exact absurd h h1
/-- done twice it is done once -/
theorem twice {o : ObD} {n : Int} {nm : ByteArray} {l : List OpD} (hl : ∀ op ∈ l, op.kind ≠ 4 ∧ op.kind ≠ 13) (h : (txDo o true ⟨nm, opBelow n :: (l ++ [opSeq n])⟩).e = 0) :
    (txDo o true ⟨nm, opBelow n :: (l ++ [opSeq n])⟩).there = true ∧
    txDo (txDo o true ⟨nm, opBelow n :: (l ++ [opSeq n])⟩).o true ⟨nm, opBelow n :: (l ++ [opSeq n])⟩ = txDo o true ⟨nm, opBelow n :: (l ++ [opSeq n])⟩ ∧
    ((o.seq < n ∧ (txDo o true ⟨nm, opBelow n :: (l ++ [opSeq n])⟩).o.seq = n) ∨ (n ≤ o.seq ∧ (txDo o true ⟨nm, opBelow n :: (l ++ [opSeq n])⟩).o = o)) := by
  obtain ⟨hE, hm, hr⟩ := txDo_ok h
  rw [if_pos rfl] at hr
  have hn : 0 ≤ n ∧ n ≤ 1099511627776 := by
    have := (txE_ok' hE).2 (opSeq n) (by simp)
    exact ⟨this.2.2.2.2.1, this.2.2.2.2.2.1⟩
  have hb := doB_below (o := o) (nm := ByteArray.empty) (d := []) (off := 0) (n := n) hm
  by_cases hlt : o.seq < n
  · have hd : (doB o true (opBelow n)).on = true := by unfold opBelow; rw [hb]; exact decide_eq_true hlt
    have he : (doB o true (opBelow n)).e = 0 := by unfold opBelow; rw [hb]
    have hr2 : runT o true (opBelow n :: (l ++ [opSeq n])) = runT o true (l ++ [opSeq n]) := by
      rw [runT_go he hd]; unfold opBelow; rw [hb]
    have hr3 := hr.trans hr2
    rw [runT_app l [opSeq n] o true fun x hx => (hl x hx).1] at hr3
    rw [hr3] at h
    by_cases h0 : (runT o true l).e = 0
    · rw [if_pos h0] at h hr3
      have ht := runT_there l o (fun x hx => (hl x hx).2) h0
      have hmm := (runT_may l o true hm (fun h => by cases h) h0).1
      rw [ht] at hr3
      have hs := doB_seq (o := (runT o true l).o) (nm := ByteArray.empty) (d := []) (off := 0) (n := n) hmm hn.1 hn.2
      have hr4 : runT (runT o true l).o true [opSeq n] = ⟨{ (runT o true l).o with seq := n }, true, 0⟩ := by
        unfold opSeq
        rw [runT_go (by rw [hs]) (by rw [hs]), hs]
        rfl
      rw [hr4] at hr3
      rw [hr3]
      refine ⟨rfl, ?_, .inl ⟨hlt, rfl⟩⟩
      have hm2 : mayB { (runT o true l).o with seq := n } = true := by
        obtain ⟨a1, a2, -, -, a5⟩ := (mayB_iff _).1 hmm
        exact (mayB_iff _).2 ⟨a1, a2, hn.1, hn.2, a5⟩
      have hb2 := doB_below (o := { (runT o true l).o with seq := n }) (nm := ByteArray.empty) (d := []) (off := 0) (n := n) hm2
      unfold txDo
      rw [if_pos hE, if_pos hm2, if_pos rfl]
      have hx : runT { (runT o true l).o with seq := n } true (opBelow n :: (l ++ [opSeq n])) = ⟨{ (runT o true l).o with seq := n }, true, 0⟩ := by
        rw [runT_halt (by unfold opBelow; rw [hb2]) (by unfold opBelow; rw [hb2]; simp)]
        unfold opBelow
        rw [hb2]
      exact hx
    · rw [if_neg h0] at h; exact absurd h h0
  · have hd : (doB o true (opBelow n)).on = false := by unfold opBelow; rw [hb]; exact decide_eq_false hlt
    have he : (doB o true (opBelow n)).e = 0 := by unfold opBelow; rw [hb]
    have hr2 : runT o true (opBelow n :: (l ++ [opSeq n])) = ⟨o, true, 0⟩ := by
      rw [runT_halt he hd]; unfold opBelow; rw [hb]
    have hr3 := hr.trans hr2
    rw [hr3]
    exact ⟨rfl, hr3, .inr ⟨by omega, rfl⟩⟩
/-- where one op is refused nothing is done; where none is, ops in two transactions are done in one -/
theorem txE_le {nm : ByteArray} {l : List OpD} (hl : l.length ≤ 12) : txE ⟨nm, l⟩ = if nameB nm && l.all opB then 0 else 1 := by
  unfold txE
  rw [if_neg (by show ¬ 12 < l.length; omega)]
theorem txAll {o : ObD} {nm : ByteArray} {l m : List OpD} (hk : ∀ op ∈ l, op.kind ≠ 4) (hlen : (l ++ m).length ≤ 12) :
    txDo o true ⟨nm, l ++ m⟩ = if (txDo o true ⟨nm, l⟩).e = 0 then txDo (txDo o true ⟨nm, l⟩).o (txDo o true ⟨nm, l⟩).there ⟨nm, m⟩ else TDoR.no (if (txDo o true ⟨nm, l⟩).e = 1 ∨ txE ⟨nm, m⟩ ≠ 0 then 1 else (txDo o true ⟨nm, l⟩).e) := by
  have h1 : l.length ≤ 12 := by simp at hlen; omega
  have h2 : m.length ≤ 12 := by simp at hlen; omega
  have e0 := txE_le (nm := nm) hlen
  have e1 := txE_le (nm := nm) h1
  have e2 := txE_le (nm := nm) h2
  rw [List.all_append] at e0
  by_cases hl : (nameB nm && l.all opB) = true
  · rw [if_pos hl] at e1
    simp only [Bool.and_eq_true] at hl
    by_cases hm : m.all opB = true
    · have e0' : txE ⟨nm, l ++ m⟩ = 0 := by rw [e0, if_pos (by simp [hl.1, hl.2, hm])]
      have e2' : txE ⟨nm, m⟩ = 0 := by rw [e2, if_pos (by simp [hl.1, hm])]
      by_cases hma : mayB o = true
      · have r0 : txDo o true ⟨nm, l ++ m⟩ = runT o true (l ++ m) := by unfold txDo; rw [if_pos e0', if_pos hma]; rfl
        have r1 : txDo o true ⟨nm, l⟩ = runT o true l := by unfold txDo; rw [if_pos e1, if_pos hma]; rfl
        rw [r0, r1, runT_app l m o true hk]
        by_cases h0 : (runT o true l).e = 0
        · rw [if_pos h0, if_pos h0]
          have hmm := runT_may l o true hma (fun h => by cases h) h0
          unfold txDo
          rw [if_pos e2', if_pos hmm.1]
          cases ht : (runT o true l).there with
          | true => rfl
          | false =>
            rw [hmm.2 ht]
            rfl
        · rw [if_neg h0, if_neg h0]
          have := runT_no l o true h0
          by_cases h1' : (runT o true l).e = 1
          · rw [if_pos (.inl h1'), this, h1']
          · rw [if_neg (by rintro (h | h); exact h1' h; exact h e2'), ← this]
      · have r0 : txDo o true ⟨nm, l ++ m⟩ = TDoR.no 1 := by unfold txDo; rw [if_pos e0', if_neg hma]
        have r1 : txDo o true ⟨nm, l⟩ = TDoR.no 1 := by unfold txDo; rw [if_pos e1, if_neg hma]
        rw [r0, r1]
        rfl
    · have e0' : txE ⟨nm, l ++ m⟩ = 1 := by rw [e0, if_neg (by simp [hm])]
      have e2' : txE ⟨nm, m⟩ = 1 := by rw [e2, if_neg (by simp [hm])]
      have r0 : txDo o true ⟨nm, l ++ m⟩ = TDoR.no 1 := by unfold txDo; rw [e0', if_neg (by decide)]
      have r2 : ∀ o' th', txDo o' th' ⟨nm, m⟩ = TDoR.no 1 := fun o' th' => by unfold txDo; rw [e2', if_neg (by decide)]
      rw [r0, r2, e2']
      split
      · rfl
      · rw [if_pos (.inr (by decide))]
  · rw [if_neg hl] at e1
    have e0' : txE ⟨nm, l ++ m⟩ = 1 := by
      rw [e0, if_neg]
      intro h
      simp only [Bool.and_eq_true] at h
      exact hl (by simp [h.1, h.2.1])
    have r0 : txDo o true ⟨nm, l ++ m⟩ = TDoR.no 1 := by unfold txDo; rw [e0', if_neg (by decide)]
    have r1 : txDo o true ⟨nm, l⟩ = TDoR.no 1 := by unfold txDo; rw [e1, if_neg (by decide)]
    rw [r0, r1]
    rfl
end Go.Proofs.YtfeonfihlleoeaaDoor
namespace Go.Proofs.YtfeonfihlleoeaaDoor
open Go.RowKit Go.WideShapes

theorem txE_name {nm : ByteArray} {ops : List OpD} (hl : ops.length ≤ 12) (h : nameB nm = false) : txE ⟨nm, ops⟩ = 1 := by
  unfold txE
  rw [if_neg (by show ¬ 12 < ops.length; omega), if_neg (by simp [h])]
theorem txE_op {nm : ByteArray} {ops : List OpD} {k : Nat} (hl : ops.length ≤ 12) (hk : k < ops.length) (h : opB ops[k] = false) : txE ⟨nm, ops⟩ = 1 := by
  unfold txE
  rw [if_neg (by show ¬ 12 < ops.length; omega), if_neg]
  intro h2
  simp only [Bool.and_eq_true] at h2
  have := List.all_eq_true.1 h2.2 ops[k] (List.getElem_mem hk)
  rw [h] at this
  cases this
theorem txE_good {nm : ByteArray} {ops : List OpD} (hl : ops.length ≤ 12) (h : nameB nm = true) (ha : ops.all opB = true) : txE ⟨nm, ops⟩ = 0 := by
  unfold txE
  rw [if_neg (by show ¬ 12 < ops.length; omega), if_pos (by simp [h, ha])]
set_option maxRecDepth 100000 in
set_option maxHeartbeats 8000000 in
theorem rcheck9_any (A : Nat → Prop) (t : TxD) (va : Value) (w : World) (h : SlE Enc.op A w va t.ops) : Calls Tryd.prog 39 #[.agg #[.string t.obj, va]] w fun e w' => e = .returned (.int .i64 (txE t)) ∧ Below w.heap.size w w' := by
  obtain ⟨a, c, rfl⟩ := h.shape
  obtain ⟨ob, ops⟩ := t
  simp only at *
  have HS := Lib.hid h
  clear h
  by_cases hl : 12 < ops.length
  · have hl' : (12 : Int) < ops.length := by omega
    have HV : Hid (txE ⟨ob, ops⟩ = 2) := if_pos hl
    go_enter Tryd.func39, Tryd.ntmps39
    go_wp2
    go_ret
    exact ⟨by rw [HV.out]; rfl, by ((repeat' (first | exact Below.refl _ _ | refine below_drewN ?_ _ | refine Below.drew ?_ | refine Below.alloc ?_ ?_ _ | refine Below.trans ?_ (Below.mono (by assumption) ?_))); all_goals (first | exact Nat.le_refl _ | exact Below.size (by assumption) | omega | (simp; done) | (simp; omega)))⟩
  · have hl' : ¬ (12 : Int) < ops.length := by omega
    have hll : ops.length ≤ 12 := by omega
    go_enter Tryd.func39, Tryd.ntmps39
    go_wp2_with fail
    refine (rname_any ob _).mono ?_
    rintro e w1 ⟨rfl, rfl⟩
    cases hn : nameB ob with
    | false =>
      have HV := Lib.hid (txE_name (ops := ops) hll hn)
      clear hn
      go_wp2
      go_ret
      exact ⟨by rw [HV.out]; rfl, by ((repeat' (first | exact Below.refl _ _ | refine below_drewN ?_ _ | refine Below.drew ?_ | refine Below.alloc ?_ ?_ _ | refine Below.trans ?_ (Below.mono (by assumption) ?_))); all_goals (first | exact Nat.le_refl _ | exact Below.size (by assumption) | omega | (simp; done) | (simp; omega)))⟩
    | true =>
      have HN := Lib.hid hn
      clear hn
      go_wp2
      obtain ⟨w0, hw0⟩ : ∃ w0, w0 = w.alloc (.cells #[.string ob, .slice a ops.length c] 28) := ⟨_, rfl⟩
      rw [← hw0]
      have hb0 : Below w.heap.size w w0 := by rw [hw0]; ((repeat' (first | exact Below.refl _ _ | refine below_drewN ?_ _ | refine Below.drew ?_ | refine Below.alloc ?_ ?_ _ | refine Below.trans ?_ (Below.mono (by assumption) ?_))); all_goals (first | exact Nat.le_refl _ | exact Below.size (by assumption) | omega | (simp; done) | (simp; omega)))
      have B0 := Lib.hid (show w0.heap[w.heap.size]? = some (.cells #[.string ob, .slice a ops.length c] 28 (0, 0)) from by rw [hw0]; exact heap_alloc_new _ _)
      have HW := Lib.hid hb0
      have HS0 := Lib.hid (HS.out.ext hb0)
      clear hw0 hb0 HS
      go_loopw [4] (fun q4 wr => ∃ k : Nat, k ≤ ops.length ∧ q4 = .int .i64 k ∧ (ops.take k).all opB = true ∧ Below w0.heap.size w0 wr) (fun q4 _ => ops.length - (intOf q4).toNat)
      case atStart => exact ⟨0, Nat.zero_le _, rfl, rfl, Below.refl _ _⟩
      case round =>
        obtain ⟨k, hk, rfl, hall, hbr⟩ := hrel
        have HBR := Lib.hid hbr
        have HA := Lib.hid hall
        have hsr := hbr.size
        have BR := Lib.hid (dblk hbr B0.out)
        have hlr : w.heap.size < wr.heap.size := (Array.getElem?_eq_some_iff.1 BR.out).1
        obtain ⟨x0, -⟩ := blk_cell (i := 0) BR.out
        obtain ⟨x1, -⟩ := blk_cell (i := 1) BR.out
        simp at x0 x1
        clear hbr hall
        by_cases hlt : k < ops.length
        · have HAS := Lib.hid (all_succ ops k hlt)
          have HBAD : Hid (opB ops[k] = false → txE ⟨ob, ops⟩ = 1) := Lib.hid (txE_op hll hlt)
          obtain ⟨b, off, v, rfl, hb, -, c0, c1, c2, c3, c4, hv⟩ := Ops.at (HS0.out.ext HBR.out) hlt
          obtain ⟨va, vc, rfl⟩ := hv.shape
          clear hv
          generalize ops[k] = o at *
          obtain ⟨k1, f1, n1, nm1, d1⟩ := o
          simp only at c0 c1 c2 c3 c4
          go_upto_region 10 with fail
          obtain ⟨w2, hw2⟩ : ∃ w2, w2 = wr.alloc (.cells #[.int .i64 k1, .int .i64 f1, .int .i64 n1, .string nm1, .slice va d1.length vc] 48) := ⟨_, rfl⟩
          rw [← hw2]
          have HB2 := Lib.hid (show Below w0.heap.size w0 w2 from by rw [hw2]; exact HBR.out.alloc hsr _)
          obtain ⟨z0, z1, z2, z3, z4⟩ := five_cells (show w2.heap[wr.heap.size]? = some (.cells #[.int .i64 k1, .int .i64 f1, .int .i64 n1, .string nm1, .slice va d1.length vc] 48 (0, 0)) from by rw [hw2]; exact heap_alloc_new _ _)
          have HWB := Lib.hid (show Below w.heap.size w w2 from HW.out.trans (HB2.out.mono HW.out.size))
          clear hw2 x0 x1 c0 c1 c2 c3 c4
          by_cases h0 : k1 < 1
          · have HV : Hid (txE ⟨ob, ops⟩ = 1) := Lib.hid (HBAD.out (by simp only [opB, opP]; exact decide_eq_false (by omega)))
            clear HBAD HAS
            go_wp2
            go_ret
            exact ⟨by rw [HV.out]; rfl, HWB.out⟩
          by_cases h1 : 14 < k1
          · have HV : Hid (txE ⟨ob, ops⟩ = 1) := Lib.hid (HBAD.out (by simp only [opB, opP]; exact decide_eq_false (by omega)))
            clear HBAD HAS
            go_wp2
            go_ret
            exact ⟨by rw [HV.out]; rfl, HWB.out⟩
          by_cases h2 : f1 < 0
          · have HV : Hid (txE ⟨ob, ops⟩ = 1) := Lib.hid (HBAD.out (by simp only [opB, opP]; exact decide_eq_false (by omega)))
            clear HBAD HAS
            go_wp2
            go_ret
            exact ⟨by rw [HV.out]; rfl, HWB.out⟩
          by_cases h3 : 1099511627776 < f1
          · have HV : Hid (txE ⟨ob, ops⟩ = 1) := Lib.hid (HBAD.out (by simp only [opB, opP]; exact decide_eq_false (by omega)))
            clear HBAD HAS
            go_wp2
            go_ret
            exact ⟨by rw [HV.out]; rfl, HWB.out⟩
          by_cases h4 : n1 < 0
          · have HV : Hid (txE ⟨ob, ops⟩ = 1) := Lib.hid (HBAD.out (by simp only [opB, opP]; exact decide_eq_false (by omega)))
            clear HBAD HAS
            go_wp2
            go_ret
            exact ⟨by rw [HV.out]; rfl, HWB.out⟩
          by_cases h5 : 1099511627776 < n1
          · have HV : Hid (txE ⟨ob, ops⟩ = 1) := Lib.hid (HBAD.out (by simp only [opB, opP]; exact decide_eq_false (by omega)))
            clear HBAD HAS
            go_wp2
            go_ret
            exact ⟨by rw [HV.out]; rfl, HWB.out⟩
          by_cases h6 : (12 : Int) < nm1.size
          · have HV : Hid (txE ⟨ob, ops⟩ = 1) := Lib.hid (HBAD.out (by simp only [opB, opP]; exact decide_eq_false (by omega)))
            clear HBAD HAS
            go_wp2
            go_ret
            exact ⟨by rw [HV.out]; rfl, HWB.out⟩
          by_cases h7 : (2048 : Int) < d1.length
          · have HV : Hid (txE ⟨ob, ops⟩ = 1) := Lib.hid (HBAD.out (by simp only [opB, opP]; exact decide_eq_false (by omega)))
            clear HBAD HAS
            go_wp2
            go_ret
            exact ⟨by rw [HV.out]; rfl, HWB.out⟩
          have HNX : Hid ((ops.take (k + 1)).all opB = true) := by
            show _ = _
            rw [HAS.out, HA.out, Bool.true_and]
            simp only [opB, opP]
            exact decide_eq_true (by omega)
          clear HAS HBAD
          go_wp2
          go_roundw
          case rel => exact ⟨k + 1, by omega, by go_num, HNX.out, HB2.out⟩
          case measure => simp [intOf]; omega
        · obtain rfl : k = ops.length := by omega
          have HV : Hid (txE ⟨ob, ops⟩ = 0) := Lib.hid (txE_good hll HN.out (by rw [← HA.out, List.take_length]))
          go_wp2
          go_ret
          exact ⟨by rw [HV.out]; rfl, HW.out.trans (HBR.out.mono HW.out.size)⟩
end Go.Proofs.YtfeonfihlleoeaaDoor
