/- What is read of an object stands where a box of two slices and a number is written. No function is named. Transactions, plainly: what a transaction makes of an object; done twice; two behind each other. No program is named. errors.Is at an api.Errno and at txn's enough, errors.As at an api.Errno: Go's own text is walked. The walk of txn's thing.do: ops, one by one. The walk of terrazzoref09.Check. The walk of terrazzoref09.Do. The walk of txn.Do. The walk of txn.Do, whole. -/
import Derived.Test.YtlekdfajcpmolaaGreatDoorGCX
import Derived.Test.YtlekdfajcpmolaaGreatDoorGCH
import Derived.Test.YtlekdfajcpmolaaGreatDoorGCP
import Derived.Deep.RegionHeld3
import Derived.Defers
import Derived.RegionTactic
import Derived.BigRegion
import Derived.Stop.IfaceNil
namespace Go.Proofs.YtlekdfajcpmolaaGreatDoor
open Go.RowKit Go.WideShapes

theorem four_cells {w : World} {p : Nat} {a b c d : Value} {t : TypeId} (h : w.heap[p]? = some (.cells #[a, b, c, d] t (0, 0))) :
    (w.cell? ⟨p, 0, none⟩ = some a ∧ w.frozen? ⟨p, 0, none⟩ = false) ∧ (w.cell? ⟨p, 1, none⟩ = some b ∧ w.frozen? ⟨p, 1, none⟩ = false) ∧ (w.cell? ⟨p, 2, none⟩ = some c ∧ w.frozen? ⟨p, 2, none⟩ = false) ∧ (w.cell? ⟨p, 3, none⟩ = some d ∧ w.frozen? ⟨p, 3, none⟩ = false) := ⟨blk_cell h, blk_cell h, blk_cell h, blk_cell h⟩
end Go.Proofs.YtlekdfajcpmolaaGreatDoor
namespace Go.Proofs.YtlekdfajcpmolaaGreatDoor
open Go.RowKit

/-- an object behind a transaction, whether it is there, the error -/
structure TDoR where
  o : ObD
  there : Bool
  e : Int
def TDoR.no (e : Int) : TDoR := ⟨ObD.none, false, e⟩
def runT (o : ObD) (th : Bool) : List OpD → TDoR
  | [] => ⟨o, th, 0⟩
  | op :: l => if (doB o th op).e = 0 then (if (doB o th op).on = true then runT (doB o th op).o (doB o th op).there l else ⟨(doB o th op).o, (doB o th op).there, 0⟩) else TDoR.no (doB o th op).e
def txDo (o : ObD) (th : Bool) (t : TxD) : TDoR :=
  if txE t = 0 then (if mayB o = true then runT (if th then o else ObD.none) th t.ops else TDoR.no 1) else TDoR.no (txE t)
theorem txE_ok' {t : TxD} (h : txE t = 0) : t.ops.length ≤ 12 ∧ ∀ op ∈ t.ops, opP op := by
  unfold txE at h
  split at h
  · cases h
  · split at h
    · rename_i h1 h2
      simp only [Bool.and_eq_true] at h2
      exact ⟨by omega, fun o ho => of_decide_eq_true (List.all_eq_true.1 h2.2 o ho)⟩
    · cases h
theorem runT_nil (o : ObD) (th : Bool) : runT o th [] = ⟨o, th, 0⟩ := rfl
theorem runT_go {o : ObD} {th : Bool} {op : OpD} {l : List OpD} (h : (doB o th op).e = 0) (hon : (doB o th op).on = true) : runT o th (op :: l) = runT (doB o th op).o (doB o th op).there l := by
  rw [runT, if_pos h, if_pos hon]
theorem runT_halt {o : ObD} {th : Bool} {op : OpD} {l : List OpD} (h : (doB o th op).e = 0) (hon : (doB o th op).on = false) : runT o th (op :: l) = ⟨(doB o th op).o, (doB o th op).there, 0⟩ := by
  rw [runT, if_pos h, if_neg (by rw [hon]; decide)]
theorem runT_bad {o : ObD} {th : Bool} {op : OpD} {l : List OpD} (h : (doB o th op).e ≠ 0) : runT o th (op :: l) = TDoR.no (doB o th op).e := by
  rw [runT, if_neg h]
theorem runT_may : ∀ (l : List OpD) (o : ObD) (th : Bool), mayB o = true → (th = false → o = ObD.none) → (runT o th l).e = 0 → mayB (runT o th l).o = true ∧ ((runT o th l).there = false → (runT o th l).o = ObD.none)
  | [], o, th, hm, hn, _ => ⟨hm, hn⟩
  | op :: l, o, th, hm, hn, h => by
    have hs := stay_of (op := op) hm hn
    by_cases h0 : (doB o th op).e = 0
    · cases hon : (doB o th op).on with
      | true => rw [runT_go h0 hon] at h ⊢; exact runT_may l _ _ (hs.may h0) (hs.nn h0) h
      | false => rw [runT_halt h0 hon]; exact ⟨hs.may h0, hs.nn h0⟩
    · rw [runT_bad h0] at h; exact absurd h h0
theorem guardB_on {o : ObD} {th : Bool} {op : OpD} (h : (guardB o th op).1 = 0) (hk : op.kind ≠ 4) : (guardB o th op).2 = true := by
  unfold guardB at *
  repeat' split at h
  all_goals simp_all
theorem doB_on {o : ObD} {th : Bool} {op : OpD} (h : (doB o th op).e = 0) (hk : op.kind ≠ 4) : (doB o th op).on = true := by
  by_cases hg : mayB o = true ∧ 1 ≤ op.kind ∧ op.kind ≤ 14
  · rw [doB_good hg.1 hg.2.1 hg.2.2] at h ⊢
    by_cases h1 : (guardB (if th then o else ObD.none) th op).1 = 0
    · cases hc : changeB (if th then o else ObD.none) op with
      | none => rw [doG_n h1 hc] at h; cases h
      | some o2 => rw [doG_s h1 hc]; exact guardB_on h1 hk
    · rw [doG_g h1] at h; exact absurd h h1
  · rw [doB_bad (by
      by_cases h1 : mayB o = true
      · by_cases h2 : 1 ≤ op.kind
        · exact .inr (.inr fun h3 => hg ⟨h1, h2, h3⟩)
        · exact .inr (.inl h2)
      · exact .inl (by simpa using h1))] at h
    cases h
/-- ops in two parts; the first says nowhere that it is enough -/
theorem runT_app : ∀ (l m : List OpD) (o : ObD) (th : Bool), (∀ op ∈ l, op.kind ≠ 4) → runT o th (l ++ m) = if (runT o th l).e = 0 then runT (runT o th l).o (runT o th l).there m else runT o th l
  | [], m, o, th, _ => by rw [runT_nil, if_pos rfl]; rfl
  | op :: l, m, o, th, hk => by
    rw [List.cons_append]
    by_cases h0 : (doB o th op).e = 0
    · have hon := doB_on h0 (hk op (List.mem_cons_self ..))
      rw [runT_go h0 hon, runT_go h0 hon]
      exact runT_app l m _ _ fun x hx => hk x (List.mem_cons_of_mem _ hx)
    · rw [runT_bad h0, runT_bad h0]
      exact (if_neg h0).symm
theorem thereB_true {k : Int} (h : k ≠ 13) : thereB true k = true := by
  unfold thereB
  split
  · rfl
  · rfl
theorem doB_there {o : ObD} {op : OpD} (h : (doB o true op).e = 0) (hk : op.kind ≠ 13) : (doB o true op).there = true := by
  by_cases hg : mayB o = true ∧ 1 ≤ op.kind ∧ op.kind ≤ 14
  · rw [doB_good hg.1 hg.2.1 hg.2.2, if_pos rfl] at h ⊢
    by_cases h1 : (guardB o true op).1 = 0
    · cases hc : changeB o op with
      | none => rw [doG_n h1 hc] at h; cases h
      | some o2 => rw [doG_s h1 hc]; exact thereB_true hk
    · rw [doG_g h1] at h; exact absurd h h1
  · rw [doB_bad (by
      by_cases h1 : mayB o = true
      · by_cases h2 : 1 ≤ op.kind
        · exact .inr (.inr fun h3 => hg ⟨h1, h2, h3⟩)
        · exact .inr (.inl h2)
      · exact .inl (by simpa using h1))] at h
    cases h
theorem runT_there : ∀ (l : List OpD) (o : ObD), (∀ op ∈ l, op.kind ≠ 13) → (runT o true l).e = 0 → (runT o true l).there = true
  | [], o, _, _ => rfl
  | op :: l, o, hk, h => by
    by_cases h0 : (doB o true op).e = 0
    · have ht := doB_there h0 (hk op (List.mem_cons_self ..))
      cases hon : (doB o true op).on with
      | true =>
        rw [runT_go h0 hon, ht] at h ⊢
        exact runT_there l _ (fun x hx => hk x (List.mem_cons_of_mem _ hx)) h
      | false => rw [runT_halt h0 hon]; exact ht
    · rw [runT_bad h0] at h; exact absurd h h0
theorem doB_below {o : ObD} {nm : ByteArray} {d : List UInt8} {off n : Int} (hm : mayB o = true) : doB o true ⟨4, off, n, nm, d⟩ = ⟨o, true, decide (o.seq < n), 0⟩ := by
  rw [doB_good hm (of_decide_eq_true rfl) (of_decide_eq_true rfl), if_pos rfl]
  rw [doG_s (o2 := o) (by unfold guardB; simp) (changeB_lo (of_decide_eq_true rfl) (of_decide_eq_true rfl))]
  simp [guardB, thereB]
theorem doB_seq {o : ObD} {nm : ByteArray} {d : List UInt8} {off n : Int} (hm : mayB o = true) (h0 : 0 ≤ n) (h1 : n ≤ 1099511627776) : doB o true ⟨12, off, n, nm, d⟩ = ⟨{ o with seq := n }, true, true, 0⟩ := by
  rw [doB_good hm (of_decide_eq_true rfl) (of_decide_eq_true rfl), if_pos rfl]
  rw [doG_some (o2 := { o with seq := n }) (of_decide_eq_true rfl) (by unfold changeB; simp [h0, h1])]
  simp [thereB]
def opBelow (n : Int) : OpD := ⟨4, 0, n, ByteArray.empty, []⟩
def opSeq (n : Int) : OpD := ⟨12, 0, n, ByteArray.empty, []⟩
theorem txDo_ok {o : ObD} {th : Bool} {t : TxD} (h : (txDo o th t).e = 0) : txE t = 0 ∧ mayB o = true ∧ txDo o th t = runT (if th then o else ObD.none) th t.ops := by
  unfold txDo at *
  split at h
  · rename_i h1
    split at h
    · rename_i h2
      rw [if_pos h1, if_pos h2]
      exact ⟨h1, h2, rfl⟩
    · cases h
  · rename_i h1
    exact absurd h h1
/-- done twice it is done once -/
theorem twice {o : ObD} {n : Int} {nm : ByteArray} {l : List OpD} (hl : ∀ op ∈ l, op.kind ≠ 4 ∧ op.kind ≠ 13) (h : (txDo o true ⟨nm, opBelow n :: (l ++ [opSeq n])⟩).e = 0) :
    (txDo o true ⟨nm, opBelow n :: (l ++ [opSeq n])⟩).there = true ∧
    txDo (txDo o true ⟨nm, opBelow n :: (l ++ [opSeq n])⟩).o true ⟨nm, opBelow n :: (l ++ [opSeq n])⟩ = txDo o true ⟨nm, opBelow n :: (l ++ [opSeq n])⟩ ∧
    ((o.seq < n ∧ (txDo o true ⟨nm, opBelow n :: (l ++ [opSeq n])⟩).o.seq = n) ∨ (n ≤ o.seq ∧ (txDo o true ⟨nm, opBelow n :: (l ++ [opSeq n])⟩).o = o)) := by
  obtain ⟨hE, hm, hr⟩ := txDo_ok h
  rw [if_pos rfl] at hr
  have hn : 0 ≤ n ∧ n ≤ 1099511627776 := by
    have := (txE_ok' hE).2 (opSeq n) (by simp)
    exact ⟨this.2.2.2.2.1, this.2.2.2.2.2.1⟩
  have hb := doB_below (o := o) (nm := ByteArray.empty) (d := []) (off := 0) (n := n) hm
  by_cases hlt : o.seq < n
  · have hd : (doB o true (opBelow n)).on = true := by unfold opBelow; rw [hb]; exact decide_eq_true hlt
    have he : (doB o true (opBelow n)).e = 0 := by unfold opBelow; rw [hb]
    have hr2 : runT o true (opBelow n :: (l ++ [opSeq n])) = runT o true (l ++ [opSeq n]) := by
      rw [runT_go he hd]; unfold opBelow; rw [hb]
    have hr3 := hr.trans hr2
    rw [runT_app l [opSeq n] o true fun x hx => (hl x hx).1] at hr3
    rw [hr3] at h
    by_cases h0 : (runT o true l).e = 0
    · rw [if_pos h0] at h hr3
      have ht := runT_there l o (fun x hx => (hl x hx).2) h0
      have hmm := (runT_may l o true hm (fun h => by cases h) h0).1
      rw [ht] at hr3
      have hs := doB_seq (o := (runT o true l).o) (nm := ByteArray.empty) (d := []) (off := 0) (n := n) hmm hn.1 hn.2
      have hr4 : runT (runT o true l).o true [opSeq n] = ⟨{ (runT o true l).o with seq := n }, true, 0⟩ := by
        unfold opSeq
        rw [runT_go (by rw [hs]) (by rw [hs]), hs]
        rfl
      rw [hr4] at hr3
      rw [hr3]
      refine ⟨rfl, ?_, .inl ⟨hlt, rfl⟩⟩
      have hm2 : mayB { (runT o true l).o with seq := n } = true := by
        obtain ⟨a1, a2, -, -, a5⟩ := (mayB_iff _).1 hmm
        exact (mayB_iff _).2 ⟨a1, a2, hn.1, hn.2, a5⟩
      have hb2 := doB_below (o := { (runT o true l).o with seq := n }) (nm := ByteArray.empty) (d := []) (off := 0) (n := n) hm2
      unfold txDo
      rw [if_pos hE, if_pos hm2, if_pos rfl]
      have hx : runT { (runT o true l).o with seq := n } true (opBelow n :: (l ++ [opSeq n])) = ⟨{ (runT o true l).o with seq := n }, true, 0⟩ := by
        rw [runT_halt (by unfold opBelow; rw [hb2]) (by unfold opBelow; rw [hb2]; simp)]
        unfold opBelow
        rw [hb2]
      exact hx
    · rw [if_neg h0] at h; exact absurd h h0
  · have hd : (doB o true (opBelow n)).on = false := by unfold opBelow; rw [hb]; exact decide_eq_false hlt
    have he : (doB o true (opBelow n)).e = 0 := by unfold opBelow; rw [hb]
    have hr2 : runT o true (opBelow n :: (l ++ [opSeq n])) = ⟨o, true, 0⟩ := by
      rw [runT_halt he hd]; unfold opBelow; rw [hb]
    have hr3 := hr.trans hr2
    rw [hr3]
    exact ⟨rfl, hr3, .inr ⟨by omega, rfl⟩⟩
end Go.Proofs.YtlekdfajcpmolaaGreatDoor
namespace Go.Proofs.YtlekdfajcpmolaaGreatDoor
open Go.RowKit Go.Extern.Stop Go.Stop Go.Extern

end Go.Proofs.YtlekdfajcpmolaaGreatDoor
namespace Go.Proofs.YtlekdfajcpmolaaGreatDoor
open Go.RowKit Go.WideShapes

end Go.Proofs.YtlekdfajcpmolaaGreatDoor
namespace Go.Proofs.YtlekdfajcpmolaaGreatDoor
open Go.RowKit Go.WideShapes

end Go.Proofs.YtlekdfajcpmolaaGreatDoor
namespace Go.Proofs.YtlekdfajcpmolaaGreatDoor
open Go.RowKit Go.WideShapes

/-- what a call that does a transaction leaves -/
def TDoRR (x : TDoR) (w : World) (e : Ending) (w' : World) : Prop := ∃ dv kv, e = .returned (.tuple #[.agg #[dv, kv, .int .i64 x.o.seq], .bool x.there, .int .i64 x.e]) ∧ ObV (fun _ => True) w' (.agg #[dv, kv, .int .i64 x.o.seq]) x.o ∧ Below w.heap.size w w'
theorem TDoRR.no {c : Int} {x : TDoR} {w w' : World} (hx : x = TDoR.no c) (hb : Below w.heap.size w w') : TDoRR x w (.returned (.tuple #[.agg #[.slice none 0 0, .slice none 0 0, .int .i64 0], .bool false, .int .i64 c])) w' := by
  subst hx
  exact ⟨_, _, rfl, obv_none _ _, hb⟩
theorem TDoRR.ok {x : TDoR} {dv kv : Value} {o : ObD} {s : Int} {th : Bool} {w w' : World} (hx : x = ⟨o, th, 0⟩) (hv : ObV (fun _ => True) w' (.agg #[dv, kv, .int .i64 s]) o) (hb : Below w.heap.size w w') : TDoRR x w (.returned (.tuple #[.agg #[dv, kv, .int .i64 s], .bool th, .int .i64 0])) w' := by
  subst hx
  have hs : s = o.seq := by
    obtain ⟨_, _, e, _⟩ := hv
    simp at e
    exact e.2.2
  subst hs
  exact ⟨_, _, rfl, hv, hb⟩
end Go.Proofs.YtlekdfajcpmolaaGreatDoor
namespace Go.Proofs.YtlekdfajcpmolaaGreatDoor
open Go.RowKit Go.WideShapes

/-- what txn.Do leaves: what is handed back is the call's own -/
def TDoOut (x : TDoR) (w : World) (e : Ending) (w' : World) : Prop := ∃ dv kv, e = .returned (.tuple #[.agg #[dv, kv, .int .i64 x.o.seq], .bool x.there, .int .i64 x.e]) ∧ Own8 w.heap.size w' dv kv x.o ∧ Below w.heap.size w w'
end Go.Proofs.YtlekdfajcpmolaaGreatDoor
namespace Go.Proofs.YtlekdfajcpmolaaGreatDoor
open Go.RowKit Go.WideShapes

end Go.Proofs.YtlekdfajcpmolaaGreatDoor
