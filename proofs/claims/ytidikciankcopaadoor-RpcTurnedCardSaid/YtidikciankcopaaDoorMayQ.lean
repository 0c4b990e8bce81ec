/- The walk of rpc.mayRequest, where a request may be and has no transaction. -/
import Derived.Test.YtidikciankcopaaDoorCache
namespace Go.Proofs.YtidikciankcopaaDoor
open Go.RowKit Go.WideShapes

theorem within_yes (n lo hi : Int) (h : lo ≤ n ∧ n ≤ hi) (w : World) : Calls Tryd.prog 41 #[.int .i64 n, .int .i64 lo, .int .i64 hi] w fun e w' => e = .returned (.bool true) ∧ w = w' :=
  (within_any n lo hi w).mono fun e w' ⟨he, hw⟩ => ⟨by rw [he, decide_eq_true h], hw⟩
set_option maxRecDepth 100000 in
theorem ident_yes (c l s : Int) (hc : 0 ≤ c ∧ c ≤ 7) (hl : 0 ≤ l ∧ l ≤ 4294967295) (hs : 0 ≤ s ∧ s ≤ 1099511627776) (w : World) : Calls Tryd.prog 45 #[.int .i64 c, .int .i64 l, .int .i64 s] w fun e w' => e = .returned (.bool true) ∧ w = w' := by
  go_enter Tryd.func45, Tryd.ntmps45
  go_wp2_with fail
  refine (within_yes _ _ _ hc _).mono ?_
  rintro e w1 ⟨rfl, rfl⟩
  go_wp2_with fail
  refine (within_yes _ _ _ hl _).mono ?_
  rintro e w1 ⟨rfl, rfl⟩
  go_wp2_with fail
  refine (within_yes _ _ _ hs _).mono ?_
  rintro e w1 ⟨rfl, rfl⟩
  go_wp2
  go_ret
  exact ⟨rfl, rfl⟩
/-- a request without a transaction, that may be -/
structure PlainQ (q : RqD) : Prop where
  c : 0 ≤ q.client ∧ q.client ≤ 7
  l : 0 ≤ q.life ∧ q.life ≤ 4294967295
  s : 0 ≤ q.seq ∧ q.seq ≤ 1099511627776
  k : 3 ≤ q.kind ∧ q.kind ≤ 11
  i : 0 ≤ q.image ∧ q.image ≤ 3
  w : 0 ≤ q.who ∧ q.who ≤ 7
  n : 0 ≤ q.n ∧ q.n ≤ 1099511627776
  t : q.txn = TxD.none
set_option maxRecDepth 100000 in
set_option maxHeartbeats 1600000 in
theorem mayq_plain (q : RqD) (a : Option Addr) (cap : Nat) (h : PlainQ q) (w : World) : Calls Tryd.prog 30 #[rqV q (.slice a 0 cap)] w fun e w' => e = .returned (.bool true) ∧ Below w.heap.size w w' := by
  obtain ⟨qc, ql, qs, qk, qi, qw, qn, qt⟩ := q
  obtain ⟨hc, hl, hs, hk, hi, hw, hn, ht⟩ := h
  simp only at hc hl hs hk hi hw hn ht
  subst ht
  have h1 : 1 ≤ qk ∧ qk ≤ 11 := by omega
  have e1 : (qk == 1) = false := by simp; omega
  have e2 : (qk == 2) = false := by simp; omega
  simp only [rqV, TxD.none]
  go_enter Tryd.func30, Tryd.ntmps30
  go_wp2_with fail
  refine (ident_yes _ _ _ hc hl hs _).mono ?_
  rintro e w1 ⟨rfl, rfl⟩
  go_wp2_with fail
  refine (within_yes _ _ _ h1 _).mono ?_
  rintro e w1 ⟨rfl, rfl⟩
  go_wp2_with fail
  refine (within_yes _ _ _ hi _).mono ?_
  rintro e w1 ⟨rfl, rfl⟩
  go_wp2_with fail
  refine (within_yes _ _ _ hw _).mono ?_
  rintro e w1 ⟨rfl, rfl⟩
  go_wp2_with fail
  refine (within_yes _ _ _ hn _).mono ?_
  rintro e w1 ⟨rfl, rfl⟩
  clear hc hl hs hi hw hn h1
  go_wp2
  go_ret
  exact ⟨rfl, by ((repeat' (first | exact Below.refl _ _ | refine below_drewN ?_ _ | refine Below.drew ?_ | refine Below.alloc ?_ ?_ _ | refine Below.trans ?_ (Below.mono (by assumption) ?_))); all_goals (first | exact Nat.le_refl _ | exact Below.size (by assumption) | omega | (simp; done) | (simp; omega)))⟩
end Go.Proofs.YtidikciankcopaaDoor
