/- The walk of rpc.mayRequest at any request. -/
import Derived.Test.YtidikciankcopaaDoorTchk
import Derived.Test.YtidikciankcopaaDoorMayQ
namespace Go.Proofs.YtidikciankcopaaDoor
open Go.RowKit Go.WideShapes

theorem within_no (n lo hi : Int) (h : ¬ (lo ≤ n ∧ n ≤ hi)) (w : World) : Calls Tryd.prog 41 #[.int .i64 n, .int .i64 lo, .int .i64 hi] w fun e w' => e = .returned (.bool false) ∧ w = w' :=
  (within_any n lo hi w).mono fun e w' ⟨he, hw⟩ => ⟨by rw [he, decide_eq_false h], hw⟩
def idP (c l s : Int) : Prop := (0 ≤ c ∧ c ≤ 7) ∧ (0 ≤ l ∧ l ≤ 4294967295) ∧ (0 ≤ s ∧ s ≤ 1099511627776)
set_option maxRecDepth 100000 in
theorem ident_no (c l s : Int) (h : ¬ idP c l s) (w : World) : Calls Tryd.prog 45 #[.int .i64 c, .int .i64 l, .int .i64 s] w fun e w' => e = .returned (.bool false) ∧ w = w' := by
  by_cases hc : 0 ≤ c ∧ c ≤ 7
  · by_cases hl : 0 ≤ l ∧ l ≤ 4294967295
    · have hs : ¬ (0 ≤ s ∧ s ≤ 1099511627776) := fun hs => h ⟨hc, hl, hs⟩
      clear h
      go_enter Tryd.func45, Tryd.ntmps45
      go_wp2_with fail
      refine (within_yes _ _ _ hc _).mono ?_
      rintro e w1 ⟨rfl, rfl⟩
      go_wp2_with fail
      refine (within_yes _ _ _ hl _).mono ?_
      rintro e w1 ⟨rfl, rfl⟩
      go_wp2_with fail
      refine (within_no _ _ _ hs _).mono ?_
      rintro e w1 ⟨rfl, rfl⟩
      go_wp2
      go_ret
      exact ⟨rfl, rfl⟩
    · clear h
      go_enter Tryd.func45, Tryd.ntmps45
      go_wp2_with fail
      refine (within_yes _ _ _ hc _).mono ?_
      rintro e w1 ⟨rfl, rfl⟩
      go_wp2_with fail
      refine (within_no _ _ _ hl _).mono ?_
      rintro e w1 ⟨rfl, rfl⟩
      go_wp2
      go_ret
      exact ⟨rfl, rfl⟩
  · clear h
    go_enter Tryd.func45, Tryd.ntmps45
    go_wp2_with fail
    refine (within_no _ _ _ hc _).mono ?_
    rintro e w1 ⟨rfl, rfl⟩
    go_wp2
    go_ret
    exact ⟨rfl, rfl⟩
/-- what may be of a request's numbers -/
structure MayN (q : RqD) : Prop where
  id : idP q.client q.life q.seq
  k : 1 ≤ q.kind ∧ q.kind ≤ 11
  i : 0 ≤ q.image ∧ q.image ≤ 3
  w : 0 ≤ q.who ∧ q.who ≤ 7
  n : 0 ≤ q.n ∧ q.n ≤ 1099511627776
/-- what a request that may be is known by -/
def MayR (q : RqD) (w : World) (e : Ending) (w' : World) : Prop := ∃ b, e = .returned (.bool b) ∧ (b = true → MayN q ∧ (q.kind = 1 → txE q.txn = 0)) ∧ Below w.heap.size w w'
set_option maxRecDepth 100000 in
set_option maxHeartbeats 4000000 in
theorem mayq_any (A : Nat → Prop) (q : RqD) (ov : Value) (w : World) (h : SlE Enc.op A w ov q.txn.ops) : Calls Tryd.prog 30 #[rqV q ov] w (MayR q w) := by
  obtain ⟨oa, oc, rfl⟩ := h.shape
  obtain ⟨qc, ql, qs, qk, qi, qw, qn, ⟨qo, qops⟩⟩ := q
  simp only at *
  have HS := Lib.hid h
  clear h
  simp only [rqV]
  by_cases hid : idP qc ql qs
  · by_cases hk : 1 ≤ qk ∧ qk ≤ 11
    · by_cases hi : 0 ≤ qi ∧ qi ≤ 3
      · by_cases hw : 0 ≤ qw ∧ qw ≤ 7
        · by_cases hn : 0 ≤ qn ∧ qn ≤ 1099511627776
          · have HNP : Hid (MayN ⟨qc, ql, qs, qk, qi, qw, qn, ⟨qo, qops⟩⟩) := ⟨hid, hk, hi, hw, hn⟩
            by_cases k1 : qk = 1
            · subst k1
              go_enter Tryd.func30, Tryd.ntmps30
              go_wp2_with fail
              refine (ident_yes _ _ _ hid.1 hid.2.1 hid.2.2 _).mono ?_
              rintro e w1 ⟨rfl, rfl⟩
              go_wp2_with fail
              refine (within_yes _ _ _ hk _).mono ?_
              rintro e w1 ⟨rfl, rfl⟩
              go_wp2_with fail
              refine (within_yes _ _ _ hi _).mono ?_
              rintro e w1 ⟨rfl, rfl⟩
              go_wp2_with fail
              refine (within_yes _ _ _ hw _).mono ?_
              rintro e w1 ⟨rfl, rfl⟩
              go_wp2_with fail
              refine (within_yes _ _ _ hn _).mono ?_
              rintro e w1 ⟨rfl, rfl⟩
              clear hid hk hi hw hn
              go_wp2_with fail
              refine (tcheck_any A ⟨qo, qops⟩ _ _ (HS.out.ext ((Below.refl _ _).alloc (Nat.le_refl _) _))).mono ?_
              rintro e w2 ⟨rfl, hb2⟩
              have HB := Lib.hid (((Below.refl _ w).alloc (Nat.le_refl _) _).trans (hb2.mono (by simp)))
              clear hb2
              by_cases ht : txE ⟨qo, qops⟩ = 0
              · have HT := Lib.hid ht
                rw [ht]
                clear ht
                go_wp2
                go_ret
                exact ⟨true, rfl, fun _ => ⟨HNP.out, fun _ => HT.out⟩, HB.out⟩
              · have ht' : (txE ⟨qo, qops⟩ == 0) = false := by simpa using ht
                clear ht
                generalize txE ⟨qo, qops⟩ = E at *
                go_wp2
                go_ret
                exact ⟨false, rfl, (fun h => by cases h), HB.out⟩
            · have HK : Hid (∀ b : Bool, b = true → MayN ⟨qc, ql, qs, qk, qi, qw, qn, ⟨qo, qops⟩⟩ ∧ (qk = 1 → txE ⟨qo, qops⟩ = 0)) := fun _ _ => ⟨HNP.out, fun h => absurd h k1⟩
              have e1 : (qk == 1) = false := by simpa using k1
              clear k1
              by_cases k2 : qk = 2
              · subst k2
                go_enter Tryd.func30, Tryd.ntmps30
                go_wp2_with fail
                refine (ident_yes _ _ _ hid.1 hid.2.1 hid.2.2 _).mono ?_
                rintro e w1 ⟨rfl, rfl⟩
                go_wp2_with fail
                refine (within_yes _ _ _ hk _).mono ?_
                rintro e w1 ⟨rfl, rfl⟩
                go_wp2_with fail
                refine (within_yes _ _ _ hi _).mono ?_
                rintro e w1 ⟨rfl, rfl⟩
                go_wp2_with fail
                refine (within_yes _ _ _ hw _).mono ?_
                rintro e w1 ⟨rfl, rfl⟩
                go_wp2_with fail
                refine (within_yes _ _ _ hn _).mono ?_
                rintro e w1 ⟨rfl, rfl⟩
                clear hid hk hi hw hn
                cases qops with
                | cons o l =>
                  go_wp2
                  go_ret
                  exact ⟨false, rfl, (fun h => by cases h), by ((repeat' (first | exact Below.refl _ _ | refine below_drewN ?_ _ | refine Below.drew ?_ | refine Below.alloc ?_ ?_ _ | refine Below.trans ?_ (Below.mono (by assumption) ?_))); all_goals (first | exact Nat.le_refl _ | exact Below.size (by assumption) | omega | (simp; done) | (simp; omega)))⟩
                | nil =>
                  go_wp2_with fail
                  refine (tcheck_any A ⟨qo, []⟩ _ _ (HS.out.ext ((Below.refl _ _).alloc (Nat.le_refl _) _))).mono ?_
                  rintro e w2 ⟨rfl, hb2⟩
                  have HB := Lib.hid (((Below.refl _ w).alloc (Nat.le_refl _) _).trans (hb2.mono (by simp)))
                  clear hb2
                  generalize txE ⟨qo, []⟩ = E
                  go_wp2
                  go_ret
                  exact ⟨_, rfl, fun _ => ⟨HNP.out, fun h => absurd h (by show ¬ (2 : Int) = 1; decide)⟩, HB.out⟩
              · have e2 : (qk == 2) = false := by simpa using k2
                clear k2
                go_enter Tryd.func30, Tryd.ntmps30
                go_wp2_with fail
                refine (ident_yes _ _ _ hid.1 hid.2.1 hid.2.2 _).mono ?_
                rintro e w1 ⟨rfl, rfl⟩
                go_wp2_with fail
                refine (within_yes _ _ _ hk _).mono ?_
                rintro e w1 ⟨rfl, rfl⟩
                go_wp2_with fail
                refine (within_yes _ _ _ hi _).mono ?_
                rintro e w1 ⟨rfl, rfl⟩
                go_wp2_with fail
                refine (within_yes _ _ _ hw _).mono ?_
                rintro e w1 ⟨rfl, rfl⟩
                go_wp2_with fail
                refine (within_yes _ _ _ hn _).mono ?_
                rintro e w1 ⟨rfl, rfl⟩
                clear hid hk hi hw hn
                go_wp2
                all_goals
                  go_ret
                  exact ⟨_, rfl, HK.out _, by ((repeat' (first | exact Below.refl _ _ | refine below_drewN ?_ _ | refine Below.drew ?_ | refine Below.alloc ?_ ?_ _ | refine Below.trans ?_ (Below.mono (by assumption) ?_))); all_goals (first | exact Nat.le_refl _ | exact Below.size (by assumption) | omega | (simp; done) | (simp; omega)))⟩
          · go_enter Tryd.func30, Tryd.ntmps30
            go_wp2_with fail
            refine (ident_yes _ _ _ hid.1 hid.2.1 hid.2.2 _).mono ?_
            rintro e w1 ⟨rfl, rfl⟩
            go_wp2_with fail
            refine (within_yes _ _ _ hk _).mono ?_
            rintro e w1 ⟨rfl, rfl⟩
            go_wp2_with fail
            refine (within_yes _ _ _ hi _).mono ?_
            rintro e w1 ⟨rfl, rfl⟩
            go_wp2_with fail
            refine (within_yes _ _ _ hw _).mono ?_
            rintro e w1 ⟨rfl, rfl⟩
            go_wp2_with fail
            refine (within_no _ _ _ hn _).mono ?_
            rintro e w1 ⟨rfl, rfl⟩
            go_wp2
            go_ret
            exact ⟨false, rfl, (fun h => by cases h), by ((repeat' (first | exact Below.refl _ _ | refine below_drewN ?_ _ | refine Below.drew ?_ | refine Below.alloc ?_ ?_ _ | refine Below.trans ?_ (Below.mono (by assumption) ?_))); all_goals (first | exact Nat.le_refl _ | exact Below.size (by assumption) | omega | (simp; done) | (simp; omega)))⟩
        · go_enter Tryd.func30, Tryd.ntmps30
          go_wp2_with fail
          refine (ident_yes _ _ _ hid.1 hid.2.1 hid.2.2 _).mono ?_
          rintro e w1 ⟨rfl, rfl⟩
          go_wp2_with fail
          refine (within_yes _ _ _ hk _).mono ?_
          rintro e w1 ⟨rfl, rfl⟩
          go_wp2_with fail
          refine (within_yes _ _ _ hi _).mono ?_
          rintro e w1 ⟨rfl, rfl⟩
          go_wp2_with fail
          refine (within_no _ _ _ hw _).mono ?_
          rintro e w1 ⟨rfl, rfl⟩
          go_wp2
          go_ret
          exact ⟨false, rfl, (fun h => by cases h), by ((repeat' (first | exact Below.refl _ _ | refine below_drewN ?_ _ | refine Below.drew ?_ | refine Below.alloc ?_ ?_ _ | refine Below.trans ?_ (Below.mono (by assumption) ?_))); all_goals (first | exact Nat.le_refl _ | exact Below.size (by assumption) | omega | (simp; done) | (simp; omega)))⟩
      · go_enter Tryd.func30, Tryd.ntmps30
        go_wp2_with fail
        refine (ident_yes _ _ _ hid.1 hid.2.1 hid.2.2 _).mono ?_
        rintro e w1 ⟨rfl, rfl⟩
        go_wp2_with fail
        refine (within_yes _ _ _ hk _).mono ?_
        rintro e w1 ⟨rfl, rfl⟩
        go_wp2_with fail
        refine (within_no _ _ _ hi _).mono ?_
        rintro e w1 ⟨rfl, rfl⟩
        go_wp2
        go_ret
        exact ⟨false, rfl, (fun h => by cases h), by ((repeat' (first | exact Below.refl _ _ | refine below_drewN ?_ _ | refine Below.drew ?_ | refine Below.alloc ?_ ?_ _ | refine Below.trans ?_ (Below.mono (by assumption) ?_))); all_goals (first | exact Nat.le_refl _ | exact Below.size (by assumption) | omega | (simp; done) | (simp; omega)))⟩
    · go_enter Tryd.func30, Tryd.ntmps30
      go_wp2_with fail
      refine (ident_yes _ _ _ hid.1 hid.2.1 hid.2.2 _).mono ?_
      rintro e w1 ⟨rfl, rfl⟩
      go_wp2_with fail
      refine (within_no _ _ _ hk _).mono ?_
      rintro e w1 ⟨rfl, rfl⟩
      go_wp2
      go_ret
      exact ⟨false, rfl, (fun h => by cases h), by ((repeat' (first | exact Below.refl _ _ | refine below_drewN ?_ _ | refine Below.drew ?_ | refine Below.alloc ?_ ?_ _ | refine Below.trans ?_ (Below.mono (by assumption) ?_))); all_goals (first | exact Nat.le_refl _ | exact Below.size (by assumption) | omega | (simp; done) | (simp; omega)))⟩
  · go_enter Tryd.func30, Tryd.ntmps30
    go_wp2_with fail
    refine (ident_no _ _ _ hid _).mono ?_
    rintro e w1 ⟨rfl, rfl⟩
    go_wp2
    go_ret
    exact ⟨false, rfl, (fun h => by cases h), by ((repeat' (first | exact Below.refl _ _ | refine below_drewN ?_ _ | refine Below.drew ?_ | refine Below.alloc ?_ ?_ _ | refine Below.trans ?_ (Below.mono (by assumption) ?_))); all_goals (first | exact Nat.le_refl _ | exact Below.size (by assumption) | omega | (simp; done) | (simp; omega)))⟩
end Go.Proofs.YtidikciankcopaaDoor
