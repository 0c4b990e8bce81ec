/- The walk of rpc.mayRequest at any request, to the sign. -/
import Derived.Test.YtlgefkaafoidmaaGreatDoorGK
namespace Go.Proofs.YtlgefkaafoidmaaGreatDoor
open Go.RowKit Go.WideShapes

/-- what mayRequest leaves -/
def MayX (q : RqD) (w : World) (e : Ending) (w' : World) : Prop := e = .returned (.bool (mayQ q)) ∧ Below w.heap.size w w'
theorem MayX.of {q : RqD} {b : Bool} {w w' : World} (h : mayQ q = b) (hb : Below w.heap.size w w') : MayX q w (.returned (.bool b)) w' := ⟨by rw [h], hb⟩
set_option maxRecDepth 100000 in
set_option maxHeartbeats 4000000 in
theorem mayq_exact (A : Nat → Prop) (q : RqD) (ov : Value) (w : World) (h : SlE Enc.op A w ov q.txn.ops) : Calls Tryz.prog 30 #[rqV q ov] w (MayX q w) := by
  obtain ⟨oa, oc, rfl⟩ := h.shape
  obtain ⟨qc, ql, qs, qk, qi, qw, qn, ⟨qo, qops⟩⟩ := q
  simp only at *
  have HS := Lib.hid h
  clear h
  simp only [rqV]
  by_cases hid : idP qc ql qs
  · by_cases hk : 1 ≤ qk ∧ qk ≤ 11
    · by_cases hi : 0 ≤ qi ∧ qi ≤ 3
      · by_cases hw : 0 ≤ qw ∧ qw ≤ 7
        · by_cases hn : 0 ≤ qn ∧ qn ≤ 1099511627776
          · have hnp : MayN ⟨qc, ql, qs, qk, qi, qw, qn, ⟨qo, qops⟩⟩ := ⟨hid, hk, hi, hw, hn⟩
            have hmq := mayQ_yes hnp
            simp only at hmq
            clear hnp
            by_cases k1 : qk = 1
            · subst k1
              rw [if_pos rfl] at hmq
              have HM := Lib.hid hmq
              clear hmq
              go_enter Tryz.func30, Tryz.ntmps30
              go_wp2_with fail
              refine (ident_yes _ _ _ hid.1 hid.2.1 hid.2.2 _).mono ?_
              rintro e w1 ⟨rfl, rfl⟩
              go_wp2_with fail
              refine (within_yes _ _ _ hk _).mono ?_
              rintro e w1 ⟨rfl, rfl⟩
              go_wp2_with fail
              refine (within_yes _ _ _ hi _).mono ?_
              rintro e w1 ⟨rfl, rfl⟩
              go_wp2_with fail
              refine (within_yes _ _ _ hw _).mono ?_
              rintro e w1 ⟨rfl, rfl⟩
              go_wp2_with fail
              refine (within_yes _ _ _ hn _).mono ?_
              rintro e w1 ⟨rfl, rfl⟩
              clear hid hk hi hw hn
              go_wp2_with fail
              refine (tcheck_any A ⟨qo, qops⟩ _ _ (HS.out.ext ((Below.refl _ _).alloc (Nat.le_refl _) _))).mono ?_
              rintro e w2 ⟨rfl, hb2⟩
              have HB := Lib.hid (((Below.refl _ w).alloc (Nat.le_refl _) _).trans (hb2.mono (by simp)))
              clear hb2
              by_cases ht : txE ⟨qo, qops⟩ = 0
              · have HX : Hid (_ = true) := Lib.hid (HM.out.trans (decide_eq_true ht))
                rw [ht]
                clear ht HM
                go_wp2
                go_ret
                exact MayX.of HX.out HB.out
              · have HX : Hid (_ = false) := Lib.hid (HM.out.trans (decide_eq_false ht))
                have ht' : (txE ⟨qo, qops⟩ == 0) = false := by simpa using ht
                clear ht HM
                generalize txE ⟨qo, qops⟩ = E at *
                go_wp2
                go_ret
                exact MayX.of HX.out HB.out
            · rw [if_neg k1] at hmq
              have e1 : (qk == 1) = false := by simpa using k1
              clear k1
              by_cases k2 : qk = 2
              · subst k2
                rw [if_pos rfl] at hmq
                have HM := Lib.hid hmq
                clear hmq
                go_enter Tryz.func30, Tryz.ntmps30
                go_wp2_with fail
                refine (ident_yes _ _ _ hid.1 hid.2.1 hid.2.2 _).mono ?_
                rintro e w1 ⟨rfl, rfl⟩
                go_wp2_with fail
                refine (within_yes _ _ _ hk _).mono ?_
                rintro e w1 ⟨rfl, rfl⟩
                go_wp2_with fail
                refine (within_yes _ _ _ hi _).mono ?_
                rintro e w1 ⟨rfl, rfl⟩
                go_wp2_with fail
                refine (within_yes _ _ _ hw _).mono ?_
                rintro e w1 ⟨rfl, rfl⟩
                go_wp2_with fail
                refine (within_yes _ _ _ hn _).mono ?_
                rintro e w1 ⟨rfl, rfl⟩
                clear hid hk hi hw hn
                cases qops with
                | cons o l =>
                  have HX : Hid (_ = false) := Lib.hid (HM.out.trans (by simp))
                  clear HM
                  go_wp2
                  go_ret
                  exact MayX.of HX.out (by ((repeat' (first | exact Below.refl _ _ | refine below_drewN ?_ _ | refine Below.drew ?_ | refine Below.alloc ?_ ?_ _ | refine Below.trans ?_ (Below.mono (by assumption) ?_))); all_goals (first | exact Nat.le_refl _ | exact Below.size (by assumption) | omega | (simp; done) | (simp; omega))))
                | nil =>
                  have HX : Hid (_ = (txE ⟨qo, []⟩ == 0)) := Lib.hid (HM.out.trans (by simp; rfl))
                  clear HM
                  go_wp2_with fail
                  refine (tcheck_any A ⟨qo, []⟩ _ _ (HS.out.ext ((Below.refl _ _).alloc (Nat.le_refl _) _))).mono ?_
                  rintro e w2 ⟨rfl, hb2⟩
                  have HB := Lib.hid (((Below.refl _ w).alloc (Nat.le_refl _) _).trans (hb2.mono (by simp)))
                  clear hb2
                  generalize txE ⟨qo, []⟩ = E at *
                  go_wp2
                  go_ret
                  exact MayX.of HX.out HB.out
              · rw [if_neg k2] at hmq
                have HM := Lib.hid hmq
                clear hmq
                have e2 : (qk == 2) = false := by simpa using k2
                clear k2
                go_enter Tryz.func30, Tryz.ntmps30
                go_wp2_with fail
                refine (ident_yes _ _ _ hid.1 hid.2.1 hid.2.2 _).mono ?_
                rintro e w1 ⟨rfl, rfl⟩
                go_wp2_with fail
                refine (within_yes _ _ _ hk _).mono ?_
                rintro e w1 ⟨rfl, rfl⟩
                go_wp2_with fail
                refine (within_yes _ _ _ hi _).mono ?_
                rintro e w1 ⟨rfl, rfl⟩
                go_wp2_with fail
                refine (within_yes _ _ _ hw _).mono ?_
                rintro e w1 ⟨rfl, rfl⟩
                go_wp2_with fail
                refine (within_yes _ _ _ hn _).mono ?_
                rintro e w1 ⟨rfl, rfl⟩
                clear hid hk hi hw hn
                by_cases ho : qo = ByteArray.empty
                · subst ho
                  cases qops with
                  | nil =>
                    have HX : Hid (_ = true) := Lib.hid (HM.out.trans (by simp))
                    clear HM
                    go_wp2
                    go_ret
                    exact MayX.of HX.out (by ((repeat' (first | exact Below.refl _ _ | refine below_drewN ?_ _ | refine Below.drew ?_ | refine Below.alloc ?_ ?_ _ | refine Below.trans ?_ (Below.mono (by assumption) ?_))); all_goals (first | exact Nat.le_refl _ | exact Below.size (by assumption) | omega | (simp; done) | (simp; omega))))
                  | cons o l =>
                    have HX : Hid (_ = false) := Lib.hid (HM.out.trans (by simp))
                    clear HM
                    go_wp2
                    go_ret
                    exact MayX.of HX.out (by ((repeat' (first | exact Below.refl _ _ | refine below_drewN ?_ _ | refine Below.drew ?_ | refine Below.alloc ?_ ?_ _ | refine Below.trans ?_ (Below.mono (by assumption) ?_))); all_goals (first | exact Nat.le_refl _ | exact Below.size (by assumption) | omega | (simp; done) | (simp; omega))))
                · have HX : Hid (_ = false) := Lib.hid (HM.out.trans (by simp [ho]))
                  clear HM
                  have hol : ¬ qo.toList = [] := fun h => ho (ba_ext (h.trans (by kernel_rfl)))
                  go_wp2
                  all_goals
                    go_ret
                    exact MayX.of HX.out (by ((repeat' (first | exact Below.refl _ _ | refine below_drewN ?_ _ | refine Below.drew ?_ | refine Below.alloc ?_ ?_ _ | refine Below.trans ?_ (Below.mono (by assumption) ?_))); all_goals (first | exact Nat.le_refl _ | exact Below.size (by assumption) | omega | (simp; done) | (simp; omega))))
          · have HX : Hid (mayQ ⟨qc, ql, qs, qk, qi, qw, qn, ⟨qo, qops⟩⟩ = false) := Lib.hid (mayQ_no fun h => hn h.n)
            go_enter Tryz.func30, Tryz.ntmps30
            go_wp2_with fail
            refine (ident_yes _ _ _ hid.1 hid.2.1 hid.2.2 _).mono ?_
            rintro e w1 ⟨rfl, rfl⟩
            go_wp2_with fail
            refine (within_yes _ _ _ hk _).mono ?_
            rintro e w1 ⟨rfl, rfl⟩
            go_wp2_with fail
            refine (within_yes _ _ _ hi _).mono ?_
            rintro e w1 ⟨rfl, rfl⟩
            go_wp2_with fail
            refine (within_yes _ _ _ hw _).mono ?_
            rintro e w1 ⟨rfl, rfl⟩
            go_wp2_with fail
            refine (within_no _ _ _ hn _).mono ?_
            rintro e w1 ⟨rfl, rfl⟩
            go_wp2
            go_ret
            exact MayX.of HX.out (by ((repeat' (first | exact Below.refl _ _ | refine below_drewN ?_ _ | refine Below.drew ?_ | refine Below.alloc ?_ ?_ _ | refine Below.trans ?_ (Below.mono (by assumption) ?_))); all_goals (first | exact Nat.le_refl _ | exact Below.size (by assumption) | omega | (simp; done) | (simp; omega))))
        · have HX : Hid (mayQ ⟨qc, ql, qs, qk, qi, qw, qn, ⟨qo, qops⟩⟩ = false) := Lib.hid (mayQ_no fun h => hw h.w)
          go_enter Tryz.func30, Tryz.ntmps30
          go_wp2_with fail
          refine (ident_yes _ _ _ hid.1 hid.2.1 hid.2.2 _).mono ?_
          rintro e w1 ⟨rfl, rfl⟩
          go_wp2_with fail
          refine (within_yes _ _ _ hk _).mono ?_
          rintro e w1 ⟨rfl, rfl⟩
          go_wp2_with fail
          refine (within_yes _ _ _ hi _).mono ?_
          rintro e w1 ⟨rfl, rfl⟩
          go_wp2_with fail
          refine (within_no _ _ _ hw _).mono ?_
          rintro e w1 ⟨rfl, rfl⟩
          go_wp2
          go_ret
          exact MayX.of HX.out (by ((repeat' (first | exact Below.refl _ _ | refine below_drewN ?_ _ | refine Below.drew ?_ | refine Below.alloc ?_ ?_ _ | refine Below.trans ?_ (Below.mono (by assumption) ?_))); all_goals (first | exact Nat.le_refl _ | exact Below.size (by assumption) | omega | (simp; done) | (simp; omega))))
      · have HX : Hid (mayQ ⟨qc, ql, qs, qk, qi, qw, qn, ⟨qo, qops⟩⟩ = false) := Lib.hid (mayQ_no fun h => hi h.i)
        go_enter Tryz.func30, Tryz.ntmps30
        go_wp2_with fail
        refine (ident_yes _ _ _ hid.1 hid.2.1 hid.2.2 _).mono ?_
        rintro e w1 ⟨rfl, rfl⟩
        go_wp2_with fail
        refine (within_yes _ _ _ hk _).mono ?_
        rintro e w1 ⟨rfl, rfl⟩
        go_wp2_with fail
        refine (within_no _ _ _ hi _).mono ?_
        rintro e w1 ⟨rfl, rfl⟩
        go_wp2
        go_ret
        exact MayX.of HX.out (by ((repeat' (first | exact Below.refl _ _ | refine below_drewN ?_ _ | refine Below.drew ?_ | refine Below.alloc ?_ ?_ _ | refine Below.trans ?_ (Below.mono (by assumption) ?_))); all_goals (first | exact Nat.le_refl _ | exact Below.size (by assumption) | omega | (simp; done) | (simp; omega))))
    · have HX : Hid (mayQ ⟨qc, ql, qs, qk, qi, qw, qn, ⟨qo, qops⟩⟩ = false) := Lib.hid (mayQ_no fun h => hk h.k)
      go_enter Tryz.func30, Tryz.ntmps30
      go_wp2_with fail
      refine (ident_yes _ _ _ hid.1 hid.2.1 hid.2.2 _).mono ?_
      rintro e w1 ⟨rfl, rfl⟩
      go_wp2_with fail
      refine (within_no _ _ _ hk _).mono ?_
      rintro e w1 ⟨rfl, rfl⟩
      go_wp2
      go_ret
      exact MayX.of HX.out (by ((repeat' (first | exact Below.refl _ _ | refine below_drewN ?_ _ | refine Below.drew ?_ | refine Below.alloc ?_ ?_ _ | refine Below.trans ?_ (Below.mono (by assumption) ?_))); all_goals (first | exact Nat.le_refl _ | exact Below.size (by assumption) | omega | (simp; done) | (simp; omega))))
  · have HX : Hid (mayQ ⟨qc, ql, qs, qk, qi, qw, qn, ⟨qo, qops⟩⟩ = false) := Lib.hid (mayQ_no fun h => hid h.id)
    go_enter Tryz.func30, Tryz.ntmps30
    go_wp2_with fail
    refine (ident_no _ _ _ hid _).mono ?_
    rintro e w1 ⟨rfl, rfl⟩
    go_wp2
    go_ret
    exact MayX.of HX.out (by ((repeat' (first | exact Below.refl _ _ | refine below_drewN ?_ _ | refine Below.drew ?_ | refine Below.alloc ?_ ?_ _ | refine Below.trans ?_ (Below.mono (by assumption) ?_))); all_goals (first | exact Nat.le_refl _ | exact Below.size (by assumption) | omega | (simp; done) | (simp; omega))))
end Go.Proofs.YtlgefkaafoidmaaGreatDoor
