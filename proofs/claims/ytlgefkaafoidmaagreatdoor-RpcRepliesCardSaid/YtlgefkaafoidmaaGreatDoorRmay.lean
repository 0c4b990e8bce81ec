/- The walks of terrazzoref16.ident and terrazzoref16.MayRequest at any request. -/
import Derived.Test.YtlgefkaafoidmaaGreatDoorMayE
import Derived.Test.YtlgefkaafoidmaaGreatDoorGN
import Derived.Test.YtlgefkaafoidmaaGreatDoorGM
namespace Go.Proofs.YtlgefkaafoidmaaGreatDoor
open Go.RowKit Go.WideShapes

def idX (c l s : Int) : Prop := (0 ≤ c ∧ c ≤ 7) ∧ (0 ≤ l ∧ l ≤ 4294967295) ∧ (0 ≤ s ∧ s ≤ 1099511627776)
set_option maxRecDepth 100000 in
set_option maxHeartbeats 1600000 in
theorem rident_any (c l s : Int) (w : World) : Calls Tryz.prog 67 #[.int .i64 c, .int .i64 l, .int .i64 s] w fun e w' => (idX c l s → e = .returned (.bool true)) ∧ (¬ idX c l s → e = .returned (.bool false)) ∧ w = w' := by
  by_cases h0 : 0 ≤ c
  · by_cases h1 : c ≤ 7
    · by_cases h2 : 0 ≤ l
      · by_cases h3 : l ≤ 4294967295
        · by_cases h4 : 0 ≤ s
          · by_cases h5 : s ≤ 1099511627776
            · have HX : Hid (idX c l s) := Lib.hid (by unfold idX; omega)
              go_enter Tryz.func67, Tryz.ntmps67
              go_wp2
              go_ret
              exact ⟨fun _ => rfl, fun h => absurd HX.out h, rfl⟩
            · have HX : Hid (¬ idX c l s) := Lib.hid (by unfold idX; omega)
              have k5 : 1099511627776 < s := by omega
              go_enter Tryz.func67, Tryz.ntmps67
              go_wp2
              go_ret
              exact ⟨fun h => absurd h HX.out, fun _ => rfl, rfl⟩
          · have HX : Hid (¬ idX c l s) := Lib.hid (by unfold idX; omega)
            have k4 : s < 0 := by omega
            clear h4
            go_enter Tryz.func67, Tryz.ntmps67
            go_wp2
            go_ret
            exact ⟨fun h => absurd h HX.out, fun _ => rfl, rfl⟩
        · have HX : Hid (¬ idX c l s) := Lib.hid (by unfold idX; omega)
          have k3 : 4294967295 < l := by omega
          clear h3
          go_enter Tryz.func67, Tryz.ntmps67
          go_wp2
          go_ret
          exact ⟨fun h => absurd h HX.out, fun _ => rfl, rfl⟩
      · have HX : Hid (¬ idX c l s) := Lib.hid (by unfold idX; omega)
        have k2 : l < 0 := by omega
        clear h2
        go_enter Tryz.func67, Tryz.ntmps67
        go_wp2
        go_ret
        exact ⟨fun h => absurd h HX.out, fun _ => rfl, rfl⟩
    · have HX : Hid (¬ idX c l s) := Lib.hid (by unfold idX; omega)
      have k1 : 7 < c := by omega
      clear h1
      go_enter Tryz.func67, Tryz.ntmps67
      go_wp2
      go_ret
      exact ⟨fun h => absurd h HX.out, fun _ => rfl, rfl⟩
  · have HX : Hid (¬ idX c l s) := Lib.hid (by unfold idX; omega)
    have k0 : c < 0 := by omega
    clear h0
    go_enter Tryz.func67, Tryz.ntmps67
    go_wp2
    go_ret
    exact ⟨fun h => absurd h HX.out, fun _ => rfl, rfl⟩
set_option maxRecDepth 100000 in
set_option maxHeartbeats 4000000 in
theorem rmay_any (A : Nat → Prop) (q : RqD) (ov : Value) (w : World) (h : SlE Enc.op A w ov q.txn.ops) : Calls Tryz.prog 36 #[rqV q ov] w (MayX q w) := by
  obtain ⟨oa, oc, rfl⟩ := h.shape
  obtain ⟨qc, ql, qs, qk, qi, qw, qn, ⟨qo, qops⟩⟩ := q
  simp only at *
  have HS := Lib.hid h
  clear h
  simp only [rqV]
  by_cases hid : idX qc ql qs
  · by_cases h0 : 1 ≤ qk
    · by_cases h1 : qk ≤ 11
      · by_cases h2 : 0 ≤ qi
        · by_cases h3 : qi ≤ 3
          · by_cases h4 : 0 ≤ qw
            · by_cases h5 : qw ≤ 7
              · by_cases h6 : 0 ≤ qn
                · by_cases h7 : qn ≤ 1099511627776
                  · have hnp : MayN ⟨qc, ql, qs, qk, qi, qw, qn, ⟨qo, qops⟩⟩ := ⟨hid, ⟨h0, h1⟩, ⟨h2, h3⟩, ⟨h4, h5⟩, ⟨h6, h7⟩⟩
                    have hmq := mayQ_yes hnp
                    simp only at hmq
                    have HID := Lib.hid hid
                    clear hnp hid
                    by_cases k1 : qk = 1
                    · subst k1
                      rw [if_pos rfl] at hmq
                      have HM := Lib.hid hmq
                      clear hmq
                      go_enter Tryz.func36, Tryz.ntmps36
                      go_wp2_with fail
                      refine (rident_any qc ql qs _).mono ?_
                      rintro e w1 ⟨hy, -, rfl⟩
                      obtain rfl := hy HID.out
                      clear hy
                      go_wp2_with fail
                      refine (rcheck9_any A ⟨qo, qops⟩ _ _ (HS.out.ext (by ((repeat' (first | exact Below.refl _ _ | refine below_drewN ?_ _ | refine Below.drew ?_ | refine Below.alloc ?_ ?_ _ | refine Below.trans ?_ (Below.mono (by assumption) ?_))); all_goals (first | exact Nat.le_refl _ | exact Below.size (by assumption) | omega | (simp; done) | (simp; omega)))))).mono ?_
                      rintro e w2 ⟨rfl, hb2⟩
                      have HB : Hid (Below w.heap.size w w2) := Lib.hid (by ((repeat' (first | exact Below.refl _ _ | refine below_drewN ?_ _ | refine Below.drew ?_ | refine Below.alloc ?_ ?_ _ | refine Below.trans ?_ (Below.mono (by assumption) ?_))); all_goals (first | exact Nat.le_refl _ | exact Below.size (by assumption) | omega | (simp; done) | (simp; omega))))
                      clear hb2
                      by_cases ht : txE ⟨qo, qops⟩ = 0
                      · have HX : Hid (_ = true) := Lib.hid (HM.out.trans (decide_eq_true ht))
                        rw [ht]
                        clear ht HM
                        go_wp2
                        go_ret
                        exact MayX.of HX.out HB.out
                      · have HX : Hid (_ = false) := Lib.hid (HM.out.trans (decide_eq_false ht))
                        have ht' : (txE ⟨qo, qops⟩ == 0) = false := by simpa using ht
                        clear ht HM
                        generalize txE ⟨qo, qops⟩ = E at *
                        go_wp2
                        go_ret
                        exact MayX.of HX.out HB.out
                    · rw [if_neg k1] at hmq
                      have e1 : (qk == 1) = false := by simpa using k1
                      clear k1
                      by_cases k2 : qk = 2
                      · subst k2
                        rw [if_pos rfl] at hmq
                        have HM := Lib.hid hmq
                        clear hmq
                        go_enter Tryz.func36, Tryz.ntmps36
                        go_wp2_with fail
                        refine (rident_any qc ql qs _).mono ?_
                        rintro e w1 ⟨hy, -, rfl⟩
                        obtain rfl := hy HID.out
                        clear hy
                        go_wp2_with fail
                        refine (rname_any qo _).mono ?_
                        rintro e w2 ⟨rfl, rfl⟩
                        cases hnm : nameB qo with
                        | false =>
                          have HX : Hid (_ = false) := Lib.hid (HM.out.trans (by cases qops <;> simp [txE, hnm]))
                          clear HM hnm
                          go_wp2
                          go_ret
                          exact MayX.of HX.out (by ((repeat' (first | exact Below.refl _ _ | refine below_drewN ?_ _ | refine Below.drew ?_ | refine Below.alloc ?_ ?_ _ | refine Below.trans ?_ (Below.mono (by assumption) ?_))); all_goals (first | exact Nat.le_refl _ | exact Below.size (by assumption) | omega | (simp; done) | (simp; omega))))
                        | true =>
                          cases qops with
                          | nil =>
                            have HX : Hid (_ = true) := Lib.hid (HM.out.trans (by simp [txE, hnm]))
                            clear HM hnm
                            go_wp2
                            go_ret
                            exact MayX.of HX.out (by ((repeat' (first | exact Below.refl _ _ | refine below_drewN ?_ _ | refine Below.drew ?_ | refine Below.alloc ?_ ?_ _ | refine Below.trans ?_ (Below.mono (by assumption) ?_))); all_goals (first | exact Nat.le_refl _ | exact Below.size (by assumption) | omega | (simp; done) | (simp; omega))))
                          | cons o l =>
                            have HX : Hid (_ = false) := Lib.hid (HM.out.trans (by simp))
                            clear HM hnm
                            go_wp2
                            go_ret
                            exact MayX.of HX.out (by ((repeat' (first | exact Below.refl _ _ | refine below_drewN ?_ _ | refine Below.drew ?_ | refine Below.alloc ?_ ?_ _ | refine Below.trans ?_ (Below.mono (by assumption) ?_))); all_goals (first | exact Nat.le_refl _ | exact Below.size (by assumption) | omega | (simp; done) | (simp; omega))))
                      · rw [if_neg k2] at hmq
                        have HM := Lib.hid hmq
                        clear hmq
                        have e2 : (qk == 2) = false := by simpa using k2
                        clear k2
                        by_cases ho : qo = ByteArray.empty
                        · subst ho
                          cases qops with
                          | nil =>
                            have HX : Hid (_ = true) := Lib.hid (HM.out.trans (by simp))
                            clear HM
                            go_enter Tryz.func36, Tryz.ntmps36
                            go_wp2_with fail
                            refine (rident_any qc ql qs _).mono ?_
                            rintro e w1 ⟨hy, -, rfl⟩
                            obtain rfl := hy HID.out
                            clear hy
                            go_wp2
                            go_ret
                            exact MayX.of HX.out (by ((repeat' (first | exact Below.refl _ _ | refine below_drewN ?_ _ | refine Below.drew ?_ | refine Below.alloc ?_ ?_ _ | refine Below.trans ?_ (Below.mono (by assumption) ?_))); all_goals (first | exact Nat.le_refl _ | exact Below.size (by assumption) | omega | (simp; done) | (simp; omega))))
                          | cons o l =>
                            have HX : Hid (_ = false) := Lib.hid (HM.out.trans (by simp))
                            clear HM
                            go_enter Tryz.func36, Tryz.ntmps36
                            go_wp2_with fail
                            refine (rident_any qc ql qs _).mono ?_
                            rintro e w1 ⟨hy, -, rfl⟩
                            obtain rfl := hy HID.out
                            clear hy
                            go_wp2
                            go_ret
                            exact MayX.of HX.out (by ((repeat' (first | exact Below.refl _ _ | refine below_drewN ?_ _ | refine Below.drew ?_ | refine Below.alloc ?_ ?_ _ | refine Below.trans ?_ (Below.mono (by assumption) ?_))); all_goals (first | exact Nat.le_refl _ | exact Below.size (by assumption) | omega | (simp; done) | (simp; omega))))
                        · have HX : Hid (_ = false) := Lib.hid (HM.out.trans (by simp [ho]))
                          have hol : ¬ qo.toList = [] := fun h => ho (ba_ext (h.trans (by kernel_rfl)))
                          clear HM
                          go_enter Tryz.func36, Tryz.ntmps36
                          go_wp2_with fail
                          refine (rident_any qc ql qs _).mono ?_
                          rintro e w1 ⟨hy, -, rfl⟩
                          obtain rfl := hy HID.out
                          clear hy
                          go_wp2
                          all_goals
                            go_ret
                            exact MayX.of HX.out (by ((repeat' (first | exact Below.refl _ _ | refine below_drewN ?_ _ | refine Below.drew ?_ | refine Below.alloc ?_ ?_ _ | refine Below.trans ?_ (Below.mono (by assumption) ?_))); all_goals (first | exact Nat.le_refl _ | exact Below.size (by assumption) | omega | (simp; done) | (simp; omega))))
                  · have HX : Hid (mayQ ⟨qc, ql, qs, qk, qi, qw, qn, ⟨qo, qops⟩⟩ = false) := Lib.hid (mayQ_no fun h => h7 h.n.2)
                    have HID := Lib.hid hid
                    have k7 : 1099511627776 < qn := by omega
                    clear h7 hid
                    go_enter Tryz.func36, Tryz.ntmps36
                    go_wp2_with fail
                    refine (rident_any qc ql qs _).mono ?_
                    rintro e w1 ⟨hy, -, rfl⟩
                    obtain rfl := hy HID.out
                    clear hy
                    go_wp2
                    go_ret
                    exact MayX.of HX.out (by ((repeat' (first | exact Below.refl _ _ | refine below_drewN ?_ _ | refine Below.drew ?_ | refine Below.alloc ?_ ?_ _ | refine Below.trans ?_ (Below.mono (by assumption) ?_))); all_goals (first | exact Nat.le_refl _ | exact Below.size (by assumption) | omega | (simp; done) | (simp; omega))))
                · have HX : Hid (mayQ ⟨qc, ql, qs, qk, qi, qw, qn, ⟨qo, qops⟩⟩ = false) := Lib.hid (mayQ_no fun h => h6 h.n.1)
                  have HID := Lib.hid hid
                  have k6 : qn < 0 := by omega
                  clear h6 hid
                  go_enter Tryz.func36, Tryz.ntmps36
                  go_wp2_with fail
                  refine (rident_any qc ql qs _).mono ?_
                  rintro e w1 ⟨hy, -, rfl⟩
                  obtain rfl := hy HID.out
                  clear hy
                  go_wp2
                  go_ret
                  exact MayX.of HX.out (by ((repeat' (first | exact Below.refl _ _ | refine below_drewN ?_ _ | refine Below.drew ?_ | refine Below.alloc ?_ ?_ _ | refine Below.trans ?_ (Below.mono (by assumption) ?_))); all_goals (first | exact Nat.le_refl _ | exact Below.size (by assumption) | omega | (simp; done) | (simp; omega))))
              · have HX : Hid (mayQ ⟨qc, ql, qs, qk, qi, qw, qn, ⟨qo, qops⟩⟩ = false) := Lib.hid (mayQ_no fun h => h5 h.w.2)
                have HID := Lib.hid hid
                have k5 : 7 < qw := by omega
                clear h5 hid
                go_enter Tryz.func36, Tryz.ntmps36
                go_wp2_with fail
                refine (rident_any qc ql qs _).mono ?_
                rintro e w1 ⟨hy, -, rfl⟩
                obtain rfl := hy HID.out
                clear hy
                go_wp2
                go_ret
                exact MayX.of HX.out (by ((repeat' (first | exact Below.refl _ _ | refine below_drewN ?_ _ | refine Below.drew ?_ | refine Below.alloc ?_ ?_ _ | refine Below.trans ?_ (Below.mono (by assumption) ?_))); all_goals (first | exact Nat.le_refl _ | exact Below.size (by assumption) | omega | (simp; done) | (simp; omega))))
            · have HX : Hid (mayQ ⟨qc, ql, qs, qk, qi, qw, qn, ⟨qo, qops⟩⟩ = false) := Lib.hid (mayQ_no fun h => h4 h.w.1)
              have HID := Lib.hid hid
              have k4 : qw < 0 := by omega
              clear h4 hid
              go_enter Tryz.func36, Tryz.ntmps36
              go_wp2_with fail
              refine (rident_any qc ql qs _).mono ?_
              rintro e w1 ⟨hy, -, rfl⟩
              obtain rfl := hy HID.out
              clear hy
              go_wp2
              go_ret
              exact MayX.of HX.out (by ((repeat' (first | exact Below.refl _ _ | refine below_drewN ?_ _ | refine Below.drew ?_ | refine Below.alloc ?_ ?_ _ | refine Below.trans ?_ (Below.mono (by assumption) ?_))); all_goals (first | exact Nat.le_refl _ | exact Below.size (by assumption) | omega | (simp; done) | (simp; omega))))
          · have HX : Hid (mayQ ⟨qc, ql, qs, qk, qi, qw, qn, ⟨qo, qops⟩⟩ = false) := Lib.hid (mayQ_no fun h => h3 h.i.2)
            have HID := Lib.hid hid
            have k3 : 3 < qi := by omega
            clear h3 hid
            go_enter Tryz.func36, Tryz.ntmps36
            go_wp2_with fail
            refine (rident_any qc ql qs _).mono ?_
            rintro e w1 ⟨hy, -, rfl⟩
            obtain rfl := hy HID.out
            clear hy
            go_wp2
            go_ret
            exact MayX.of HX.out (by ((repeat' (first | exact Below.refl _ _ | refine below_drewN ?_ _ | refine Below.drew ?_ | refine Below.alloc ?_ ?_ _ | refine Below.trans ?_ (Below.mono (by assumption) ?_))); all_goals (first | exact Nat.le_refl _ | exact Below.size (by assumption) | omega | (simp; done) | (simp; omega))))
        · have HX : Hid (mayQ ⟨qc, ql, qs, qk, qi, qw, qn, ⟨qo, qops⟩⟩ = false) := Lib.hid (mayQ_no fun h => h2 h.i.1)
          have HID := Lib.hid hid
          have k2 : qi < 0 := by omega
          clear h2 hid
          go_enter Tryz.func36, Tryz.ntmps36
          go_wp2_with fail
          refine (rident_any qc ql qs _).mono ?_
          rintro e w1 ⟨hy, -, rfl⟩
          obtain rfl := hy HID.out
          clear hy
          go_wp2
          go_ret
          exact MayX.of HX.out (by ((repeat' (first | exact Below.refl _ _ | refine below_drewN ?_ _ | refine Below.drew ?_ | refine Below.alloc ?_ ?_ _ | refine Below.trans ?_ (Below.mono (by assumption) ?_))); all_goals (first | exact Nat.le_refl _ | exact Below.size (by assumption) | omega | (simp; done) | (simp; omega))))
      · have HX : Hid (mayQ ⟨qc, ql, qs, qk, qi, qw, qn, ⟨qo, qops⟩⟩ = false) := Lib.hid (mayQ_no fun h => h1 h.k.2)
        have HID := Lib.hid hid
        have k1 : 11 < qk := by omega
        clear h1 hid
        go_enter Tryz.func36, Tryz.ntmps36
        go_wp2_with fail
        refine (rident_any qc ql qs _).mono ?_
        rintro e w1 ⟨hy, -, rfl⟩
        obtain rfl := hy HID.out
        clear hy
        go_wp2
        go_ret
        exact MayX.of HX.out (by ((repeat' (first | exact Below.refl _ _ | refine below_drewN ?_ _ | refine Below.drew ?_ | refine Below.alloc ?_ ?_ _ | refine Below.trans ?_ (Below.mono (by assumption) ?_))); all_goals (first | exact Nat.le_refl _ | exact Below.size (by assumption) | omega | (simp; done) | (simp; omega))))
    · have HX : Hid (mayQ ⟨qc, ql, qs, qk, qi, qw, qn, ⟨qo, qops⟩⟩ = false) := Lib.hid (mayQ_no fun h => h0 h.k.1)
      have HID := Lib.hid hid
      have k0 : qk < 1 := by omega
      clear h0 hid
      go_enter Tryz.func36, Tryz.ntmps36
      go_wp2_with fail
      refine (rident_any qc ql qs _).mono ?_
      rintro e w1 ⟨hy, -, rfl⟩
      obtain rfl := hy HID.out
      clear hy
      go_wp2
      go_ret
      exact MayX.of HX.out (by ((repeat' (first | exact Below.refl _ _ | refine below_drewN ?_ _ | refine Below.drew ?_ | refine Below.alloc ?_ ?_ _ | refine Below.trans ?_ (Below.mono (by assumption) ?_))); all_goals (first | exact Nat.le_refl _ | exact Below.size (by assumption) | omega | (simp; done) | (simp; omega))))
  · have HX : Hid (mayQ ⟨qc, ql, qs, qk, qi, qw, qn, ⟨qo, qops⟩⟩ = false) := Lib.hid (mayQ_no fun h => hid h.id)
    have HID := Lib.hid hid
    clear hid
    go_enter Tryz.func36, Tryz.ntmps36
    go_wp2_with fail
    refine (rident_any qc ql qs _).mono ?_
    rintro e w1 ⟨-, hn, rfl⟩
    obtain rfl := hn HID.out
    clear hn
    go_wp2
    go_ret
    exact MayX.of HX.out (by ((repeat' (first | exact Below.refl _ _ | refine below_drewN ?_ _ | refine Below.drew ?_ | refine Below.alloc ?_ ?_ _ | refine Below.trans ?_ (Below.mono (by assumption) ?_))); all_goals (first | exact Nat.le_refl _ | exact Below.size (by assumption) | omega | (simp; done) | (simp; omega))))
end Go.Proofs.YtlgefkaafoidmaaGreatDoor
