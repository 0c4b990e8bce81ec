/- WatchNone. -/
import Derived.Test.YtiikkglgoanpbaaSmall14
namespace Go.Proofs.Ytiikkglgoanpbaa
open Go.RowKit Go.Maps Go.WideShapes

set_option maxRecDepth 100000 in
theorem forget_nil (who : Int) (w : World) : Calls Try.prog 19 #[.pointer none, .int .i64 who] w fun e w' => e = .returned (.tuple #[]) ∧ Below w.heap.size w w' := by
  go_enter Try.func19, Try.ntmps19
  go_wp2
  refine bodyPost_ret (results_none rfl _ _ _) rfl ?_
  exact ⟨rfl, Below.refl _ _⟩
theorem watchers_nil (at_ : Int) (w : World) : Calls Try.prog 24 #[.pointer none, .int .i64 at_] w (Fresh w []) := by
  go_enter Try.func24, Try.ntmps24
  go_wp2
  go_ret
  exact Fresh.none _
theorem watch_nil (at_ who : Int) (w : World) : Calls Try.prog 10 #[.pointer none, .int .i64 at_, .int .i64 who] w fun e w' => e = .returned (.bool false) ∧ w = w' := by
  go_enter Try.func10, Try.ntmps10
  go_wp2
  go_ret
  exact ⟨rfl, rfl⟩



set_option maxRecDepth 100000 in
set_option maxHeartbeats 32000000 in
theorem watchNone_any (image who n : Int) (hw : okI who) (hn : okI n) (w : World) : Calls Try.prog 7 #[.int .i64 image, .int .i64 who, .int .i64 n] w fun e w' => e = .returned (.bool true) ∧ Below w.heap.size w w' := by
  have HW := Lib.hid hw
  have HN := Lib.hid hn
  clear hw hn
  have fin : ∀ P : Prop, (Hid (mayW image who = false) → image < 0 → P) → (Hid (mayW image who = false) → 0 ≤ image → 4 ≤ image → P) → (Hid (mayW image who = false) → 0 ≤ image → image < 4 → who < 0 → P) → (Hid (mayW image who = false) → 0 ≤ image → image < 4 → 0 ≤ who → 8 ≤ who → P) → (Hid (mayW image who = true) → 0 ≤ image → image < 4 → 0 ≤ who → who < 8 → P) → P := by
    intro P h1 h2 h3 h4 h5
    simp only [Hid, mayW, mayI] at h1 h2 h3 h4 h5
    rcases Int.lt_or_le image 0 with g | g
    · exact h1 (by simp; omega) g
    rcases Int.lt_or_le image 4 with g2 | g2
    · rcases Int.lt_or_le who 0 with g3 | g3
      · exact h3 (by simp; omega) g g2 g3
      · rcases Int.lt_or_le who 8 with g4 | g4
        · exact h5 (by simp; omega) g g2 g3 g4
        · exact h4 (by simp; omega) g g2 g3 g4
    · exact h2 (by simp; omega) g g2
  refine fin _ ?_ ?_ ?_ ?_ ?_ <;> clear fin
  all_goals
    intro HM
    intros
    go_enter Try.func7, Try.ntmps7
    go_wp2_with fail
    refine (awake_any _).mono ?_
    rintro e w1 ⟨rfl, hb⟩
    have h1 := Lib.hid hb
    clear hb
    go_wp2_with fail
    refine (forget_nil _ _).mono ?_
    rintro e w2 ⟨rfl, hb⟩
    have h2 := Lib.hid (h1.out.trans (hb.mono h1.out.size))
    clear hb h1
    go_wp2_with fail
    refine (notify_nil _ _ _ _).mono ?_
    rintro e w3 ⟨rfl, hb⟩
    have h3 := Lib.hid (h2.out.trans (hb.mono h2.out.size))
    clear hb h2
    go_wp2_with fail
    refine (new_any _).mono ?_
    rintro e w4 ⟨rfl, hB4, hb⟩
    have h4 := Lib.hid (h3.out.trans (hb.mono h3.out.size))
    have hs3 := Lib.hid h3.out.size
    have H4 := Lib.hid hB4
    clear hB4 hb h3
    generalize w3.heap.size = s at *
    go_wp2_with fail
    refine (watch_any _ _ _ _ H4.out (by intro i hi; simp [newB])).mono ?_
    rintro e w5 ⟨rfl, hB5, hf5⟩
    rw [HM.out]
    have H5 := Lib.hid hB5
    have h5 := Lib.hid (h4.out.trans (hf5.below h4.out.size (fun k hk hm => by have := hs3.out; simp [newB, Brd.fp] at hm; omega)))
    clear hB5 hf5 h4
    go_wp2_with fail
    refine (watch_nil _ _ _).mono ?_
    rintro e w6 ⟨rfl, rfl⟩
    go_wp2_with fail
    refine (watchers_nil _ _).mono ?_
    intro e w7 hfr
    obtain ⟨a7, c7, rfl, hb⟩ := fresh_none hfr
    have h7 := Lib.hid (h5.out.trans (hb.mono h5.out.size))
    have H7 := Lib.hid (H5.out.ext hb)
    clear hfr hb h5 H5
    go_wp2_with fail
    refine (ack_nil _ _ _).mono ?_
    rintro e w8 ⟨rfl, rfl⟩
    go_wp2_with fail
    refine (over_nil _ _).mono ?_
    rintro e w9 ⟨rfl, hb⟩
    have h9 := Lib.hid (h7.out.trans (hb.mono h7.out.size))
    have H9 := Lib.hid (H7.out.ext hb)
    clear hb h7 H7
    go_wp2_with fail
    refine (open_nil _).mono ?_
    rintro e w10 ⟨rfl, rfl⟩
    go_wp2_with fail
    refine (missing_nil _ _).mono ?_
    intro e w11 hfr
    obtain ⟨a11, c11, rfl, hb⟩ := fresh_none hfr
    have h11 := Lib.hid (h9.out.trans (hb.mono h9.out.size))
    have H11 := Lib.hid (H9.out.ext hb)
    have hns : Hid (((newB s).add image who).ns = []) := add_ns _ _ _
    clear hfr hb h9 H9
    go_wp2_with fail
    have hpb : Hid (((newB s).add image who).pb = s + 1) := add_pb _ _ _
    rw [← hpb.out]
    refine (ack_any _ _ _ _ H11.out HN.out HW.out).mono ?_
    rintro e w12 ⟨rfl, hB12, hf12⟩
    rw [hpb.out]
    rw [(ack_none hns.out _ _).1]
    rw [(ack_none hns.out _ _).2] at hB12
    have H12 := Lib.hid hB12
    have h12 := Lib.hid (h11.out.trans (hf12.below h11.out.size fun k hk hm => by
      have := hs3.out
      rw [add_fp] at hm
      simp [newB, Brd.fp] at hm
      omega))
    clear hB12 hf12 H11 h11
    go_wp2_with fail
    rw [← hpb.out]
    refine (open_any _ _ H12.out).mono ?_
    rintro e w13 ⟨rfl, rfl⟩
    rw [hns.out]
    go_wp2
    go_ret
    refine ⟨?_, h12.out⟩
    first | rfl | (simp; done) | (simp; omega)
end Go.Proofs.Ytiikkglgoanpbaa
