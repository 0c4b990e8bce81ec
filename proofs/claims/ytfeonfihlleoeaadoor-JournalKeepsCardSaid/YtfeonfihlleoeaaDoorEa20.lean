/- Entries: the walks of entry.within, Check, named, and of the reference's May. -/
import Derived.Test.YtfeonfihlleoeaaDoorGAF
import Derived.Test.YtfeonfihlleoeaaDoorGAN
namespace Go.Proofs.YtfeonfihlleoeaaDoor
open Go.RowKit Go.WideShapes

/-- an entry as a value -/
abbrev enV (e : EnD) (dv : Value) : Value := .agg #[.int .i64 e.seq, .int .i64 e.owner, .int .i64 e.kind, .int .i64 e.off, .int .i64 e.len, .int .i64 e.snap, dv]
def wiB (n lo hi : Int) : Bool := decide (lo ≤ n ∧ n ≤ hi)
set_option maxRecDepth 100000 in
theorem ewithin_any (n lo hi : Int) (w : World) : Calls Tryd.prog 28 #[.int .i64 n, .int .i64 lo, .int .i64 hi] w fun e w' => e = .returned (.bool (wiB n lo hi)) ∧ w = w' := by
  by_cases h1 : lo ≤ n
  · by_cases h2 : n ≤ hi
    · have HE : Hid (wiB n lo hi = true) := Lib.hid (decide_eq_true ⟨h1, h2⟩)
      go_enter Tryd.func28, Tryd.ntmps28
      go_wp2
      go_ret
      rw [HE.out]
      exact ⟨rfl, rfl⟩
    · have HE : Hid (wiB n lo hi = false) := Lib.hid (decide_eq_false fun h => h2 h.2)
      go_enter Tryd.func28, Tryd.ntmps28
      go_wp2
      go_ret
      rw [HE.out]
      exact ⟨rfl, rfl⟩
  · have HE : Hid (wiB n lo hi = false) := Lib.hid (decide_eq_false fun h => h1 h.1)
    have h3 : decide (lo ≤ n) = false := decide_eq_false h1
    go_enter Tryd.func28, Tryd.ntmps28
    go_wp2
    go_ret
    rw [HE.out]
    exact ⟨rfl, rfl⟩
/-- what kinds ask -/
def kiB (e : EnD) : Bool :=
  if e.kind = 1 then wiB e.data.length 1 128 && wiB e.off 0 512 else if e.kind = 2 then wiB e.len 1 512 && wiB e.off 0 512 else if e.kind = 3 then wiB e.len 0 512 else if e.kind = 4 then true
  else if e.kind = 5 ∨ e.kind = 6 then wiB e.snap 1 100 else false
theorem mayE_wi (e : EnD) : mayE e = ((wiB e.seq 1 1099511627776 && wiB e.owner 0 7) && kiB e) := by
  have h : wiB e.data.length 1 128 = decide (1 ≤ e.data.length ∧ e.data.length ≤ 128) := by
    unfold wiB
    by_cases h : 1 ≤ e.data.length ∧ e.data.length ≤ 128
    · rw [decide_eq_true h, decide_eq_true (by omega)]
    · rw [decide_eq_false h, decide_eq_false (by omega)]
  unfold mayE kiB
  rw [h]
  rfl

/-- what Check answers -/
def chkN (e : EnD) : Int := if mayE e then 0 else 70
set_option maxRecDepth 100000 in
set_option maxHeartbeats 8000000 in
theorem echeck_any (e : EnD) (a : Option Addr) (c : Nat) (w : World) : Calls Tryd.prog 18 #[enV e (.slice a e.data.length c)] w fun x w' => x = .returned (.int .i64 (chkN e)) ∧ Below w.heap.size w w' := by
  obtain ⟨s, o, k, f, n, p, d⟩ := e
  simp only [enV]
  have hme := mayE_wi ⟨s, o, k, f, n, p, d⟩
  simp only at hme
  go_enter Tryd.func18, Tryd.ntmps18
  go_upto_region 1 with fail
  obtain ⟨w0, hw0⟩ : ∃ w0, w0 = w.alloc (.cells #[.int .i64 s, .int .i64 o, .int .i64 k, .int .i64 f, .int .i64 n, .int .i64 p, .slice a d.length c] 24) := ⟨_, rfl⟩
  rw [← hw0]
  have b0 : w0.heap[w.heap.size]? = some (.cells #[.int .i64 s, .int .i64 o, .int .i64 k, .int .i64 f, .int .i64 n, .int .i64 p, .slice a d.length c] 24 (0, 0)) := by rw [hw0]; exact heap_alloc_new _ _
  have hw : Below w.heap.size w w0 := by rw [hw0]; ((repeat' (first | exact Below.refl _ _ | refine below_drewN ?_ _ | refine Below.drew ?_ | refine Below.alloc ?_ ?_ _ | refine Below.trans ?_ (Below.mono (by assumption) ?_))); all_goals (first | exact Nat.le_refl _ | exact Below.size (by assumption) | omega | (simp; done) | (simp; omega)))
  clear hw0
  obtain ⟨y0, e0⟩ := blk_cell (i := 0) (b0)
  obtain ⟨y1, e1⟩ := blk_cell (i := 1) (b0)
  obtain ⟨y2, e2⟩ := blk_cell (i := 2) (b0)
  obtain ⟨y3, e3⟩ := blk_cell (i := 3) (b0)
  obtain ⟨y4, e4⟩ := blk_cell (i := 4) (b0)
  obtain ⟨y5, e5⟩ := blk_cell (i := 5) (b0)
  obtain ⟨y6, e6⟩ := blk_cell (i := 6) (b0)
  simp at y0 y1 y2 y3 y4 y5 y6
  have hbs := (Array.getElem?_eq_some_iff.1 b0).1
  have HB := Lib.hid hw
  have HB0 := Lib.hid b0
  clear hw b0
  obtain ⟨B, hB⟩ : ∃ B, B = (wiB s 1 1099511627776 && wiB o 0 7) := ⟨_, rfl⟩
  rw [← hB] at hme
  have HME := Lib.hid hme
  have HBE := Lib.hid hB
  clear hme hB
  go_cut [3] (fun q wx => q = .bool B ∧ wx = w0)
  case first =>
    go_wp2_with fail
    refine (ewithin_any _ _ _ _).mono ?_
    rintro e w' ⟨rfl, rfl⟩
    cases h1 : wiB s 1 1099511627776 with
    | false =>
      have H1 := Lib.hid h1
      clear h1
      go_wp2
      go_meet
      exact ⟨by rw [HBE.out, H1.out]; rfl, rfl⟩
    | true =>
      have H1 := Lib.hid h1
      clear h1
      go_wp2_with fail
      refine (ewithin_any _ _ _ _).mono ?_
      rintro e w' ⟨rfl, rfl⟩
      cases h2 : wiB o 0 7 with
      | false =>
        have H2 := Lib.hid h2
        clear h2
        go_wp2
        go_meet
        exact ⟨by rw [HBE.out, H1.out, H2.out]; rfl, rfl⟩
      | true =>
        have H2 := Lib.hid h2
        clear h2
        go_wp2
        go_meet
        exact ⟨by rw [HBE.out, H1.out, H2.out]; rfl, rfl⟩
  case rest =>
    obtain ⟨rfl, rfl⟩ := hcut
    have HBB : Hid (B = B) := rfl
    clear HBE
    by_cases k1 : k = 1
    · subst k1
      have HK : Hid (kiB ⟨s, o, 1, f, n, p, d⟩ = (wiB d.length 1 128 && wiB f 0 512)) := Lib.hid rfl
      cases B with
      | false =>
        go_wp2
        go_ret
        exact ⟨by rw [chkN, HME.out, Bool.false_and]; rfl, HB.out⟩
      | true =>
        go_wp2_with fail
        refine (ewithin_any _ _ _ _).mono ?_
        rintro e w' ⟨rfl, rfl⟩
        obtain ⟨zh1, hzh1⟩ : ∃ z, z = wiB d.length 1 128 := ⟨_, rfl⟩
        rw [← hzh1]
        have h1 := Lib.hid hzh1.symm
        clear hzh1
        cases zh1 with
        | false =>
          go_wp2
          go_ret
          exact ⟨by rw [chkN, HME.out, Bool.true_and, HK.out, h1.out]; rfl, HB.out⟩
        | true =>
          go_wp2_with fail
          refine (ewithin_any _ _ _ _).mono ?_
          rintro e w' ⟨rfl, rfl⟩
          obtain ⟨zh2, hzh2⟩ : ∃ z, z = wiB f 0 512 := ⟨_, rfl⟩
          rw [← hzh2]
          have h2 := Lib.hid hzh2.symm
          clear hzh2
          cases zh2 with
          | false =>
            go_wp2
            go_ret
            exact ⟨by rw [chkN, HME.out, Bool.true_and, HK.out, h1.out, h2.out]; rfl, HB.out⟩
          | true =>
            go_wp2
            go_ret
            exact ⟨by rw [chkN, HME.out, Bool.true_and, HK.out, h1.out, h2.out]; rfl, HB.out⟩
    · by_cases k2 : k = 2
      · subst k2
        have HK : Hid (kiB ⟨s, o, 2, f, n, p, d⟩ = (wiB n 1 512 && wiB f 0 512)) := Lib.hid rfl
        clear k1
        cases B with
        | false =>
          go_wp2
          go_ret
          exact ⟨by rw [chkN, HME.out, Bool.false_and]; rfl, HB.out⟩
        | true =>
          go_wp2_with fail
          refine (ewithin_any _ _ _ _).mono ?_
          rintro e w' ⟨rfl, rfl⟩
          obtain ⟨zh1, hzh1⟩ : ∃ z, z = wiB n 1 512 := ⟨_, rfl⟩
          rw [← hzh1]
          have h1 := Lib.hid hzh1.symm
          clear hzh1
          cases zh1 with
          | false =>
            go_wp2
            go_ret
            exact ⟨by rw [chkN, HME.out, Bool.true_and, HK.out, h1.out]; rfl, HB.out⟩
          | true =>
            go_wp2_with fail
            refine (ewithin_any _ _ _ _).mono ?_
            rintro e w' ⟨rfl, rfl⟩
            obtain ⟨zh2, hzh2⟩ : ∃ z, z = wiB f 0 512 := ⟨_, rfl⟩
            rw [← hzh2]
            have h2 := Lib.hid hzh2.symm
            clear hzh2
            cases zh2 with
            | false =>
              go_wp2
              go_ret
              exact ⟨by rw [chkN, HME.out, Bool.true_and, HK.out, h1.out, h2.out]; rfl, HB.out⟩
            | true =>
              go_wp2
              go_ret
              exact ⟨by rw [chkN, HME.out, Bool.true_and, HK.out, h1.out, h2.out]; rfl, HB.out⟩
      · by_cases k3 : k = 3
        · subst k3
          have HK : Hid (kiB ⟨s, o, 3, f, n, p, d⟩ = wiB n 0 512) := Lib.hid rfl
          clear k1 k2
          cases B with
          | false =>
            go_wp2
            go_ret
            exact ⟨by rw [chkN, HME.out, Bool.false_and]; rfl, HB.out⟩
          | true =>
            go_wp2_with fail
            refine (ewithin_any _ _ _ _).mono ?_
            rintro e w' ⟨rfl, rfl⟩
            obtain ⟨zh1, hzh1⟩ : ∃ z, z = wiB n 0 512 := ⟨_, rfl⟩
            rw [← hzh1]
            have h1 := Lib.hid hzh1.symm
            clear hzh1
            cases zh1 with
            | false =>
              go_wp2
              go_ret
              exact ⟨by rw [chkN, HME.out, Bool.true_and, HK.out, h1.out]; rfl, HB.out⟩
            | true =>
              go_wp2
              go_ret
              exact ⟨by rw [chkN, HME.out, Bool.true_and, HK.out, h1.out]; rfl, HB.out⟩
        · by_cases k4 : k = 4
          · subst k4
            have HK : Hid (kiB ⟨s, o, 4, f, n, p, d⟩ = true) := Lib.hid rfl
            clear k1 k2 k3
            cases B with
            | false =>
              go_wp2
              go_ret
              exact ⟨by rw [chkN, HME.out, Bool.false_and]; rfl, HB.out⟩
            | true =>
              go_wp2
              go_ret
              exact ⟨by rw [chkN, HME.out, Bool.true_and, HK.out]; rfl, HB.out⟩
          · by_cases k5 : k = 5
            · subst k5
              have HK : Hid (kiB ⟨s, o, 5, f, n, p, d⟩ = wiB p 1 100) := Lib.hid rfl
              clear k1 k2 k3 k4
              cases B with
              | false =>
                go_wp2
                go_ret
                exact ⟨by rw [chkN, HME.out, Bool.false_and]; rfl, HB.out⟩
              | true =>
                go_wp2_with fail
                refine (ewithin_any _ _ _ _).mono ?_
                rintro e w' ⟨rfl, rfl⟩
                obtain ⟨zh1, hzh1⟩ : ∃ z, z = wiB p 1 100 := ⟨_, rfl⟩
                rw [← hzh1]
                have h1 := Lib.hid hzh1.symm
                clear hzh1
                cases zh1 with
                | false =>
                  go_wp2
                  go_ret
                  exact ⟨by rw [chkN, HME.out, Bool.true_and, HK.out, h1.out]; rfl, HB.out⟩
                | true =>
                  go_wp2
                  go_ret
                  exact ⟨by rw [chkN, HME.out, Bool.true_and, HK.out, h1.out]; rfl, HB.out⟩
            · by_cases k6 : k = 6
              · subst k6
                have HK : Hid (kiB ⟨s, o, 6, f, n, p, d⟩ = wiB p 1 100) := Lib.hid rfl
                clear k1 k2 k3 k4 k5
                cases B with
                | false =>
                  go_wp2
                  go_ret
                  exact ⟨by rw [chkN, HME.out, Bool.false_and]; rfl, HB.out⟩
                | true =>
                  go_wp2_with fail
                  refine (ewithin_any _ _ _ _).mono ?_
                  rintro e w' ⟨rfl, rfl⟩
                  obtain ⟨zh1, hzh1⟩ : ∃ z, z = wiB p 1 100 := ⟨_, rfl⟩
                  rw [← hzh1]
                  have h1 := Lib.hid hzh1.symm
                  clear hzh1
                  cases zh1 with
                  | false =>
                    go_wp2
                    go_ret
                    exact ⟨by rw [chkN, HME.out, Bool.true_and, HK.out, h1.out]; rfl, HB.out⟩
                  | true =>
                    go_wp2
                    go_ret
                    exact ⟨by rw [chkN, HME.out, Bool.true_and, HK.out, h1.out]; rfl, HB.out⟩
              · have HK : Hid (kiB ⟨s, o, k, f, n, p, d⟩ = false) := Lib.hid (by simp [kiB, k1, k2, k3, k4, k5, k6])
                have q1 : (k == 1) = false := by simp [k1]
                have q2 : (k == 2) = false := by simp [k2]
                have q3 : (k == 3) = false := by simp [k3]
                have q4 : (k == 4) = false := by simp [k4]
                have q5 : (k == 5) = false := by simp [k5]
                have q6 : (k == 6) = false := by simp [k6]
                clear k1 k2 k3 k4 k5 k6
                cases B with
                | false =>
                  go_wp2
                  go_ret
                  exact ⟨by rw [chkN, HME.out, Bool.false_and]; rfl, HB.out⟩
                | true =>
                  go_wp2
                  go_ret
                  exact ⟨by rw [chkN, HME.out, HK.out, Bool.and_false]; rfl, HB.out⟩
end Go.Proofs.YtfeonfihlleoeaaDoor
