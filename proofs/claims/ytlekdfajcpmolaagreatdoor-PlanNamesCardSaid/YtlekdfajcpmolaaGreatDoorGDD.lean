/- Entries: the walks of entry.within, Check, named, and of the reference's May. Entries: the walks of entry.named and entry.Clean. -/
import Derived.Test.YtlekdfajcpmolaaGreatDoorGCC
import Derived.Test.YtlekdfajcpmolaaGreatDoorGCX
namespace Go.Proofs.YtlekdfajcpmolaaGreatDoor
open Go.RowKit Go.WideShapes

/-- an entry as a value -/
abbrev enV (e : EnD) (dv : Value) : Value := .agg #[.int .i64 e.seq, .int .i64 e.owner, .int .i64 e.kind, .int .i64 e.off, .int .i64 e.len, .int .i64 e.snap, dv]
def wiB (n lo hi : Int) : Bool := decide (lo ≤ n ∧ n ≤ hi)
set_option maxRecDepth 100000 in
theorem ewithin_any (n lo hi : Int) (w : World) : Calls Tryz.prog 95 #[.int .i64 n, .int .i64 lo, .int .i64 hi] w fun e w' => e = .returned (.bool (wiB n lo hi)) ∧ w = w' := by
  by_cases h1 : lo ≤ n
  · by_cases h2 : n ≤ hi
    · have HE : Hid (wiB n lo hi = true) := Lib.hid (decide_eq_true ⟨h1, h2⟩)
      go_enter Tryz.func95, Tryz.ntmps95
      go_wp2
      go_ret
      rw [HE.out]
      exact ⟨rfl, rfl⟩
    · have HE : Hid (wiB n lo hi = false) := Lib.hid (decide_eq_false fun h => h2 h.2)
      go_enter Tryz.func95, Tryz.ntmps95
      go_wp2
      go_ret
      rw [HE.out]
      exact ⟨rfl, rfl⟩
  · have HE : Hid (wiB n lo hi = false) := Lib.hid (decide_eq_false fun h => h1 h.1)
    have h3 : decide (lo ≤ n) = false := decide_eq_false h1
    go_enter Tryz.func95, Tryz.ntmps95
    go_wp2
    go_ret
    rw [HE.out]
    exact ⟨rfl, rfl⟩
/-- what kinds ask -/
def kiB (e : EnD) : Bool :=
  if e.kind = 1 then wiB e.data.length 1 128 && wiB e.off 0 512 else if e.kind = 2 then wiB e.len 1 512 && wiB e.off 0 512 else if e.kind = 3 then wiB e.len 0 512 else if e.kind = 4 then true
  else if e.kind = 5 ∨ e.kind = 6 then wiB e.snap 1 100 else false
theorem mayE_wi (e : EnD) : mayE e = ((wiB e.seq 1 1099511627776 && wiB e.owner 0 7) && kiB e) := by
  have h : wiB e.data.length 1 128 = decide (1 ≤ e.data.length ∧ e.data.length ≤ 128) := by
    unfold wiB
    by_cases h : 1 ≤ e.data.length ∧ e.data.length ≤ 128
    · rw [decide_eq_true h, decide_eq_true (by omega)]
    · rw [decide_eq_false h, decide_eq_false (by omega)]
  unfold mayE kiB
  rw [h]
  rfl

/-- what Check answers -/
def chkN (e : EnD) : Int := if mayE e then 0 else 70
set_option maxRecDepth 100000 in
set_option maxHeartbeats 8000000 in
theorem echeck_any (e : EnD) (a : Option Addr) (c : Nat) (w : World) : Calls Tryz.prog 44 #[enV e (.slice a e.data.length c)] w fun x w' => x = .returned (.int .i64 (chkN e)) ∧ Below w.heap.size w w' := by
  obtain ⟨s, o, k, f, n, p, d⟩ := e
  simp only [enV]
  have hme := mayE_wi ⟨s, o, k, f, n, p, d⟩
  simp only at hme
  go_enter Tryz.func44, Tryz.ntmps44
  go_upto_region 1 with fail
  obtain ⟨w0, hw0⟩ : ∃ w0, w0 = w.alloc (.cells #[.int .i64 s, .int .i64 o, .int .i64 k, .int .i64 f, .int .i64 n, .int .i64 p, .slice a d.length c] 30) := ⟨_, rfl⟩
  rw [← hw0]
  have b0 : w0.heap[w.heap.size]? = some (.cells #[.int .i64 s, .int .i64 o, .int .i64 k, .int .i64 f, .int .i64 n, .int .i64 p, .slice a d.length c] 30 (0, 0)) := by rw [hw0]; exact heap_alloc_new _ _
  have hw : Below w.heap.size w w0 := by rw [hw0]; ((repeat' (first | exact Below.refl _ _ | refine below_drewN ?_ _ | refine Below.drew ?_ | refine Below.alloc ?_ ?_ _ | refine Below.trans ?_ (Below.mono (by assumption) ?_))); all_goals (first | exact Nat.le_refl _ | exact Below.size (by assumption) | omega | (simp; done) | (simp; omega)))
  clear hw0
  obtain ⟨y0, e0⟩ := blk_cell (i := 0) (b0)
  obtain ⟨y1, e1⟩ := blk_cell (i := 1) (b0)
  obtain ⟨y2, e2⟩ := blk_cell (i := 2) (b0)
  obtain ⟨y3, e3⟩ := blk_cell (i := 3) (b0)
  obtain ⟨y4, e4⟩ := blk_cell (i := 4) (b0)
  obtain ⟨y5, e5⟩ := blk_cell (i := 5) (b0)
  obtain ⟨y6, e6⟩ := blk_cell (i := 6) (b0)
  simp at y0 y1 y2 y3 y4 y5 y6
  have hbs := (Array.getElem?_eq_some_iff.1 b0).1
  have HB := Lib.hid hw
  have HB0 := Lib.hid b0
  clear hw b0
  obtain ⟨B, hB⟩ : ∃ B, B = (wiB s 1 1099511627776 && wiB o 0 7) := ⟨_, rfl⟩
  rw [← hB] at hme
  have HME := Lib.hid hme
  have HBE := Lib.hid hB
  clear hme hB
  go_cut [3] (fun q wx => q = .bool B ∧ wx = w0)
  case first =>
    go_wp2_with fail
    refine (ewithin_any _ _ _ _).mono ?_
    rintro e w' ⟨rfl, rfl⟩
    cases h1 : wiB s 1 1099511627776 with
    | false =>
      have H1 := Lib.hid h1
      clear h1
      go_wp2
      go_meet
      exact ⟨by rw [HBE.out, H1.out]; rfl, rfl⟩
    | true =>
      have H1 := Lib.hid h1
      clear h1
      go_wp2_with fail
      refine (ewithin_any _ _ _ _).mono ?_
      rintro e w' ⟨rfl, rfl⟩
      cases h2 : wiB o 0 7 with
      | false =>
        have H2 := Lib.hid h2
        clear h2
        go_wp2
        go_meet
        exact ⟨by rw [HBE.out, H1.out, H2.out]; rfl, rfl⟩
      | true =>
        have H2 := Lib.hid h2
        clear h2
        go_wp2
        go_meet
        exact ⟨by rw [HBE.out, H1.out, H2.out]; rfl, rfl⟩
  case rest =>
    obtain ⟨rfl, rfl⟩ := hcut
    have HBB : Hid (B = B) := rfl
    clear HBE
    by_cases k1 : k = 1
    · subst k1
      have HK : Hid (kiB ⟨s, o, 1, f, n, p, d⟩ = (wiB d.length 1 128 && wiB f 0 512)) := Lib.hid rfl
      cases B with
      | false =>
        go_wp2
        go_ret
        exact ⟨by rw [chkN, HME.out, Bool.false_and]; rfl, HB.out⟩
      | true =>
        go_wp2_with fail
        refine (ewithin_any _ _ _ _).mono ?_
        rintro e w' ⟨rfl, rfl⟩
        obtain ⟨zh1, hzh1⟩ : ∃ z, z = wiB d.length 1 128 := ⟨_, rfl⟩
        rw [← hzh1]
        have h1 := Lib.hid hzh1.symm
        clear hzh1
        cases zh1 with
        | false =>
          go_wp2
          go_ret
          exact ⟨by rw [chkN, HME.out, Bool.true_and, HK.out, h1.out]; rfl, HB.out⟩
        | true =>
          go_wp2_with fail
          refine (ewithin_any _ _ _ _).mono ?_
          rintro e w' ⟨rfl, rfl⟩
          obtain ⟨zh2, hzh2⟩ : ∃ z, z = wiB f 0 512 := ⟨_, rfl⟩
          rw [← hzh2]
          have h2 := Lib.hid hzh2.symm
          clear hzh2
          cases zh2 with
          | false =>
            go_wp2
            go_ret
            exact ⟨by rw [chkN, HME.out, Bool.true_and, HK.out, h1.out, h2.out]; rfl, HB.out⟩
          | true =>
            go_wp2
            go_ret
            exact ⟨by rw [chkN, HME.out, Bool.true_and, HK.out, h1.out, h2.out]; rfl, HB.out⟩
    · by_cases k2 : k = 2
      · subst k2
        have HK : Hid (kiB ⟨s, o, 2, f, n, p, d⟩ = (wiB n 1 512 && wiB f 0 512)) := Lib.hid rfl
        clear k1
        cases B with
        | false =>
          go_wp2
          go_ret
          exact ⟨by rw [chkN, HME.out, Bool.false_and]; rfl, HB.out⟩
        | true =>
          go_wp2_with fail
          refine (ewithin_any _ _ _ _).mono ?_
          rintro e w' ⟨rfl, rfl⟩
          obtain ⟨zh1, hzh1⟩ : ∃ z, z = wiB n 1 512 := ⟨_, rfl⟩
          rw [← hzh1]
          have h1 := Lib.hid hzh1.symm
          clear hzh1
          cases zh1 with
          | false =>
            go_wp2
            go_ret
            exact ⟨by rw [chkN, HME.out, Bool.true_and, HK.out, h1.out]; rfl, HB.out⟩
          | true =>
            go_wp2_with fail
            refine (ewithin_any _ _ _ _).mono ?_
            rintro e w' ⟨rfl, rfl⟩
            obtain ⟨zh2, hzh2⟩ : ∃ z, z = wiB f 0 512 := ⟨_, rfl⟩
            rw [← hzh2]
            have h2 := Lib.hid hzh2.symm
            clear hzh2
            cases zh2 with
            | false =>
              go_wp2
              go_ret
              exact ⟨by rw [chkN, HME.out, Bool.true_and, HK.out, h1.out, h2.out]; rfl, HB.out⟩
            | true =>
              go_wp2
              go_ret
              exact ⟨by rw [chkN, HME.out, Bool.true_and, HK.out, h1.out, h2.out]; rfl, HB.out⟩
      · by_cases k3 : k = 3
        · subst k3
          have HK : Hid (kiB ⟨s, o, 3, f, n, p, d⟩ = wiB n 0 512) := Lib.hid rfl
          clear k1 k2
          cases B with
          | false =>
            go_wp2
            go_ret
            exact ⟨by rw [chkN, HME.out, Bool.false_and]; rfl, HB.out⟩
          | true =>
            go_wp2_with fail
            refine (ewithin_any _ _ _ _).mono ?_
            rintro e w' ⟨rfl, rfl⟩
            obtain ⟨zh1, hzh1⟩ : ∃ z, z = wiB n 0 512 := ⟨_, rfl⟩
            rw [← hzh1]
            have h1 := Lib.hid hzh1.symm
            clear hzh1
            cases zh1 with
            | false =>
              go_wp2
              go_ret
              exact ⟨by rw [chkN, HME.out, Bool.true_and, HK.out, h1.out]; rfl, HB.out⟩
            | true =>
              go_wp2
              go_ret
              exact ⟨by rw [chkN, HME.out, Bool.true_and, HK.out, h1.out]; rfl, HB.out⟩
        · by_cases k4 : k = 4
          · subst k4
            have HK : Hid (kiB ⟨s, o, 4, f, n, p, d⟩ = true) := Lib.hid rfl
            clear k1 k2 k3
            cases B with
            | false =>
              go_wp2
              go_ret
              exact ⟨by rw [chkN, HME.out, Bool.false_and]; rfl, HB.out⟩
            | true =>
              go_wp2
              go_ret
              exact ⟨by rw [chkN, HME.out, Bool.true_and, HK.out]; rfl, HB.out⟩
          · by_cases k5 : k = 5
            · subst k5
              have HK : Hid (kiB ⟨s, o, 5, f, n, p, d⟩ = wiB p 1 100) := Lib.hid rfl
              clear k1 k2 k3 k4
              cases B with
              | false =>
                go_wp2
                go_ret
                exact ⟨by rw [chkN, HME.out, Bool.false_and]; rfl, HB.out⟩
              | true =>
                go_wp2_with fail
                refine (ewithin_any _ _ _ _).mono ?_
                rintro e w' ⟨rfl, rfl⟩
                obtain ⟨zh1, hzh1⟩ : ∃ z, z = wiB p 1 100 := ⟨_, rfl⟩
                rw [← hzh1]
                have h1 := Lib.hid hzh1.symm
                clear hzh1
                cases zh1 with
                | false =>
                  go_wp2
                  go_ret
                  exact ⟨by rw [chkN, HME.out, Bool.true_and, HK.out, h1.out]; rfl, HB.out⟩
                | true =>
                  go_wp2
                  go_ret
                  exact ⟨by rw [chkN, HME.out, Bool.true_and, HK.out, h1.out]; rfl, HB.out⟩
            · by_cases k6 : k = 6
              · subst k6
                have HK : Hid (kiB ⟨s, o, 6, f, n, p, d⟩ = wiB p 1 100) := Lib.hid rfl
                clear k1 k2 k3 k4 k5
                cases B with
                | false =>
                  go_wp2
                  go_ret
                  exact ⟨by rw [chkN, HME.out, Bool.false_and]; rfl, HB.out⟩
                | true =>
                  go_wp2_with fail
                  refine (ewithin_any _ _ _ _).mono ?_
                  rintro e w' ⟨rfl, rfl⟩
                  obtain ⟨zh1, hzh1⟩ : ∃ z, z = wiB p 1 100 := ⟨_, rfl⟩
                  rw [← hzh1]
                  have h1 := Lib.hid hzh1.symm
                  clear hzh1
                  cases zh1 with
                  | false =>
                    go_wp2
                    go_ret
                    exact ⟨by rw [chkN, HME.out, Bool.true_and, HK.out, h1.out]; rfl, HB.out⟩
                  | true =>
                    go_wp2
                    go_ret
                    exact ⟨by rw [chkN, HME.out, Bool.true_and, HK.out, h1.out]; rfl, HB.out⟩
              · have HK : Hid (kiB ⟨s, o, k, f, n, p, d⟩ = false) := Lib.hid (by simp [kiB, k1, k2, k3, k4, k5, k6])
                have q1 : (k == 1) = false := by simp [k1]
                have q2 : (k == 2) = false := by simp [k2]
                have q3 : (k == 3) = false := by simp [k3]
                have q4 : (k == 4) = false := by simp [k4]
                have q5 : (k == 5) = false := by simp [k5]
                have q6 : (k == 6) = false := by simp [k6]
                clear k1 k2 k3 k4 k5 k6
                cases B with
                | false =>
                  go_wp2
                  go_ret
                  exact ⟨by rw [chkN, HME.out, Bool.false_and]; rfl, HB.out⟩
                | true =>
                  go_wp2
                  go_ret
                  exact ⟨by rw [chkN, HME.out, HK.out, Bool.and_false]; rfl, HB.out⟩
end Go.Proofs.YtlekdfajcpmolaaGreatDoor
namespace Go.Proofs.YtlekdfajcpmolaaGreatDoor
open Go.RowKit Go.WideShapes

/-- does a kind name something? -/
def nmB (k x : Int) : Bool := if x = 1 then decide (k = 1 ∨ k = 2) else if x = 2 then decide (k = 2 ∨ k = 3) else if x = 4 then decide (k = 5 ∨ k = 6) else decide (k = 1)
set_option maxRecDepth 100000 in
set_option maxHeartbeats 4000000 in
theorem named1_any (e : EnD) (a : Option Addr) (c : Nat) (w : World) (hL : LayW w) : Calls Tryz.prog 100 #[enV e (.slice a e.data.length c), .int .i64 1] w fun x w' => x = .returned (.bool (nmB e.kind 1)) ∧ Below w.heap.size w w' := by
  obtain ⟨s, o, k, f, n, p, d⟩ := e
  simp only [enV]
  have g0 := hL.nam 0 (by decide)
  have g1 := hL.nam 1 (by decide)
  have g2 := hL.nam 2 (by decide)
  have g3 := hL.nam 3 (by decide)
  have g4 := hL.nam 4 (by decide)
  have g5 := hL.nam 5 (by decide)
  have g6 := hL.nam 6 (by decide)
  simp only [namT, List.getD_cons_zero, List.getD_cons_succ] at g0 g1 g2 g3 g4 g5 g6
  clear hL
  go_enter Tryz.func100, Tryz.ntmps100
  go_upto_region 1 with fail
  obtain ⟨w0, hw0⟩ : ∃ w0, w0 = w.alloc (.cells #[.int .i64 s, .int .i64 o, .int .i64 k, .int .i64 f, .int .i64 n, .int .i64 p, .slice a d.length c] 30) := ⟨_, rfl⟩
  rw [← hw0]
  have b0 : w0.heap[w.heap.size]? = some (.cells #[.int .i64 s, .int .i64 o, .int .i64 k, .int .i64 f, .int .i64 n, .int .i64 p, .slice a d.length c] 30 (0, 0)) := by rw [hw0]; exact heap_alloc_new _ _
  have hw : Below w.heap.size w w0 := by rw [hw0]; ((repeat' (first | exact Below.refl _ _ | refine below_drewN ?_ _ | refine Below.drew ?_ | refine Below.alloc ?_ ?_ _ | refine Below.trans ?_ (Below.mono (by assumption) ?_))); all_goals (first | exact Nat.le_refl _ | exact Below.size (by assumption) | omega | (simp; done) | (simp; omega)))
  clear hw0
  obtain ⟨y0, e0⟩ := blk_cell (i := 0) (b0)
  obtain ⟨y1, e1⟩ := blk_cell (i := 1) (b0)
  obtain ⟨y2, e2⟩ := blk_cell (i := 2) (b0)
  obtain ⟨y3, e3⟩ := blk_cell (i := 3) (b0)
  obtain ⟨y4, e4⟩ := blk_cell (i := 4) (b0)
  obtain ⟨y5, e5⟩ := blk_cell (i := 5) (b0)
  obtain ⟨y6, e6⟩ := blk_cell (i := 6) (b0)
  simp at y0 y1 y2 y3 y4 y5 y6
  have hbs := (Array.getElem?_eq_some_iff.1 b0).1
  have HB := Lib.hid hw
  have HB0 := Lib.hid b0
  clear hw b0
  replace g0 := cellExt HB.out g0
  replace g1 := cellExt HB.out g1
  replace g2 := cellExt HB.out g2
  replace g3 := cellExt HB.out g3
  replace g4 := cellExt HB.out g4
  replace g5 := cellExt HB.out g5
  replace g6 := cellExt HB.out g6
  by_cases h0 : 0 ≤ k
  · by_cases h7 : k < 7
    · rcases (by omega : k = 0 ∨ k = 1 ∨ k = 2 ∨ k = 3 ∨ k = 4 ∨ k = 5 ∨ k = 6) with rfl | rfl | rfl | rfl | rfl | rfl | rfl
      all_goals
        clear h0 h7
        go_wp2
        go_ret
        exact ⟨rfl, HB.out⟩
    · have HN : Hid (nmB k 1 = false) := Lib.hid (by simp [nmB]; omega)
      have q0 : decide (0 ≤ k) = true := by simp; omega
      have q7 : decide (k < 7) = false := by simp; omega
      go_wp2
      go_ret
      rw [HN.out]
      exact ⟨rfl, HB.out⟩
  · have HN : Hid (nmB k 1 = false) := Lib.hid (by simp [nmB]; omega)
    have q0 : decide (0 ≤ k) = false := by simp; omega
    go_wp2
    go_ret
    rw [HN.out]
    exact ⟨rfl, HB.out⟩
set_option maxRecDepth 100000 in
set_option maxHeartbeats 4000000 in
theorem named2_any (e : EnD) (a : Option Addr) (c : Nat) (w : World) (hL : LayW w) : Calls Tryz.prog 100 #[enV e (.slice a e.data.length c), .int .i64 2] w fun x w' => x = .returned (.bool (nmB e.kind 2)) ∧ Below w.heap.size w w' := by
  obtain ⟨s, o, k, f, n, p, d⟩ := e
  simp only [enV]
  have g0 := hL.nam 0 (by decide)
  have g1 := hL.nam 1 (by decide)
  have g2 := hL.nam 2 (by decide)
  have g3 := hL.nam 3 (by decide)
  have g4 := hL.nam 4 (by decide)
  have g5 := hL.nam 5 (by decide)
  have g6 := hL.nam 6 (by decide)
  simp only [namT, List.getD_cons_zero, List.getD_cons_succ] at g0 g1 g2 g3 g4 g5 g6
  clear hL
  go_enter Tryz.func100, Tryz.ntmps100
  go_upto_region 1 with fail
  obtain ⟨w0, hw0⟩ : ∃ w0, w0 = w.alloc (.cells #[.int .i64 s, .int .i64 o, .int .i64 k, .int .i64 f, .int .i64 n, .int .i64 p, .slice a d.length c] 30) := ⟨_, rfl⟩
  rw [← hw0]
  have b0 : w0.heap[w.heap.size]? = some (.cells #[.int .i64 s, .int .i64 o, .int .i64 k, .int .i64 f, .int .i64 n, .int .i64 p, .slice a d.length c] 30 (0, 0)) := by rw [hw0]; exact heap_alloc_new _ _
  have hw : Below w.heap.size w w0 := by rw [hw0]; ((repeat' (first | exact Below.refl _ _ | refine below_drewN ?_ _ | refine Below.drew ?_ | refine Below.alloc ?_ ?_ _ | refine Below.trans ?_ (Below.mono (by assumption) ?_))); all_goals (first | exact Nat.le_refl _ | exact Below.size (by assumption) | omega | (simp; done) | (simp; omega)))
  clear hw0
  obtain ⟨y0, e0⟩ := blk_cell (i := 0) (b0)
  obtain ⟨y1, e1⟩ := blk_cell (i := 1) (b0)
  obtain ⟨y2, e2⟩ := blk_cell (i := 2) (b0)
  obtain ⟨y3, e3⟩ := blk_cell (i := 3) (b0)
  obtain ⟨y4, e4⟩ := blk_cell (i := 4) (b0)
  obtain ⟨y5, e5⟩ := blk_cell (i := 5) (b0)
  obtain ⟨y6, e6⟩ := blk_cell (i := 6) (b0)
  simp at y0 y1 y2 y3 y4 y5 y6
  have hbs := (Array.getElem?_eq_some_iff.1 b0).1
  have HB := Lib.hid hw
  have HB0 := Lib.hid b0
  clear hw b0
  replace g0 := cellExt HB.out g0
  replace g1 := cellExt HB.out g1
  replace g2 := cellExt HB.out g2
  replace g3 := cellExt HB.out g3
  replace g4 := cellExt HB.out g4
  replace g5 := cellExt HB.out g5
  replace g6 := cellExt HB.out g6
  by_cases h0 : 0 ≤ k
  · by_cases h7 : k < 7
    · rcases (by omega : k = 0 ∨ k = 1 ∨ k = 2 ∨ k = 3 ∨ k = 4 ∨ k = 5 ∨ k = 6) with rfl | rfl | rfl | rfl | rfl | rfl | rfl
      all_goals
        clear h0 h7
        go_wp2
        go_ret
        exact ⟨rfl, HB.out⟩
    · have HN : Hid (nmB k 2 = false) := Lib.hid (by simp [nmB]; omega)
      have q0 : decide (0 ≤ k) = true := by simp; omega
      have q7 : decide (k < 7) = false := by simp; omega
      go_wp2
      go_ret
      rw [HN.out]
      exact ⟨rfl, HB.out⟩
  · have HN : Hid (nmB k 2 = false) := Lib.hid (by simp [nmB]; omega)
    have q0 : decide (0 ≤ k) = false := by simp; omega
    go_wp2
    go_ret
    rw [HN.out]
    exact ⟨rfl, HB.out⟩
set_option maxRecDepth 100000 in
set_option maxHeartbeats 4000000 in
theorem named4_any (e : EnD) (a : Option Addr) (c : Nat) (w : World) (hL : LayW w) : Calls Tryz.prog 100 #[enV e (.slice a e.data.length c), .int .i64 4] w fun x w' => x = .returned (.bool (nmB e.kind 4)) ∧ Below w.heap.size w w' := by
  obtain ⟨s, o, k, f, n, p, d⟩ := e
  simp only [enV]
  have g0 := hL.nam 0 (by decide)
  have g1 := hL.nam 1 (by decide)
  have g2 := hL.nam 2 (by decide)
  have g3 := hL.nam 3 (by decide)
  have g4 := hL.nam 4 (by decide)
  have g5 := hL.nam 5 (by decide)
  have g6 := hL.nam 6 (by decide)
  simp only [namT, List.getD_cons_zero, List.getD_cons_succ] at g0 g1 g2 g3 g4 g5 g6
  clear hL
  go_enter Tryz.func100, Tryz.ntmps100
  go_upto_region 1 with fail
  obtain ⟨w0, hw0⟩ : ∃ w0, w0 = w.alloc (.cells #[.int .i64 s, .int .i64 o, .int .i64 k, .int .i64 f, .int .i64 n, .int .i64 p, .slice a d.length c] 30) := ⟨_, rfl⟩
  rw [← hw0]
  have b0 : w0.heap[w.heap.size]? = some (.cells #[.int .i64 s, .int .i64 o, .int .i64 k, .int .i64 f, .int .i64 n, .int .i64 p, .slice a d.length c] 30 (0, 0)) := by rw [hw0]; exact heap_alloc_new _ _
  have hw : Below w.heap.size w w0 := by rw [hw0]; ((repeat' (first | exact Below.refl _ _ | refine below_drewN ?_ _ | refine Below.drew ?_ | refine Below.alloc ?_ ?_ _ | refine Below.trans ?_ (Below.mono (by assumption) ?_))); all_goals (first | exact Nat.le_refl _ | exact Below.size (by assumption) | omega | (simp; done) | (simp; omega)))
  clear hw0
  obtain ⟨y0, e0⟩ := blk_cell (i := 0) (b0)
  obtain ⟨y1, e1⟩ := blk_cell (i := 1) (b0)
  obtain ⟨y2, e2⟩ := blk_cell (i := 2) (b0)
  obtain ⟨y3, e3⟩ := blk_cell (i := 3) (b0)
  obtain ⟨y4, e4⟩ := blk_cell (i := 4) (b0)
  obtain ⟨y5, e5⟩ := blk_cell (i := 5) (b0)
  obtain ⟨y6, e6⟩ := blk_cell (i := 6) (b0)
  simp at y0 y1 y2 y3 y4 y5 y6
  have hbs := (Array.getElem?_eq_some_iff.1 b0).1
  have HB := Lib.hid hw
  have HB0 := Lib.hid b0
  clear hw b0
  replace g0 := cellExt HB.out g0
  replace g1 := cellExt HB.out g1
  replace g2 := cellExt HB.out g2
  replace g3 := cellExt HB.out g3
  replace g4 := cellExt HB.out g4
  replace g5 := cellExt HB.out g5
  replace g6 := cellExt HB.out g6
  by_cases h0 : 0 ≤ k
  · by_cases h7 : k < 7
    · rcases (by omega : k = 0 ∨ k = 1 ∨ k = 2 ∨ k = 3 ∨ k = 4 ∨ k = 5 ∨ k = 6) with rfl | rfl | rfl | rfl | rfl | rfl | rfl
      all_goals
        clear h0 h7
        go_wp2
        go_ret
        exact ⟨rfl, HB.out⟩
    · have HN : Hid (nmB k 4 = false) := Lib.hid (by simp [nmB]; omega)
      have q0 : decide (0 ≤ k) = true := by simp; omega
      have q7 : decide (k < 7) = false := by simp; omega
      go_wp2
      go_ret
      rw [HN.out]
      exact ⟨rfl, HB.out⟩
  · have HN : Hid (nmB k 4 = false) := Lib.hid (by simp [nmB]; omega)
    have q0 : decide (0 ≤ k) = false := by simp; omega
    go_wp2
    go_ret
    rw [HN.out]
    exact ⟨rfl, HB.out⟩
set_option maxRecDepth 100000 in
set_option maxHeartbeats 4000000 in
theorem named8_any (e : EnD) (a : Option Addr) (c : Nat) (w : World) (hL : LayW w) : Calls Tryz.prog 100 #[enV e (.slice a e.data.length c), .int .i64 8] w fun x w' => x = .returned (.bool (nmB e.kind 8)) ∧ Below w.heap.size w w' := by
  obtain ⟨s, o, k, f, n, p, d⟩ := e
  simp only [enV]
  have g0 := hL.nam 0 (by decide)
  have g1 := hL.nam 1 (by decide)
  have g2 := hL.nam 2 (by decide)
  have g3 := hL.nam 3 (by decide)
  have g4 := hL.nam 4 (by decide)
  have g5 := hL.nam 5 (by decide)
  have g6 := hL.nam 6 (by decide)
  simp only [namT, List.getD_cons_zero, List.getD_cons_succ] at g0 g1 g2 g3 g4 g5 g6
  clear hL
  go_enter Tryz.func100, Tryz.ntmps100
  go_upto_region 1 with fail
  obtain ⟨w0, hw0⟩ : ∃ w0, w0 = w.alloc (.cells #[.int .i64 s, .int .i64 o, .int .i64 k, .int .i64 f, .int .i64 n, .int .i64 p, .slice a d.length c] 30) := ⟨_, rfl⟩
  rw [← hw0]
  have b0 : w0.heap[w.heap.size]? = some (.cells #[.int .i64 s, .int .i64 o, .int .i64 k, .int .i64 f, .int .i64 n, .int .i64 p, .slice a d.length c] 30 (0, 0)) := by rw [hw0]; exact heap_alloc_new _ _
  have hw : Below w.heap.size w w0 := by rw [hw0]; ((repeat' (first | exact Below.refl _ _ | refine below_drewN ?_ _ | refine Below.drew ?_ | refine Below.alloc ?_ ?_ _ | refine Below.trans ?_ (Below.mono (by assumption) ?_))); all_goals (first | exact Nat.le_refl _ | exact Below.size (by assumption) | omega | (simp; done) | (simp; omega)))
  clear hw0
  obtain ⟨y0, e0⟩ := blk_cell (i := 0) (b0)
  obtain ⟨y1, e1⟩ := blk_cell (i := 1) (b0)
  obtain ⟨y2, e2⟩ := blk_cell (i := 2) (b0)
  obtain ⟨y3, e3⟩ := blk_cell (i := 3) (b0)
  obtain ⟨y4, e4⟩ := blk_cell (i := 4) (b0)
  obtain ⟨y5, e5⟩ := blk_cell (i := 5) (b0)
  obtain ⟨y6, e6⟩ := blk_cell (i := 6) (b0)
  simp at y0 y1 y2 y3 y4 y5 y6
  have hbs := (Array.getElem?_eq_some_iff.1 b0).1
  have HB := Lib.hid hw
  have HB0 := Lib.hid b0
  clear hw b0
  replace g0 := cellExt HB.out g0
  replace g1 := cellExt HB.out g1
  replace g2 := cellExt HB.out g2
  replace g3 := cellExt HB.out g3
  replace g4 := cellExt HB.out g4
  replace g5 := cellExt HB.out g5
  replace g6 := cellExt HB.out g6
  by_cases h0 : 0 ≤ k
  · by_cases h7 : k < 7
    · rcases (by omega : k = 0 ∨ k = 1 ∨ k = 2 ∨ k = 3 ∨ k = 4 ∨ k = 5 ∨ k = 6) with rfl | rfl | rfl | rfl | rfl | rfl | rfl
      all_goals
        clear h0 h7
        go_wp2
        go_ret
        exact ⟨rfl, HB.out⟩
    · have HN : Hid (nmB k 8 = false) := Lib.hid (by simp [nmB]; omega)
      have q0 : decide (0 ≤ k) = true := by simp; omega
      have q7 : decide (k < 7) = false := by simp; omega
      go_wp2
      go_ret
      rw [HN.out]
      exact ⟨rfl, HB.out⟩
  · have HN : Hid (nmB k 8 = false) := Lib.hid (by simp [nmB]; omega)
    have q0 : decide (0 ≤ k) = false := by simp; omega
    go_wp2
    go_ret
    rw [HN.out]
    exact ⟨rfl, HB.out⟩
section
variable {w : World} {p : Nat} {t : TypeId} {a b c d e f g a' b' c' d' e' f' g' : Value}
theorem set7_blk (h : w.heap[p]? = some (.cells #[a', b', c', d', e', f', g'] t (0, 0))) :
    (((((((w.setCell ⟨p, 0, none⟩ a).setCell ⟨p, 1, none⟩ b).setCell ⟨p, 2, none⟩ c).setCell ⟨p, 3, none⟩ d).setCell ⟨p, 4, none⟩ e).setCell ⟨p, 5, none⟩ f).setCell ⟨p, 6, none⟩ g).heap[p]? = some (.cells #[a, b, c, d, e, f, g] t (0, 0)) := by
  simp [World.setCell, Array.getElem?_modify, h]
theorem set7_ne {k : Nat} (h : k ≠ p) :
    (((((((w.setCell ⟨p, 0, none⟩ a).setCell ⟨p, 1, none⟩ b).setCell ⟨p, 2, none⟩ c).setCell ⟨p, 3, none⟩ d).setCell ⟨p, 4, none⟩ e).setCell ⟨p, 5, none⟩ f).setCell ⟨p, 6, none⟩ g).heap[k]? = w.heap[k]? := by
  rw [Below.heap_setCell _ _ _ _ h, Below.heap_setCell _ _ _ _ h, Below.heap_setCell _ _ _ _ h, Below.heap_setCell _ _ _ _ h, Below.heap_setCell _ _ _ _ h, Below.heap_setCell _ _ _ _ h, Below.heap_setCell _ _ _ _ h]
theorem below7 {B : Nat} {w0 : World} (h : Below B w0 w) (hp : B ≤ p) :
    Below B w0 (((((((w.setCell ⟨p, 0, none⟩ a).setCell ⟨p, 1, none⟩ b).setCell ⟨p, 2, none⟩ c).setCell ⟨p, 3, none⟩ d).setCell ⟨p, 4, none⟩ e).setCell ⟨p, 5, none⟩ f).setCell ⟨p, 6, none⟩ g) :=
  ((((((h.setCell (show B ≤ (⟨p, 0, none⟩ : Addr).block from hp) a).setCell (show B ≤ (⟨p, 1, none⟩ : Addr).block from hp) b).setCell (show B ≤ (⟨p, 2, none⟩ : Addr).block from hp) c).setCell (show B ≤ (⟨p, 3, none⟩ : Addr).block from hp) d).setCell
    (show B ≤ (⟨p, 4, none⟩ : Addr).block from hp) e).setCell (show B ≤ (⟨p, 5, none⟩ : Addr).block from hp) f).setCell (show B ≤ (⟨p, 6, none⟩ : Addr).block from hp) g
end
/-- what Clean leaves -/
def ClnO (e : EnD) (w : World) (x : Ending) (w' : World) : Prop := ∃ a' c', x = .returned (enV (clE e) (.slice a' (clE e).data.length c')) ∧ RB (fun b => w.heap.size ≤ b) w' (.slice a' (clE e).data.length c') (clE e).data ∧ Below w.heap.size w w'
set_option maxRecDepth 100000 in
set_option maxHeartbeats 16000000 in
theorem eclean_any (A : Nat → Prop) (e : EnD) (a : Option Addr) (c : Nat) (w : World) (hv : RB A w (.slice a e.data.length c) e.data) (hdl : e.data.length ≤ 1000000) (hL : LayW w) : Calls Tryz.prog 46 #[enV e (.slice a e.data.length c)] w (ClnO e w) := by
  obtain ⟨s, o, k, f, n, p, d⟩ := e
  simp only [enV] at *
  have HLW := Lib.hid hL
  have HVD := Lib.hid hv
  clear hL hv
  go_enter Tryz.func46, Tryz.ntmps46
  go_upto_region 1 with fail
  obtain ⟨wq, hwq⟩ : ∃ wq, wq = (w.alloc (.cells #[.int .i64 s, .int .i64 o, .int .i64 k, .int .i64 f, .int .i64 n, .int .i64 p, .slice a d.length c] 30)).alloc (.cells #[.int .i64 0, .int .i64 0, .int .i64 0, .int .i64 0, .int .i64 0, .int .i64 0, .slice none 0 0] 30) := ⟨_, rfl⟩
  rw [← hwq]
  have BX : Hid (wq.heap[w.heap.size]? = some (.cells #[.int .i64 s, .int .i64 o, .int .i64 k, .int .i64 f, .int .i64 n, .int .i64 p, .slice a d.length c] 30 (0, 0))) := Lib.hid (by rw [hwq]; exact dnew (heap_alloc_new _ _) _)
  have RX : Hid (wq.heap[w.heap.size + 1]? = some (.cells #[.int .i64 0, .int .i64 0, .int .i64 0, .int .i64 0, .int .i64 0, .int .i64 0, .slice none 0 0] 30 (0, 0))) := Lib.hid (by rw [hwq]; exact heap_alloc2_new _ _ _)
  have HB : Hid (Below w.heap.size w wq) := Lib.hid (by rw [hwq]; ((repeat' (first | exact Below.refl _ _ | refine below_drewN ?_ _ | refine Below.drew ?_ | refine Below.alloc ?_ ?_ _ | refine Below.trans ?_ (Below.mono (by assumption) ?_))); all_goals (first | exact Nat.le_refl _ | exact Below.size (by assumption) | omega | (simp; done) | (simp; omega))))
  clear hwq
  have hbs : w.heap.size < wq.heap.size := (Array.getElem?_eq_some_iff.1 BX.out).1
  obtain ⟨y0, e0⟩ := blk_cell (i := 0) (BX.out)
  obtain ⟨y1, e1⟩ := blk_cell (i := 1) (BX.out)
  obtain ⟨y2, e2⟩ := blk_cell (i := 2) (BX.out)
  obtain ⟨y3, e3⟩ := blk_cell (i := 3) (BX.out)
  obtain ⟨y4, e4⟩ := blk_cell (i := 4) (BX.out)
  obtain ⟨y5, e5⟩ := blk_cell (i := 5) (BX.out)
  obtain ⟨y6, e6⟩ := blk_cell (i := 6) (BX.out)
  simp at y0 y1 y2 y3 y4 y5 y6
  by_cases k1 : k = 1
  · have N1 : Hid (nmB k 1 = true) := Lib.hid (by simp [nmB, k1])
    have N2 : Hid (nmB k 2 = false) := Lib.hid (by simp [nmB, k1])
    have N4 : Hid (nmB k 4 = false) := Lib.hid (by simp [nmB, k1])
    have N8 : Hid (nmB k 8 = true) := Lib.hid (by simp [nmB, k1])
    have HCL : Hid (clE ⟨s, o, k, f, n, p, d⟩ = ⟨s, o, k, f, 0, 0, d⟩) := Lib.hid (by simp [clE, k1])
    clear k1
    go_wp2_with fail
    refine (named1_any ⟨_, _, k, _, _, _, d⟩ _ _ _ (HLW.out.ext HB.out)).mono ?_
    rw [N1.out]
    rintro e wz ⟨rfl, hb⟩
    replace BX := Lib.hid (dblk hb BX.out)
    replace RX := Lib.hid (dblk hb RX.out)
    replace HB := Lib.hid (dcall HB.out hb)
    have hbs : w.heap.size < wz.heap.size := (Array.getElem?_eq_some_iff.1 BX.out).1
    clear hb y0 y1 y2 y3 y4 y5 y6 e0 e1 e2 e3 e4 e5 e6
    obtain ⟨wq, hwq⟩ : ∃ wq, wq = wz := ⟨_, rfl⟩
    subst hwq
    obtain ⟨y0, e0⟩ := blk_cell (i := 0) (BX.out)
    obtain ⟨y1, e1⟩ := blk_cell (i := 1) (BX.out)
    obtain ⟨y2, e2⟩ := blk_cell (i := 2) (BX.out)
    obtain ⟨y3, e3⟩ := blk_cell (i := 3) (BX.out)
    obtain ⟨y4, e4⟩ := blk_cell (i := 4) (BX.out)
    obtain ⟨y5, e5⟩ := blk_cell (i := 5) (BX.out)
    obtain ⟨y6, e6⟩ := blk_cell (i := 6) (BX.out)
    simp at y0 y1 y2 y3 y4 y5 y6
    go_wp2_with fail
    refine (named2_any ⟨_, _, k, _, _, _, d⟩ _ _ _ (HLW.out.ext HB.out)).mono ?_
    rw [N2.out]
    rintro e wz ⟨rfl, hb⟩
    replace BX := Lib.hid (dblk hb BX.out)
    replace RX := Lib.hid (dblk hb RX.out)
    replace HB := Lib.hid (dcall HB.out hb)
    have hbs : w.heap.size < wz.heap.size := (Array.getElem?_eq_some_iff.1 BX.out).1
    clear hb y0 y1 y2 y3 y4 y5 y6 e0 e1 e2 e3 e4 e5 e6
    obtain ⟨wq, hwq⟩ : ∃ wq, wq = wz := ⟨_, rfl⟩
    subst hwq
    obtain ⟨y0, e0⟩ := blk_cell (i := 0) (BX.out)
    obtain ⟨y1, e1⟩ := blk_cell (i := 1) (BX.out)
    obtain ⟨y2, e2⟩ := blk_cell (i := 2) (BX.out)
    obtain ⟨y3, e3⟩ := blk_cell (i := 3) (BX.out)
    obtain ⟨y4, e4⟩ := blk_cell (i := 4) (BX.out)
    obtain ⟨y5, e5⟩ := blk_cell (i := 5) (BX.out)
    obtain ⟨y6, e6⟩ := blk_cell (i := 6) (BX.out)
    simp at y0 y1 y2 y3 y4 y5 y6
    go_upto_region 5 with fail
    obtain ⟨wz, hwz⟩ : ∃ wz, wz = wq.setCell ⟨w.heap.size, 4, none⟩ (.int .i64 0) := ⟨_, rfl⟩
    rw [← hwz]
    replace RX : Hid (wz.heap[w.heap.size + 1]? = some (.cells #[.int .i64 0, .int .i64 0, .int .i64 0, .int .i64 0, .int .i64 0, .int .i64 0, .slice none 0 0] 30 (0, 0))) := Lib.hid (by rw [hwz]; exact (Below.heap_setCell _ _ _ _ (show w.heap.size + 1 ≠ w.heap.size by omega)).trans RX.out)
    replace HB : Hid (Below w.heap.size w wz) := Lib.hid (by rw [hwz]; exact HB.out.setCell (Nat.le_refl _) _)
    replace BX : Hid (wz.heap[w.heap.size]? = some (.cells #[.int .i64 s, .int .i64 o, .int .i64 k, .int .i64 (f), .int .i64 (0), .int .i64 (p), .slice a d.length c] 30 (0, 0))) := Lib.hid (by rw [hwz]; simp [World.setCell, Array.getElem?_modify, BX.out])
    have hbs : w.heap.size < wz.heap.size := (Array.getElem?_eq_some_iff.1 BX.out).1
    clear hwz y0 y1 y2 y3 y4 y5 y6 e0 e1 e2 e3 e4 e5 e6
    obtain ⟨wq, hwq⟩ : ∃ wq, wq = wz := ⟨_, rfl⟩
    subst hwq
    obtain ⟨y0, e0⟩ := blk_cell (i := 0) (BX.out)
    obtain ⟨y1, e1⟩ := blk_cell (i := 1) (BX.out)
    obtain ⟨y2, e2⟩ := blk_cell (i := 2) (BX.out)
    obtain ⟨y3, e3⟩ := blk_cell (i := 3) (BX.out)
    obtain ⟨y4, e4⟩ := blk_cell (i := 4) (BX.out)
    obtain ⟨y5, e5⟩ := blk_cell (i := 5) (BX.out)
    obtain ⟨y6, e6⟩ := blk_cell (i := 6) (BX.out)
    simp at y0 y1 y2 y3 y4 y5 y6
    go_wp2_with fail
    refine (named4_any ⟨_, _, k, _, _, _, d⟩ _ _ _ (HLW.out.ext HB.out)).mono ?_
    rw [N4.out]
    rintro e wz ⟨rfl, hb⟩
    replace BX := Lib.hid (dblk hb BX.out)
    replace RX := Lib.hid (dblk hb RX.out)
    replace HB := Lib.hid (dcall HB.out hb)
    have hbs : w.heap.size < wz.heap.size := (Array.getElem?_eq_some_iff.1 BX.out).1
    clear hb y0 y1 y2 y3 y4 y5 y6 e0 e1 e2 e3 e4 e5 e6
    obtain ⟨wq, hwq⟩ : ∃ wq, wq = wz := ⟨_, rfl⟩
    subst hwq
    obtain ⟨y0, e0⟩ := blk_cell (i := 0) (BX.out)
    obtain ⟨y1, e1⟩ := blk_cell (i := 1) (BX.out)
    obtain ⟨y2, e2⟩ := blk_cell (i := 2) (BX.out)
    obtain ⟨y3, e3⟩ := blk_cell (i := 3) (BX.out)
    obtain ⟨y4, e4⟩ := blk_cell (i := 4) (BX.out)
    obtain ⟨y5, e5⟩ := blk_cell (i := 5) (BX.out)
    obtain ⟨y6, e6⟩ := blk_cell (i := 6) (BX.out)
    simp at y0 y1 y2 y3 y4 y5 y6
    go_upto_region 7 with fail
    obtain ⟨wz, hwz⟩ : ∃ wz, wz = wq.setCell ⟨w.heap.size, 5, none⟩ (.int .i64 0) := ⟨_, rfl⟩
    rw [← hwz]
    replace RX : Hid (wz.heap[w.heap.size + 1]? = some (.cells #[.int .i64 0, .int .i64 0, .int .i64 0, .int .i64 0, .int .i64 0, .int .i64 0, .slice none 0 0] 30 (0, 0))) := Lib.hid (by rw [hwz]; exact (Below.heap_setCell _ _ _ _ (show w.heap.size + 1 ≠ w.heap.size by omega)).trans RX.out)
    replace HB : Hid (Below w.heap.size w wz) := Lib.hid (by rw [hwz]; exact HB.out.setCell (Nat.le_refl _) _)
    replace BX : Hid (wz.heap[w.heap.size]? = some (.cells #[.int .i64 s, .int .i64 o, .int .i64 k, .int .i64 (f), .int .i64 (0), .int .i64 (0), .slice a d.length c] 30 (0, 0))) := Lib.hid (by rw [hwz]; simp [World.setCell, Array.getElem?_modify, BX.out])
    have hbs : w.heap.size < wz.heap.size := (Array.getElem?_eq_some_iff.1 BX.out).1
    clear hwz y0 y1 y2 y3 y4 y5 y6 e0 e1 e2 e3 e4 e5 e6
    obtain ⟨wq, hwq⟩ : ∃ wq, wq = wz := ⟨_, rfl⟩
    subst hwq
    obtain ⟨y0, e0⟩ := blk_cell (i := 0) (BX.out)
    obtain ⟨y1, e1⟩ := blk_cell (i := 1) (BX.out)
    obtain ⟨y2, e2⟩ := blk_cell (i := 2) (BX.out)
    obtain ⟨y3, e3⟩ := blk_cell (i := 3) (BX.out)
    obtain ⟨y4, e4⟩ := blk_cell (i := 4) (BX.out)
    obtain ⟨y5, e5⟩ := blk_cell (i := 5) (BX.out)
    obtain ⟨y6, e6⟩ := blk_cell (i := 6) (BX.out)
    simp at y0 y1 y2 y3 y4 y5 y6
    go_wp2_with fail
    refine (named8_any ⟨_, _, k, _, _, _, d⟩ _ _ _ (HLW.out.ext HB.out)).mono ?_
    rw [N8.out]
    rintro e wz ⟨rfl, hb⟩
    replace BX := Lib.hid (dblk hb BX.out)
    replace RX := Lib.hid (dblk hb RX.out)
    replace HB := Lib.hid (dcall HB.out hb)
    have hbs : w.heap.size < wz.heap.size := (Array.getElem?_eq_some_iff.1 BX.out).1
    clear hb y0 y1 y2 y3 y4 y5 y6 e0 e1 e2 e3 e4 e5 e6
    obtain ⟨wq, hwq⟩ : ∃ wq, wq = wz := ⟨_, rfl⟩
    subst hwq
    obtain ⟨y0, e0⟩ := blk_cell (i := 0) (BX.out)
    obtain ⟨y1, e1⟩ := blk_cell (i := 1) (BX.out)
    obtain ⟨y2, e2⟩ := blk_cell (i := 2) (BX.out)
    obtain ⟨y3, e3⟩ := blk_cell (i := 3) (BX.out)
    obtain ⟨y4, e4⟩ := blk_cell (i := 4) (BX.out)
    obtain ⟨y5, e5⟩ := blk_cell (i := 5) (BX.out)
    obtain ⟨y6, e6⟩ := blk_cell (i := 6) (BX.out)
    simp at y0 y1 y2 y3 y4 y5 y6
    have hrs : w.heap.size + 1 < wq.heap.size := (Array.getElem?_eq_some_iff.1 RX.out).1
    go_wp2_with fail
    refine (cloneB_any A (.slice a d.length c) (d) _ (by first | exact hdl | exact Nat.zero_le _) (HVD.out.ext HB.out)).mono ?_
    rintro e wz ⟨v', rfl, hv', hb⟩
    obtain ⟨a', c', rfl⟩ := hv'.rb.shape
    replace BX := Lib.hid (dblk hb BX.out)
    replace RX := Lib.hid (dblk hb RX.out)
    have HV := Lib.hid hv'.rb
    have hszq : w.heap.size + 1 < wq.heap.size := hrs
    replace HB := Lib.hid (dcall HB.out hb)
    have hbs : w.heap.size < wz.heap.size := (Array.getElem?_eq_some_iff.1 BX.out).1
    have hrs2 : w.heap.size + 1 < wz.heap.size := (Array.getElem?_eq_some_iff.1 RX.out).1
    clear hb hv' y0 y1 y2 y3 y4 y5 y6 e0 e1 e2 e3 e4 e5 e6
    obtain ⟨y0, e0⟩ := blk_cell (i := 0) (BX.out)
    obtain ⟨y1, e1⟩ := blk_cell (i := 1) (BX.out)
    obtain ⟨y2, e2⟩ := blk_cell (i := 2) (BX.out)
    obtain ⟨y3, e3⟩ := blk_cell (i := 3) (BX.out)
    obtain ⟨y4, e4⟩ := blk_cell (i := 4) (BX.out)
    obtain ⟨y5, e5⟩ := blk_cell (i := 5) (BX.out)
    obtain ⟨y6, e6⟩ := blk_cell (i := 6) (BX.out)
    simp at y0 y1 y2 y3 y4 y5 y6
    obtain ⟨x0, g0⟩ := blk_cell (i := 0) (RX.out)
    obtain ⟨x1, g1⟩ := blk_cell (i := 1) (RX.out)
    obtain ⟨x2, g2⟩ := blk_cell (i := 2) (RX.out)
    obtain ⟨x3, g3⟩ := blk_cell (i := 3) (RX.out)
    obtain ⟨x4, g4⟩ := blk_cell (i := 4) (RX.out)
    obtain ⟨x5, g5⟩ := blk_cell (i := 5) (RX.out)
    obtain ⟨x6, g6⟩ := blk_cell (i := 6) (RX.out)
    simp at x0 x1 x2 x3 x4 x5 x6
    go_wp2
    have RZ : (wz.setCell ⟨w.heap.size, 6, none⟩ (.slice a' (d).length c')).heap[w.heap.size + 1]? = _ := (Below.heap_setCell _ _ _ _ (show w.heap.size + 1 ≠ w.heap.size by omega)).trans RX.out
    refine bodyPost_ret (results_cell_row rfl _ _ (w.heap.size + 1) 30 _ (0, 0) _ rfl (set7_blk RZ) Tryz.underlying30 rfl (by kernel_rfl)) rfl ?_
    refine ⟨a', c', by (first | (rw [HCL.out]; done) | (rw [HCL.out]; rfl)), by rw [HCL.out]; exact (HV.out.weak (A' := fun b => w.heap.size ≤ b ∧ b ≠ w.heap.size ∧ b ≠ w.heap.size + 1) fun b _ hb => by omega).mono ⟨by simp [World.setCell], fun b hb _ => (set7_ne hb.2.2).trans (Below.heap_setCell _ _ _ _ hb.2.1)⟩ |>.weak fun b _ hb => hb.1, below7 (HB.out.setCell (Nat.le_refl _) _) (Nat.le_succ _)⟩
  by_cases k2 : k = 2
  · have N1 : Hid (nmB k 1 = true) := Lib.hid (by simp [nmB, k2])
    have N2 : Hid (nmB k 2 = true) := Lib.hid (by simp [nmB, k2])
    have N4 : Hid (nmB k 4 = false) := Lib.hid (by simp [nmB, k2])
    have N8 : Hid (nmB k 8 = false) := Lib.hid (by simp [nmB, k2])
    have HCL : Hid (clE ⟨s, o, k, f, n, p, d⟩ = ⟨s, o, k, f, n, 0, []⟩) := Lib.hid (by simp [clE, k2])
    clear k1 k2
    go_wp2_with fail
    refine (named1_any ⟨_, _, k, _, _, _, d⟩ _ _ _ (HLW.out.ext HB.out)).mono ?_
    rw [N1.out]
    rintro e wz ⟨rfl, hb⟩
    replace BX := Lib.hid (dblk hb BX.out)
    replace RX := Lib.hid (dblk hb RX.out)
    replace HB := Lib.hid (dcall HB.out hb)
    have hbs : w.heap.size < wz.heap.size := (Array.getElem?_eq_some_iff.1 BX.out).1
    clear hb y0 y1 y2 y3 y4 y5 y6 e0 e1 e2 e3 e4 e5 e6
    obtain ⟨wq, hwq⟩ : ∃ wq, wq = wz := ⟨_, rfl⟩
    subst hwq
    obtain ⟨y0, e0⟩ := blk_cell (i := 0) (BX.out)
    obtain ⟨y1, e1⟩ := blk_cell (i := 1) (BX.out)
    obtain ⟨y2, e2⟩ := blk_cell (i := 2) (BX.out)
    obtain ⟨y3, e3⟩ := blk_cell (i := 3) (BX.out)
    obtain ⟨y4, e4⟩ := blk_cell (i := 4) (BX.out)
    obtain ⟨y5, e5⟩ := blk_cell (i := 5) (BX.out)
    obtain ⟨y6, e6⟩ := blk_cell (i := 6) (BX.out)
    simp at y0 y1 y2 y3 y4 y5 y6
    go_wp2_with fail
    refine (named2_any ⟨_, _, k, _, _, _, d⟩ _ _ _ (HLW.out.ext HB.out)).mono ?_
    rw [N2.out]
    rintro e wz ⟨rfl, hb⟩
    replace BX := Lib.hid (dblk hb BX.out)
    replace RX := Lib.hid (dblk hb RX.out)
    replace HB := Lib.hid (dcall HB.out hb)
    have hbs : w.heap.size < wz.heap.size := (Array.getElem?_eq_some_iff.1 BX.out).1
    clear hb y0 y1 y2 y3 y4 y5 y6 e0 e1 e2 e3 e4 e5 e6
    obtain ⟨wq, hwq⟩ : ∃ wq, wq = wz := ⟨_, rfl⟩
    subst hwq
    obtain ⟨y0, e0⟩ := blk_cell (i := 0) (BX.out)
    obtain ⟨y1, e1⟩ := blk_cell (i := 1) (BX.out)
    obtain ⟨y2, e2⟩ := blk_cell (i := 2) (BX.out)
    obtain ⟨y3, e3⟩ := blk_cell (i := 3) (BX.out)
    obtain ⟨y4, e4⟩ := blk_cell (i := 4) (BX.out)
    obtain ⟨y5, e5⟩ := blk_cell (i := 5) (BX.out)
    obtain ⟨y6, e6⟩ := blk_cell (i := 6) (BX.out)
    simp at y0 y1 y2 y3 y4 y5 y6
    go_wp2_with fail
    refine (named4_any ⟨_, _, k, _, _, _, d⟩ _ _ _ (HLW.out.ext HB.out)).mono ?_
    rw [N4.out]
    rintro e wz ⟨rfl, hb⟩
    replace BX := Lib.hid (dblk hb BX.out)
    replace RX := Lib.hid (dblk hb RX.out)
    replace HB := Lib.hid (dcall HB.out hb)
    have hbs : w.heap.size < wz.heap.size := (Array.getElem?_eq_some_iff.1 BX.out).1
    clear hb y0 y1 y2 y3 y4 y5 y6 e0 e1 e2 e3 e4 e5 e6
    obtain ⟨wq, hwq⟩ : ∃ wq, wq = wz := ⟨_, rfl⟩
    subst hwq
    obtain ⟨y0, e0⟩ := blk_cell (i := 0) (BX.out)
    obtain ⟨y1, e1⟩ := blk_cell (i := 1) (BX.out)
    obtain ⟨y2, e2⟩ := blk_cell (i := 2) (BX.out)
    obtain ⟨y3, e3⟩ := blk_cell (i := 3) (BX.out)
    obtain ⟨y4, e4⟩ := blk_cell (i := 4) (BX.out)
    obtain ⟨y5, e5⟩ := blk_cell (i := 5) (BX.out)
    obtain ⟨y6, e6⟩ := blk_cell (i := 6) (BX.out)
    simp at y0 y1 y2 y3 y4 y5 y6
    go_upto_region 7 with fail
    obtain ⟨wz, hwz⟩ : ∃ wz, wz = wq.setCell ⟨w.heap.size, 5, none⟩ (.int .i64 0) := ⟨_, rfl⟩
    rw [← hwz]
    replace RX : Hid (wz.heap[w.heap.size + 1]? = some (.cells #[.int .i64 0, .int .i64 0, .int .i64 0, .int .i64 0, .int .i64 0, .int .i64 0, .slice none 0 0] 30 (0, 0))) := Lib.hid (by rw [hwz]; exact (Below.heap_setCell _ _ _ _ (show w.heap.size + 1 ≠ w.heap.size by omega)).trans RX.out)
    replace HB : Hid (Below w.heap.size w wz) := Lib.hid (by rw [hwz]; exact HB.out.setCell (Nat.le_refl _) _)
    replace BX : Hid (wz.heap[w.heap.size]? = some (.cells #[.int .i64 s, .int .i64 o, .int .i64 k, .int .i64 (f), .int .i64 (n), .int .i64 (0), .slice a d.length c] 30 (0, 0))) := Lib.hid (by rw [hwz]; simp [World.setCell, Array.getElem?_modify, BX.out])
    have hbs : w.heap.size < wz.heap.size := (Array.getElem?_eq_some_iff.1 BX.out).1
    clear hwz y0 y1 y2 y3 y4 y5 y6 e0 e1 e2 e3 e4 e5 e6
    obtain ⟨wq, hwq⟩ : ∃ wq, wq = wz := ⟨_, rfl⟩
    subst hwq
    obtain ⟨y0, e0⟩ := blk_cell (i := 0) (BX.out)
    obtain ⟨y1, e1⟩ := blk_cell (i := 1) (BX.out)
    obtain ⟨y2, e2⟩ := blk_cell (i := 2) (BX.out)
    obtain ⟨y3, e3⟩ := blk_cell (i := 3) (BX.out)
    obtain ⟨y4, e4⟩ := blk_cell (i := 4) (BX.out)
    obtain ⟨y5, e5⟩ := blk_cell (i := 5) (BX.out)
    obtain ⟨y6, e6⟩ := blk_cell (i := 6) (BX.out)
    simp at y0 y1 y2 y3 y4 y5 y6
    go_wp2_with fail
    refine (named8_any ⟨_, _, k, _, _, _, d⟩ _ _ _ (HLW.out.ext HB.out)).mono ?_
    rw [N8.out]
    rintro e wz ⟨rfl, hb⟩
    replace BX := Lib.hid (dblk hb BX.out)
    replace RX := Lib.hid (dblk hb RX.out)
    replace HB := Lib.hid (dcall HB.out hb)
    have hbs : w.heap.size < wz.heap.size := (Array.getElem?_eq_some_iff.1 BX.out).1
    clear hb y0 y1 y2 y3 y4 y5 y6 e0 e1 e2 e3 e4 e5 e6
    obtain ⟨wq, hwq⟩ : ∃ wq, wq = wz := ⟨_, rfl⟩
    subst hwq
    obtain ⟨y0, e0⟩ := blk_cell (i := 0) (BX.out)
    obtain ⟨y1, e1⟩ := blk_cell (i := 1) (BX.out)
    obtain ⟨y2, e2⟩ := blk_cell (i := 2) (BX.out)
    obtain ⟨y3, e3⟩ := blk_cell (i := 3) (BX.out)
    obtain ⟨y4, e4⟩ := blk_cell (i := 4) (BX.out)
    obtain ⟨y5, e5⟩ := blk_cell (i := 5) (BX.out)
    obtain ⟨y6, e6⟩ := blk_cell (i := 6) (BX.out)
    simp at y0 y1 y2 y3 y4 y5 y6
    go_upto_region 9 with fail
    obtain ⟨wz, hwz⟩ : ∃ wz, wz = wq.setCell ⟨w.heap.size, 6, none⟩ (.slice none 0 0) := ⟨_, rfl⟩
    rw [← hwz]
    replace RX : Hid (wz.heap[w.heap.size + 1]? = some (.cells #[.int .i64 0, .int .i64 0, .int .i64 0, .int .i64 0, .int .i64 0, .int .i64 0, .slice none 0 0] 30 (0, 0))) := Lib.hid (by rw [hwz]; exact (Below.heap_setCell _ _ _ _ (show w.heap.size + 1 ≠ w.heap.size by omega)).trans RX.out)
    replace HB : Hid (Below w.heap.size w wz) := Lib.hid (by rw [hwz]; exact HB.out.setCell (Nat.le_refl _) _)
    replace BX : Hid (wz.heap[w.heap.size]? = some (.cells #[.int .i64 s, .int .i64 o, .int .i64 k, .int .i64 (f), .int .i64 (n), .int .i64 (0), .slice none 0 0] 30 (0, 0))) := Lib.hid (by rw [hwz]; simp [World.setCell, Array.getElem?_modify, BX.out])
    have hbs : w.heap.size < wz.heap.size := (Array.getElem?_eq_some_iff.1 BX.out).1
    clear hwz y0 y1 y2 y3 y4 y5 y6 e0 e1 e2 e3 e4 e5 e6
    obtain ⟨wq, hwq⟩ : ∃ wq, wq = wz := ⟨_, rfl⟩
    subst hwq
    obtain ⟨y0, e0⟩ := blk_cell (i := 0) (BX.out)
    obtain ⟨y1, e1⟩ := blk_cell (i := 1) (BX.out)
    obtain ⟨y2, e2⟩ := blk_cell (i := 2) (BX.out)
    obtain ⟨y3, e3⟩ := blk_cell (i := 3) (BX.out)
    obtain ⟨y4, e4⟩ := blk_cell (i := 4) (BX.out)
    obtain ⟨y5, e5⟩ := blk_cell (i := 5) (BX.out)
    obtain ⟨y6, e6⟩ := blk_cell (i := 6) (BX.out)
    simp at y0 y1 y2 y3 y4 y5 y6
    have hrs : w.heap.size + 1 < wq.heap.size := (Array.getElem?_eq_some_iff.1 RX.out).1
    go_wp2_with fail
    refine (cloneB_any A (.slice none 0 0) (([] : List UInt8)) _ (by first | exact hdl | exact Nat.zero_le _) (RB.nil _ _)).mono ?_
    rintro e wz ⟨v', rfl, hv', hb⟩
    obtain ⟨a', c', rfl⟩ := hv'.rb.shape
    replace BX := Lib.hid (dblk hb BX.out)
    replace RX := Lib.hid (dblk hb RX.out)
    have HV := Lib.hid hv'.rb
    have hszq : w.heap.size + 1 < wq.heap.size := hrs
    replace HB := Lib.hid (dcall HB.out hb)
    have hbs : w.heap.size < wz.heap.size := (Array.getElem?_eq_some_iff.1 BX.out).1
    have hrs2 : w.heap.size + 1 < wz.heap.size := (Array.getElem?_eq_some_iff.1 RX.out).1
    clear hb hv' y0 y1 y2 y3 y4 y5 y6 e0 e1 e2 e3 e4 e5 e6
    obtain ⟨y0, e0⟩ := blk_cell (i := 0) (BX.out)
    obtain ⟨y1, e1⟩ := blk_cell (i := 1) (BX.out)
    obtain ⟨y2, e2⟩ := blk_cell (i := 2) (BX.out)
    obtain ⟨y3, e3⟩ := blk_cell (i := 3) (BX.out)
    obtain ⟨y4, e4⟩ := blk_cell (i := 4) (BX.out)
    obtain ⟨y5, e5⟩ := blk_cell (i := 5) (BX.out)
    obtain ⟨y6, e6⟩ := blk_cell (i := 6) (BX.out)
    simp at y0 y1 y2 y3 y4 y5 y6
    obtain ⟨x0, g0⟩ := blk_cell (i := 0) (RX.out)
    obtain ⟨x1, g1⟩ := blk_cell (i := 1) (RX.out)
    obtain ⟨x2, g2⟩ := blk_cell (i := 2) (RX.out)
    obtain ⟨x3, g3⟩ := blk_cell (i := 3) (RX.out)
    obtain ⟨x4, g4⟩ := blk_cell (i := 4) (RX.out)
    obtain ⟨x5, g5⟩ := blk_cell (i := 5) (RX.out)
    obtain ⟨x6, g6⟩ := blk_cell (i := 6) (RX.out)
    simp at x0 x1 x2 x3 x4 x5 x6
    go_wp2
    have RZ : (wz.setCell ⟨w.heap.size, 6, none⟩ (.slice a' (([] : List UInt8)).length c')).heap[w.heap.size + 1]? = _ := (Below.heap_setCell _ _ _ _ (show w.heap.size + 1 ≠ w.heap.size by omega)).trans RX.out
    refine bodyPost_ret (results_cell_row rfl _ _ (w.heap.size + 1) 30 _ (0, 0) _ rfl (set7_blk RZ) Tryz.underlying30 rfl (by kernel_rfl)) rfl ?_
    refine ⟨a', c', by (first | (rw [HCL.out]; done) | (rw [HCL.out]; rfl)), by rw [HCL.out]; exact (HV.out.weak (A' := fun b => w.heap.size ≤ b ∧ b ≠ w.heap.size ∧ b ≠ w.heap.size + 1) fun b _ hb => by omega).mono ⟨by simp [World.setCell], fun b hb _ => (set7_ne hb.2.2).trans (Below.heap_setCell _ _ _ _ hb.2.1)⟩ |>.weak fun b _ hb => hb.1, below7 (HB.out.setCell (Nat.le_refl _) _) (Nat.le_succ _)⟩
  by_cases k3 : k = 3
  · have N1 : Hid (nmB k 1 = false) := Lib.hid (by simp [nmB, k3])
    have N2 : Hid (nmB k 2 = true) := Lib.hid (by simp [nmB, k3])
    have N4 : Hid (nmB k 4 = false) := Lib.hid (by simp [nmB, k3])
    have N8 : Hid (nmB k 8 = false) := Lib.hid (by simp [nmB, k3])
    have HCL : Hid (clE ⟨s, o, k, f, n, p, d⟩ = ⟨s, o, k, 0, n, 0, []⟩) := Lib.hid (by simp [clE, k3])
    clear k1 k2 k3
    go_wp2_with fail
    refine (named1_any ⟨_, _, k, _, _, _, d⟩ _ _ _ (HLW.out.ext HB.out)).mono ?_
    rw [N1.out]
    rintro e wz ⟨rfl, hb⟩
    replace BX := Lib.hid (dblk hb BX.out)
    replace RX := Lib.hid (dblk hb RX.out)
    replace HB := Lib.hid (dcall HB.out hb)
    have hbs : w.heap.size < wz.heap.size := (Array.getElem?_eq_some_iff.1 BX.out).1
    clear hb y0 y1 y2 y3 y4 y5 y6 e0 e1 e2 e3 e4 e5 e6
    obtain ⟨wq, hwq⟩ : ∃ wq, wq = wz := ⟨_, rfl⟩
    subst hwq
    obtain ⟨y0, e0⟩ := blk_cell (i := 0) (BX.out)
    obtain ⟨y1, e1⟩ := blk_cell (i := 1) (BX.out)
    obtain ⟨y2, e2⟩ := blk_cell (i := 2) (BX.out)
    obtain ⟨y3, e3⟩ := blk_cell (i := 3) (BX.out)
    obtain ⟨y4, e4⟩ := blk_cell (i := 4) (BX.out)
    obtain ⟨y5, e5⟩ := blk_cell (i := 5) (BX.out)
    obtain ⟨y6, e6⟩ := blk_cell (i := 6) (BX.out)
    simp at y0 y1 y2 y3 y4 y5 y6
    go_upto_region 3 with fail
    obtain ⟨wz, hwz⟩ : ∃ wz, wz = wq.setCell ⟨w.heap.size, 3, none⟩ (.int .i64 0) := ⟨_, rfl⟩
    rw [← hwz]
    replace RX : Hid (wz.heap[w.heap.size + 1]? = some (.cells #[.int .i64 0, .int .i64 0, .int .i64 0, .int .i64 0, .int .i64 0, .int .i64 0, .slice none 0 0] 30 (0, 0))) := Lib.hid (by rw [hwz]; exact (Below.heap_setCell _ _ _ _ (show w.heap.size + 1 ≠ w.heap.size by omega)).trans RX.out)
    replace HB : Hid (Below w.heap.size w wz) := Lib.hid (by rw [hwz]; exact HB.out.setCell (Nat.le_refl _) _)
    replace BX : Hid (wz.heap[w.heap.size]? = some (.cells #[.int .i64 s, .int .i64 o, .int .i64 k, .int .i64 (0), .int .i64 (n), .int .i64 (p), .slice a d.length c] 30 (0, 0))) := Lib.hid (by rw [hwz]; simp [World.setCell, Array.getElem?_modify, BX.out])
    have hbs : w.heap.size < wz.heap.size := (Array.getElem?_eq_some_iff.1 BX.out).1
    clear hwz y0 y1 y2 y3 y4 y5 y6 e0 e1 e2 e3 e4 e5 e6
    obtain ⟨wq, hwq⟩ : ∃ wq, wq = wz := ⟨_, rfl⟩
    subst hwq
    obtain ⟨y0, e0⟩ := blk_cell (i := 0) (BX.out)
    obtain ⟨y1, e1⟩ := blk_cell (i := 1) (BX.out)
    obtain ⟨y2, e2⟩ := blk_cell (i := 2) (BX.out)
    obtain ⟨y3, e3⟩ := blk_cell (i := 3) (BX.out)
    obtain ⟨y4, e4⟩ := blk_cell (i := 4) (BX.out)
    obtain ⟨y5, e5⟩ := blk_cell (i := 5) (BX.out)
    obtain ⟨y6, e6⟩ := blk_cell (i := 6) (BX.out)
    simp at y0 y1 y2 y3 y4 y5 y6
    go_wp2_with fail
    refine (named2_any ⟨_, _, k, _, _, _, d⟩ _ _ _ (HLW.out.ext HB.out)).mono ?_
    rw [N2.out]
    rintro e wz ⟨rfl, hb⟩
    replace BX := Lib.hid (dblk hb BX.out)
    replace RX := Lib.hid (dblk hb RX.out)
    replace HB := Lib.hid (dcall HB.out hb)
    have hbs : w.heap.size < wz.heap.size := (Array.getElem?_eq_some_iff.1 BX.out).1
    clear hb y0 y1 y2 y3 y4 y5 y6 e0 e1 e2 e3 e4 e5 e6
    obtain ⟨wq, hwq⟩ : ∃ wq, wq = wz := ⟨_, rfl⟩
    subst hwq
    obtain ⟨y0, e0⟩ := blk_cell (i := 0) (BX.out)
    obtain ⟨y1, e1⟩ := blk_cell (i := 1) (BX.out)
    obtain ⟨y2, e2⟩ := blk_cell (i := 2) (BX.out)
    obtain ⟨y3, e3⟩ := blk_cell (i := 3) (BX.out)
    obtain ⟨y4, e4⟩ := blk_cell (i := 4) (BX.out)
    obtain ⟨y5, e5⟩ := blk_cell (i := 5) (BX.out)
    obtain ⟨y6, e6⟩ := blk_cell (i := 6) (BX.out)
    simp at y0 y1 y2 y3 y4 y5 y6
    go_wp2_with fail
    refine (named4_any ⟨_, _, k, _, _, _, d⟩ _ _ _ (HLW.out.ext HB.out)).mono ?_
    rw [N4.out]
    rintro e wz ⟨rfl, hb⟩
    replace BX := Lib.hid (dblk hb BX.out)
    replace RX := Lib.hid (dblk hb RX.out)
    replace HB := Lib.hid (dcall HB.out hb)
    have hbs : w.heap.size < wz.heap.size := (Array.getElem?_eq_some_iff.1 BX.out).1
    clear hb y0 y1 y2 y3 y4 y5 y6 e0 e1 e2 e3 e4 e5 e6
    obtain ⟨wq, hwq⟩ : ∃ wq, wq = wz := ⟨_, rfl⟩
    subst hwq
    obtain ⟨y0, e0⟩ := blk_cell (i := 0) (BX.out)
    obtain ⟨y1, e1⟩ := blk_cell (i := 1) (BX.out)
    obtain ⟨y2, e2⟩ := blk_cell (i := 2) (BX.out)
    obtain ⟨y3, e3⟩ := blk_cell (i := 3) (BX.out)
    obtain ⟨y4, e4⟩ := blk_cell (i := 4) (BX.out)
    obtain ⟨y5, e5⟩ := blk_cell (i := 5) (BX.out)
    obtain ⟨y6, e6⟩ := blk_cell (i := 6) (BX.out)
    simp at y0 y1 y2 y3 y4 y5 y6
    go_upto_region 7 with fail
    obtain ⟨wz, hwz⟩ : ∃ wz, wz = wq.setCell ⟨w.heap.size, 5, none⟩ (.int .i64 0) := ⟨_, rfl⟩
    rw [← hwz]
    replace RX : Hid (wz.heap[w.heap.size + 1]? = some (.cells #[.int .i64 0, .int .i64 0, .int .i64 0, .int .i64 0, .int .i64 0, .int .i64 0, .slice none 0 0] 30 (0, 0))) := Lib.hid (by rw [hwz]; exact (Below.heap_setCell _ _ _ _ (show w.heap.size + 1 ≠ w.heap.size by omega)).trans RX.out)
    replace HB : Hid (Below w.heap.size w wz) := Lib.hid (by rw [hwz]; exact HB.out.setCell (Nat.le_refl _) _)
    replace BX : Hid (wz.heap[w.heap.size]? = some (.cells #[.int .i64 s, .int .i64 o, .int .i64 k, .int .i64 (0), .int .i64 (n), .int .i64 (0), .slice a d.length c] 30 (0, 0))) := Lib.hid (by rw [hwz]; simp [World.setCell, Array.getElem?_modify, BX.out])
    have hbs : w.heap.size < wz.heap.size := (Array.getElem?_eq_some_iff.1 BX.out).1
    clear hwz y0 y1 y2 y3 y4 y5 y6 e0 e1 e2 e3 e4 e5 e6
    obtain ⟨wq, hwq⟩ : ∃ wq, wq = wz := ⟨_, rfl⟩
    subst hwq
    obtain ⟨y0, e0⟩ := blk_cell (i := 0) (BX.out)
    obtain ⟨y1, e1⟩ := blk_cell (i := 1) (BX.out)
    obtain ⟨y2, e2⟩ := blk_cell (i := 2) (BX.out)
    obtain ⟨y3, e3⟩ := blk_cell (i := 3) (BX.out)
    obtain ⟨y4, e4⟩ := blk_cell (i := 4) (BX.out)
    obtain ⟨y5, e5⟩ := blk_cell (i := 5) (BX.out)
    obtain ⟨y6, e6⟩ := blk_cell (i := 6) (BX.out)
    simp at y0 y1 y2 y3 y4 y5 y6
    go_wp2_with fail
    refine (named8_any ⟨_, _, k, _, _, _, d⟩ _ _ _ (HLW.out.ext HB.out)).mono ?_
    rw [N8.out]
    rintro e wz ⟨rfl, hb⟩
    replace BX := Lib.hid (dblk hb BX.out)
    replace RX := Lib.hid (dblk hb RX.out)
    replace HB := Lib.hid (dcall HB.out hb)
    have hbs : w.heap.size < wz.heap.size := (Array.getElem?_eq_some_iff.1 BX.out).1
    clear hb y0 y1 y2 y3 y4 y5 y6 e0 e1 e2 e3 e4 e5 e6
    obtain ⟨wq, hwq⟩ : ∃ wq, wq = wz := ⟨_, rfl⟩
    subst hwq
    obtain ⟨y0, e0⟩ := blk_cell (i := 0) (BX.out)
    obtain ⟨y1, e1⟩ := blk_cell (i := 1) (BX.out)
    obtain ⟨y2, e2⟩ := blk_cell (i := 2) (BX.out)
    obtain ⟨y3, e3⟩ := blk_cell (i := 3) (BX.out)
    obtain ⟨y4, e4⟩ := blk_cell (i := 4) (BX.out)
    obtain ⟨y5, e5⟩ := blk_cell (i := 5) (BX.out)
    obtain ⟨y6, e6⟩ := blk_cell (i := 6) (BX.out)
    simp at y0 y1 y2 y3 y4 y5 y6
    go_upto_region 9 with fail
    obtain ⟨wz, hwz⟩ : ∃ wz, wz = wq.setCell ⟨w.heap.size, 6, none⟩ (.slice none 0 0) := ⟨_, rfl⟩
    rw [← hwz]
    replace RX : Hid (wz.heap[w.heap.size + 1]? = some (.cells #[.int .i64 0, .int .i64 0, .int .i64 0, .int .i64 0, .int .i64 0, .int .i64 0, .slice none 0 0] 30 (0, 0))) := Lib.hid (by rw [hwz]; exact (Below.heap_setCell _ _ _ _ (show w.heap.size + 1 ≠ w.heap.size by omega)).trans RX.out)
    replace HB : Hid (Below w.heap.size w wz) := Lib.hid (by rw [hwz]; exact HB.out.setCell (Nat.le_refl _) _)
    replace BX : Hid (wz.heap[w.heap.size]? = some (.cells #[.int .i64 s, .int .i64 o, .int .i64 k, .int .i64 (0), .int .i64 (n), .int .i64 (0), .slice none 0 0] 30 (0, 0))) := Lib.hid (by rw [hwz]; simp [World.setCell, Array.getElem?_modify, BX.out])
    have hbs : w.heap.size < wz.heap.size := (Array.getElem?_eq_some_iff.1 BX.out).1
    clear hwz y0 y1 y2 y3 y4 y5 y6 e0 e1 e2 e3 e4 e5 e6
    obtain ⟨wq, hwq⟩ : ∃ wq, wq = wz := ⟨_, rfl⟩
    subst hwq
    obtain ⟨y0, e0⟩ := blk_cell (i := 0) (BX.out)
    obtain ⟨y1, e1⟩ := blk_cell (i := 1) (BX.out)
    obtain ⟨y2, e2⟩ := blk_cell (i := 2) (BX.out)
    obtain ⟨y3, e3⟩ := blk_cell (i := 3) (BX.out)
    obtain ⟨y4, e4⟩ := blk_cell (i := 4) (BX.out)
    obtain ⟨y5, e5⟩ := blk_cell (i := 5) (BX.out)
    obtain ⟨y6, e6⟩ := blk_cell (i := 6) (BX.out)
    simp at y0 y1 y2 y3 y4 y5 y6
    have hrs : w.heap.size + 1 < wq.heap.size := (Array.getElem?_eq_some_iff.1 RX.out).1
    go_wp2_with fail
    refine (cloneB_any A (.slice none 0 0) (([] : List UInt8)) _ (by first | exact hdl | exact Nat.zero_le _) (RB.nil _ _)).mono ?_
    rintro e wz ⟨v', rfl, hv', hb⟩
    obtain ⟨a', c', rfl⟩ := hv'.rb.shape
    replace BX := Lib.hid (dblk hb BX.out)
    replace RX := Lib.hid (dblk hb RX.out)
    have HV := Lib.hid hv'.rb
    have hszq : w.heap.size + 1 < wq.heap.size := hrs
    replace HB := Lib.hid (dcall HB.out hb)
    have hbs : w.heap.size < wz.heap.size := (Array.getElem?_eq_some_iff.1 BX.out).1
    have hrs2 : w.heap.size + 1 < wz.heap.size := (Array.getElem?_eq_some_iff.1 RX.out).1
    clear hb hv' y0 y1 y2 y3 y4 y5 y6 e0 e1 e2 e3 e4 e5 e6
    obtain ⟨y0, e0⟩ := blk_cell (i := 0) (BX.out)
    obtain ⟨y1, e1⟩ := blk_cell (i := 1) (BX.out)
    obtain ⟨y2, e2⟩ := blk_cell (i := 2) (BX.out)
    obtain ⟨y3, e3⟩ := blk_cell (i := 3) (BX.out)
    obtain ⟨y4, e4⟩ := blk_cell (i := 4) (BX.out)
    obtain ⟨y5, e5⟩ := blk_cell (i := 5) (BX.out)
    obtain ⟨y6, e6⟩ := blk_cell (i := 6) (BX.out)
    simp at y0 y1 y2 y3 y4 y5 y6
    obtain ⟨x0, g0⟩ := blk_cell (i := 0) (RX.out)
    obtain ⟨x1, g1⟩ := blk_cell (i := 1) (RX.out)
    obtain ⟨x2, g2⟩ := blk_cell (i := 2) (RX.out)
    obtain ⟨x3, g3⟩ := blk_cell (i := 3) (RX.out)
    obtain ⟨x4, g4⟩ := blk_cell (i := 4) (RX.out)
    obtain ⟨x5, g5⟩ := blk_cell (i := 5) (RX.out)
    obtain ⟨x6, g6⟩ := blk_cell (i := 6) (RX.out)
    simp at x0 x1 x2 x3 x4 x5 x6
    go_wp2
    have RZ : (wz.setCell ⟨w.heap.size, 6, none⟩ (.slice a' (([] : List UInt8)).length c')).heap[w.heap.size + 1]? = _ := (Below.heap_setCell _ _ _ _ (show w.heap.size + 1 ≠ w.heap.size by omega)).trans RX.out
    refine bodyPost_ret (results_cell_row rfl _ _ (w.heap.size + 1) 30 _ (0, 0) _ rfl (set7_blk RZ) Tryz.underlying30 rfl (by kernel_rfl)) rfl ?_
    refine ⟨a', c', by (first | (rw [HCL.out]; done) | (rw [HCL.out]; rfl)), by rw [HCL.out]; exact (HV.out.weak (A' := fun b => w.heap.size ≤ b ∧ b ≠ w.heap.size ∧ b ≠ w.heap.size + 1) fun b _ hb => by omega).mono ⟨by simp [World.setCell], fun b hb _ => (set7_ne hb.2.2).trans (Below.heap_setCell _ _ _ _ hb.2.1)⟩ |>.weak fun b _ hb => hb.1, below7 (HB.out.setCell (Nat.le_refl _) _) (Nat.le_succ _)⟩
  by_cases k5 : k = 5 ∨ k = 6
  · have N1 : Hid (nmB k 1 = false) := Lib.hid (by simp [nmB, k1, k2])
    have N2 : Hid (nmB k 2 = false) := Lib.hid (by simp [nmB, k2, k3])
    have N4 : Hid (nmB k 4 = true) := Lib.hid (by simp [nmB, k5])
    have N8 : Hid (nmB k 8 = false) := Lib.hid (by simp [nmB, k1])
    have HCL : Hid (clE ⟨s, o, k, f, n, p, d⟩ = ⟨s, o, k, 0, 0, p, []⟩) := Lib.hid (by simp [clE, k1, k2, k3, k5])
    clear k1 k2 k3 k5
    go_wp2_with fail
    refine (named1_any ⟨_, _, k, _, _, _, d⟩ _ _ _ (HLW.out.ext HB.out)).mono ?_
    rw [N1.out]
    rintro e wz ⟨rfl, hb⟩
    replace BX := Lib.hid (dblk hb BX.out)
    replace RX := Lib.hid (dblk hb RX.out)
    replace HB := Lib.hid (dcall HB.out hb)
    have hbs : w.heap.size < wz.heap.size := (Array.getElem?_eq_some_iff.1 BX.out).1
    clear hb y0 y1 y2 y3 y4 y5 y6 e0 e1 e2 e3 e4 e5 e6
    obtain ⟨wq, hwq⟩ : ∃ wq, wq = wz := ⟨_, rfl⟩
    subst hwq
    obtain ⟨y0, e0⟩ := blk_cell (i := 0) (BX.out)
    obtain ⟨y1, e1⟩ := blk_cell (i := 1) (BX.out)
    obtain ⟨y2, e2⟩ := blk_cell (i := 2) (BX.out)
    obtain ⟨y3, e3⟩ := blk_cell (i := 3) (BX.out)
    obtain ⟨y4, e4⟩ := blk_cell (i := 4) (BX.out)
    obtain ⟨y5, e5⟩ := blk_cell (i := 5) (BX.out)
    obtain ⟨y6, e6⟩ := blk_cell (i := 6) (BX.out)
    simp at y0 y1 y2 y3 y4 y5 y6
    go_upto_region 3 with fail
    obtain ⟨wz, hwz⟩ : ∃ wz, wz = wq.setCell ⟨w.heap.size, 3, none⟩ (.int .i64 0) := ⟨_, rfl⟩
    rw [← hwz]
    replace RX : Hid (wz.heap[w.heap.size + 1]? = some (.cells #[.int .i64 0, .int .i64 0, .int .i64 0, .int .i64 0, .int .i64 0, .int .i64 0, .slice none 0 0] 30 (0, 0))) := Lib.hid (by rw [hwz]; exact (Below.heap_setCell _ _ _ _ (show w.heap.size + 1 ≠ w.heap.size by omega)).trans RX.out)
    replace HB : Hid (Below w.heap.size w wz) := Lib.hid (by rw [hwz]; exact HB.out.setCell (Nat.le_refl _) _)
    replace BX : Hid (wz.heap[w.heap.size]? = some (.cells #[.int .i64 s, .int .i64 o, .int .i64 k, .int .i64 (0), .int .i64 (n), .int .i64 (p), .slice a d.length c] 30 (0, 0))) := Lib.hid (by rw [hwz]; simp [World.setCell, Array.getElem?_modify, BX.out])
    have hbs : w.heap.size < wz.heap.size := (Array.getElem?_eq_some_iff.1 BX.out).1
    clear hwz y0 y1 y2 y3 y4 y5 y6 e0 e1 e2 e3 e4 e5 e6
    obtain ⟨wq, hwq⟩ : ∃ wq, wq = wz := ⟨_, rfl⟩
    subst hwq
    obtain ⟨y0, e0⟩ := blk_cell (i := 0) (BX.out)
    obtain ⟨y1, e1⟩ := blk_cell (i := 1) (BX.out)
    obtain ⟨y2, e2⟩ := blk_cell (i := 2) (BX.out)
    obtain ⟨y3, e3⟩ := blk_cell (i := 3) (BX.out)
    obtain ⟨y4, e4⟩ := blk_cell (i := 4) (BX.out)
    obtain ⟨y5, e5⟩ := blk_cell (i := 5) (BX.out)
    obtain ⟨y6, e6⟩ := blk_cell (i := 6) (BX.out)
    simp at y0 y1 y2 y3 y4 y5 y6
    go_wp2_with fail
    refine (named2_any ⟨_, _, k, _, _, _, d⟩ _ _ _ (HLW.out.ext HB.out)).mono ?_
    rw [N2.out]
    rintro e wz ⟨rfl, hb⟩
    replace BX := Lib.hid (dblk hb BX.out)
    replace RX := Lib.hid (dblk hb RX.out)
    replace HB := Lib.hid (dcall HB.out hb)
    have hbs : w.heap.size < wz.heap.size := (Array.getElem?_eq_some_iff.1 BX.out).1
    clear hb y0 y1 y2 y3 y4 y5 y6 e0 e1 e2 e3 e4 e5 e6
    obtain ⟨wq, hwq⟩ : ∃ wq, wq = wz := ⟨_, rfl⟩
    subst hwq
    obtain ⟨y0, e0⟩ := blk_cell (i := 0) (BX.out)
    obtain ⟨y1, e1⟩ := blk_cell (i := 1) (BX.out)
    obtain ⟨y2, e2⟩ := blk_cell (i := 2) (BX.out)
    obtain ⟨y3, e3⟩ := blk_cell (i := 3) (BX.out)
    obtain ⟨y4, e4⟩ := blk_cell (i := 4) (BX.out)
    obtain ⟨y5, e5⟩ := blk_cell (i := 5) (BX.out)
    obtain ⟨y6, e6⟩ := blk_cell (i := 6) (BX.out)
    simp at y0 y1 y2 y3 y4 y5 y6
    go_upto_region 5 with fail
    obtain ⟨wz, hwz⟩ : ∃ wz, wz = wq.setCell ⟨w.heap.size, 4, none⟩ (.int .i64 0) := ⟨_, rfl⟩
    rw [← hwz]
    replace RX : Hid (wz.heap[w.heap.size + 1]? = some (.cells #[.int .i64 0, .int .i64 0, .int .i64 0, .int .i64 0, .int .i64 0, .int .i64 0, .slice none 0 0] 30 (0, 0))) := Lib.hid (by rw [hwz]; exact (Below.heap_setCell _ _ _ _ (show w.heap.size + 1 ≠ w.heap.size by omega)).trans RX.out)
    replace HB : Hid (Below w.heap.size w wz) := Lib.hid (by rw [hwz]; exact HB.out.setCell (Nat.le_refl _) _)
    replace BX : Hid (wz.heap[w.heap.size]? = some (.cells #[.int .i64 s, .int .i64 o, .int .i64 k, .int .i64 (0), .int .i64 (0), .int .i64 (p), .slice a d.length c] 30 (0, 0))) := Lib.hid (by rw [hwz]; simp [World.setCell, Array.getElem?_modify, BX.out])
    have hbs : w.heap.size < wz.heap.size := (Array.getElem?_eq_some_iff.1 BX.out).1
    clear hwz y0 y1 y2 y3 y4 y5 y6 e0 e1 e2 e3 e4 e5 e6
    obtain ⟨wq, hwq⟩ : ∃ wq, wq = wz := ⟨_, rfl⟩
    subst hwq
    obtain ⟨y0, e0⟩ := blk_cell (i := 0) (BX.out)
    obtain ⟨y1, e1⟩ := blk_cell (i := 1) (BX.out)
    obtain ⟨y2, e2⟩ := blk_cell (i := 2) (BX.out)
    obtain ⟨y3, e3⟩ := blk_cell (i := 3) (BX.out)
    obtain ⟨y4, e4⟩ := blk_cell (i := 4) (BX.out)
    obtain ⟨y5, e5⟩ := blk_cell (i := 5) (BX.out)
    obtain ⟨y6, e6⟩ := blk_cell (i := 6) (BX.out)
    simp at y0 y1 y2 y3 y4 y5 y6
    go_wp2_with fail
    refine (named4_any ⟨_, _, k, _, _, _, d⟩ _ _ _ (HLW.out.ext HB.out)).mono ?_
    rw [N4.out]
    rintro e wz ⟨rfl, hb⟩
    replace BX := Lib.hid (dblk hb BX.out)
    replace RX := Lib.hid (dblk hb RX.out)
    replace HB := Lib.hid (dcall HB.out hb)
    have hbs : w.heap.size < wz.heap.size := (Array.getElem?_eq_some_iff.1 BX.out).1
    clear hb y0 y1 y2 y3 y4 y5 y6 e0 e1 e2 e3 e4 e5 e6
    obtain ⟨wq, hwq⟩ : ∃ wq, wq = wz := ⟨_, rfl⟩
    subst hwq
    obtain ⟨y0, e0⟩ := blk_cell (i := 0) (BX.out)
    obtain ⟨y1, e1⟩ := blk_cell (i := 1) (BX.out)
    obtain ⟨y2, e2⟩ := blk_cell (i := 2) (BX.out)
    obtain ⟨y3, e3⟩ := blk_cell (i := 3) (BX.out)
    obtain ⟨y4, e4⟩ := blk_cell (i := 4) (BX.out)
    obtain ⟨y5, e5⟩ := blk_cell (i := 5) (BX.out)
    obtain ⟨y6, e6⟩ := blk_cell (i := 6) (BX.out)
    simp at y0 y1 y2 y3 y4 y5 y6
    go_wp2_with fail
    refine (named8_any ⟨_, _, k, _, _, _, d⟩ _ _ _ (HLW.out.ext HB.out)).mono ?_
    rw [N8.out]
    rintro e wz ⟨rfl, hb⟩
    replace BX := Lib.hid (dblk hb BX.out)
    replace RX := Lib.hid (dblk hb RX.out)
    replace HB := Lib.hid (dcall HB.out hb)
    have hbs : w.heap.size < wz.heap.size := (Array.getElem?_eq_some_iff.1 BX.out).1
    clear hb y0 y1 y2 y3 y4 y5 y6 e0 e1 e2 e3 e4 e5 e6
    obtain ⟨wq, hwq⟩ : ∃ wq, wq = wz := ⟨_, rfl⟩
    subst hwq
    obtain ⟨y0, e0⟩ := blk_cell (i := 0) (BX.out)
    obtain ⟨y1, e1⟩ := blk_cell (i := 1) (BX.out)
    obtain ⟨y2, e2⟩ := blk_cell (i := 2) (BX.out)
    obtain ⟨y3, e3⟩ := blk_cell (i := 3) (BX.out)
    obtain ⟨y4, e4⟩ := blk_cell (i := 4) (BX.out)
    obtain ⟨y5, e5⟩ := blk_cell (i := 5) (BX.out)
    obtain ⟨y6, e6⟩ := blk_cell (i := 6) (BX.out)
    simp at y0 y1 y2 y3 y4 y5 y6
    go_upto_region 9 with fail
    obtain ⟨wz, hwz⟩ : ∃ wz, wz = wq.setCell ⟨w.heap.size, 6, none⟩ (.slice none 0 0) := ⟨_, rfl⟩
    rw [← hwz]
    replace RX : Hid (wz.heap[w.heap.size + 1]? = some (.cells #[.int .i64 0, .int .i64 0, .int .i64 0, .int .i64 0, .int .i64 0, .int .i64 0, .slice none 0 0] 30 (0, 0))) := Lib.hid (by rw [hwz]; exact (Below.heap_setCell _ _ _ _ (show w.heap.size + 1 ≠ w.heap.size by omega)).trans RX.out)
    replace HB : Hid (Below w.heap.size w wz) := Lib.hid (by rw [hwz]; exact HB.out.setCell (Nat.le_refl _) _)
    replace BX : Hid (wz.heap[w.heap.size]? = some (.cells #[.int .i64 s, .int .i64 o, .int .i64 k, .int .i64 (0), .int .i64 (0), .int .i64 (p), .slice none 0 0] 30 (0, 0))) := Lib.hid (by rw [hwz]; simp [World.setCell, Array.getElem?_modify, BX.out])
    have hbs : w.heap.size < wz.heap.size := (Array.getElem?_eq_some_iff.1 BX.out).1
    clear hwz y0 y1 y2 y3 y4 y5 y6 e0 e1 e2 e3 e4 e5 e6
    obtain ⟨wq, hwq⟩ : ∃ wq, wq = wz := ⟨_, rfl⟩
    subst hwq
    obtain ⟨y0, e0⟩ := blk_cell (i := 0) (BX.out)
    obtain ⟨y1, e1⟩ := blk_cell (i := 1) (BX.out)
    obtain ⟨y2, e2⟩ := blk_cell (i := 2) (BX.out)
    obtain ⟨y3, e3⟩ := blk_cell (i := 3) (BX.out)
    obtain ⟨y4, e4⟩ := blk_cell (i := 4) (BX.out)
    obtain ⟨y5, e5⟩ := blk_cell (i := 5) (BX.out)
    obtain ⟨y6, e6⟩ := blk_cell (i := 6) (BX.out)
    simp at y0 y1 y2 y3 y4 y5 y6
    have hrs : w.heap.size + 1 < wq.heap.size := (Array.getElem?_eq_some_iff.1 RX.out).1
    go_wp2_with fail
    refine (cloneB_any A (.slice none 0 0) (([] : List UInt8)) _ (by first | exact hdl | exact Nat.zero_le _) (RB.nil _ _)).mono ?_
    rintro e wz ⟨v', rfl, hv', hb⟩
    obtain ⟨a', c', rfl⟩ := hv'.rb.shape
    replace BX := Lib.hid (dblk hb BX.out)
    replace RX := Lib.hid (dblk hb RX.out)
    have HV := Lib.hid hv'.rb
    have hszq : w.heap.size + 1 < wq.heap.size := hrs
    replace HB := Lib.hid (dcall HB.out hb)
    have hbs : w.heap.size < wz.heap.size := (Array.getElem?_eq_some_iff.1 BX.out).1
    have hrs2 : w.heap.size + 1 < wz.heap.size := (Array.getElem?_eq_some_iff.1 RX.out).1
    clear hb hv' y0 y1 y2 y3 y4 y5 y6 e0 e1 e2 e3 e4 e5 e6
    obtain ⟨y0, e0⟩ := blk_cell (i := 0) (BX.out)
    obtain ⟨y1, e1⟩ := blk_cell (i := 1) (BX.out)
    obtain ⟨y2, e2⟩ := blk_cell (i := 2) (BX.out)
    obtain ⟨y3, e3⟩ := blk_cell (i := 3) (BX.out)
    obtain ⟨y4, e4⟩ := blk_cell (i := 4) (BX.out)
    obtain ⟨y5, e5⟩ := blk_cell (i := 5) (BX.out)
    obtain ⟨y6, e6⟩ := blk_cell (i := 6) (BX.out)
    simp at y0 y1 y2 y3 y4 y5 y6
    obtain ⟨x0, g0⟩ := blk_cell (i := 0) (RX.out)
    obtain ⟨x1, g1⟩ := blk_cell (i := 1) (RX.out)
    obtain ⟨x2, g2⟩ := blk_cell (i := 2) (RX.out)
    obtain ⟨x3, g3⟩ := blk_cell (i := 3) (RX.out)
    obtain ⟨x4, g4⟩ := blk_cell (i := 4) (RX.out)
    obtain ⟨x5, g5⟩ := blk_cell (i := 5) (RX.out)
    obtain ⟨x6, g6⟩ := blk_cell (i := 6) (RX.out)
    simp at x0 x1 x2 x3 x4 x5 x6
    go_wp2
    have RZ : (wz.setCell ⟨w.heap.size, 6, none⟩ (.slice a' (([] : List UInt8)).length c')).heap[w.heap.size + 1]? = _ := (Below.heap_setCell _ _ _ _ (show w.heap.size + 1 ≠ w.heap.size by omega)).trans RX.out
    refine bodyPost_ret (results_cell_row rfl _ _ (w.heap.size + 1) 30 _ (0, 0) _ rfl (set7_blk RZ) Tryz.underlying30 rfl (by kernel_rfl)) rfl ?_
    refine ⟨a', c', by (first | (rw [HCL.out]; done) | (rw [HCL.out]; rfl)), by rw [HCL.out]; exact (HV.out.weak (A' := fun b => w.heap.size ≤ b ∧ b ≠ w.heap.size ∧ b ≠ w.heap.size + 1) fun b _ hb => by omega).mono ⟨by simp [World.setCell], fun b hb _ => (set7_ne hb.2.2).trans (Below.heap_setCell _ _ _ _ hb.2.1)⟩ |>.weak fun b _ hb => hb.1, below7 (HB.out.setCell (Nat.le_refl _) _) (Nat.le_succ _)⟩
  · have N1 : Hid (nmB k 1 = false) := Lib.hid (by simp [nmB, k1, k2])
    have N2 : Hid (nmB k 2 = false) := Lib.hid (by simp [nmB, k2, k3])
    have N4 : Hid (nmB k 4 = false) := Lib.hid (by simp [nmB, k5])
    have N8 : Hid (nmB k 8 = false) := Lib.hid (by simp [nmB, k1])
    have HCL : Hid (clE ⟨s, o, k, f, n, p, d⟩ = ⟨s, o, k, 0, 0, 0, []⟩) := Lib.hid (by simp [clE, k1, k2, k3, k5])
    clear k1 k2 k3 k5
    go_wp2_with fail
    refine (named1_any ⟨_, _, k, _, _, _, d⟩ _ _ _ (HLW.out.ext HB.out)).mono ?_
    rw [N1.out]
    rintro e wz ⟨rfl, hb⟩
    replace BX := Lib.hid (dblk hb BX.out)
    replace RX := Lib.hid (dblk hb RX.out)
    replace HB := Lib.hid (dcall HB.out hb)
    have hbs : w.heap.size < wz.heap.size := (Array.getElem?_eq_some_iff.1 BX.out).1
    clear hb y0 y1 y2 y3 y4 y5 y6 e0 e1 e2 e3 e4 e5 e6
    obtain ⟨wq, hwq⟩ : ∃ wq, wq = wz := ⟨_, rfl⟩
    subst hwq
    obtain ⟨y0, e0⟩ := blk_cell (i := 0) (BX.out)
    obtain ⟨y1, e1⟩ := blk_cell (i := 1) (BX.out)
    obtain ⟨y2, e2⟩ := blk_cell (i := 2) (BX.out)
    obtain ⟨y3, e3⟩ := blk_cell (i := 3) (BX.out)
    obtain ⟨y4, e4⟩ := blk_cell (i := 4) (BX.out)
    obtain ⟨y5, e5⟩ := blk_cell (i := 5) (BX.out)
    obtain ⟨y6, e6⟩ := blk_cell (i := 6) (BX.out)
    simp at y0 y1 y2 y3 y4 y5 y6
    go_upto_region 3 with fail
    obtain ⟨wz, hwz⟩ : ∃ wz, wz = wq.setCell ⟨w.heap.size, 3, none⟩ (.int .i64 0) := ⟨_, rfl⟩
    rw [← hwz]
    replace RX : Hid (wz.heap[w.heap.size + 1]? = some (.cells #[.int .i64 0, .int .i64 0, .int .i64 0, .int .i64 0, .int .i64 0, .int .i64 0, .slice none 0 0] 30 (0, 0))) := Lib.hid (by rw [hwz]; exact (Below.heap_setCell _ _ _ _ (show w.heap.size + 1 ≠ w.heap.size by omega)).trans RX.out)
    replace HB : Hid (Below w.heap.size w wz) := Lib.hid (by rw [hwz]; exact HB.out.setCell (Nat.le_refl _) _)
    replace BX : Hid (wz.heap[w.heap.size]? = some (.cells #[.int .i64 s, .int .i64 o, .int .i64 k, .int .i64 (0), .int .i64 (n), .int .i64 (p), .slice a d.length c] 30 (0, 0))) := Lib.hid (by rw [hwz]; simp [World.setCell, Array.getElem?_modify, BX.out])
    have hbs : w.heap.size < wz.heap.size := (Array.getElem?_eq_some_iff.1 BX.out).1
    clear hwz y0 y1 y2 y3 y4 y5 y6 e0 e1 e2 e3 e4 e5 e6
    obtain ⟨wq, hwq⟩ : ∃ wq, wq = wz := ⟨_, rfl⟩
    subst hwq
    obtain ⟨y0, e0⟩ := blk_cell (i := 0) (BX.out)
    obtain ⟨y1, e1⟩ := blk_cell (i := 1) (BX.out)
    obtain ⟨y2, e2⟩ := blk_cell (i := 2) (BX.out)
    obtain ⟨y3, e3⟩ := blk_cell (i := 3) (BX.out)
    obtain ⟨y4, e4⟩ := blk_cell (i := 4) (BX.out)
    obtain ⟨y5, e5⟩ := blk_cell (i := 5) (BX.out)
    obtain ⟨y6, e6⟩ := blk_cell (i := 6) (BX.out)
    simp at y0 y1 y2 y3 y4 y5 y6
    go_wp2_with fail
    refine (named2_any ⟨_, _, k, _, _, _, d⟩ _ _ _ (HLW.out.ext HB.out)).mono ?_
    rw [N2.out]
    rintro e wz ⟨rfl, hb⟩
    replace BX := Lib.hid (dblk hb BX.out)
    replace RX := Lib.hid (dblk hb RX.out)
    replace HB := Lib.hid (dcall HB.out hb)
    have hbs : w.heap.size < wz.heap.size := (Array.getElem?_eq_some_iff.1 BX.out).1
    clear hb y0 y1 y2 y3 y4 y5 y6 e0 e1 e2 e3 e4 e5 e6
    obtain ⟨wq, hwq⟩ : ∃ wq, wq = wz := ⟨_, rfl⟩
    subst hwq
    obtain ⟨y0, e0⟩ := blk_cell (i := 0) (BX.out)
    obtain ⟨y1, e1⟩ := blk_cell (i := 1) (BX.out)
    obtain ⟨y2, e2⟩ := blk_cell (i := 2) (BX.out)
    obtain ⟨y3, e3⟩ := blk_cell (i := 3) (BX.out)
    obtain ⟨y4, e4⟩ := blk_cell (i := 4) (BX.out)
    obtain ⟨y5, e5⟩ := blk_cell (i := 5) (BX.out)
    obtain ⟨y6, e6⟩ := blk_cell (i := 6) (BX.out)
    simp at y0 y1 y2 y3 y4 y5 y6
    go_upto_region 5 with fail
    obtain ⟨wz, hwz⟩ : ∃ wz, wz = wq.setCell ⟨w.heap.size, 4, none⟩ (.int .i64 0) := ⟨_, rfl⟩
    rw [← hwz]
    replace RX : Hid (wz.heap[w.heap.size + 1]? = some (.cells #[.int .i64 0, .int .i64 0, .int .i64 0, .int .i64 0, .int .i64 0, .int .i64 0, .slice none 0 0] 30 (0, 0))) := Lib.hid (by rw [hwz]; exact (Below.heap_setCell _ _ _ _ (show w.heap.size + 1 ≠ w.heap.size by omega)).trans RX.out)
    replace HB : Hid (Below w.heap.size w wz) := Lib.hid (by rw [hwz]; exact HB.out.setCell (Nat.le_refl _) _)
    replace BX : Hid (wz.heap[w.heap.size]? = some (.cells #[.int .i64 s, .int .i64 o, .int .i64 k, .int .i64 (0), .int .i64 (0), .int .i64 (p), .slice a d.length c] 30 (0, 0))) := Lib.hid (by rw [hwz]; simp [World.setCell, Array.getElem?_modify, BX.out])
    have hbs : w.heap.size < wz.heap.size := (Array.getElem?_eq_some_iff.1 BX.out).1
    clear hwz y0 y1 y2 y3 y4 y5 y6 e0 e1 e2 e3 e4 e5 e6
    obtain ⟨wq, hwq⟩ : ∃ wq, wq = wz := ⟨_, rfl⟩
    subst hwq
    obtain ⟨y0, e0⟩ := blk_cell (i := 0) (BX.out)
    obtain ⟨y1, e1⟩ := blk_cell (i := 1) (BX.out)
    obtain ⟨y2, e2⟩ := blk_cell (i := 2) (BX.out)
    obtain ⟨y3, e3⟩ := blk_cell (i := 3) (BX.out)
    obtain ⟨y4, e4⟩ := blk_cell (i := 4) (BX.out)
    obtain ⟨y5, e5⟩ := blk_cell (i := 5) (BX.out)
    obtain ⟨y6, e6⟩ := blk_cell (i := 6) (BX.out)
    simp at y0 y1 y2 y3 y4 y5 y6
    go_wp2_with fail
    refine (named4_any ⟨_, _, k, _, _, _, d⟩ _ _ _ (HLW.out.ext HB.out)).mono ?_
    rw [N4.out]
    rintro e wz ⟨rfl, hb⟩
    replace BX := Lib.hid (dblk hb BX.out)
    replace RX := Lib.hid (dblk hb RX.out)
    replace HB := Lib.hid (dcall HB.out hb)
    have hbs : w.heap.size < wz.heap.size := (Array.getElem?_eq_some_iff.1 BX.out).1
    clear hb y0 y1 y2 y3 y4 y5 y6 e0 e1 e2 e3 e4 e5 e6
    obtain ⟨wq, hwq⟩ : ∃ wq, wq = wz := ⟨_, rfl⟩
    subst hwq
    obtain ⟨y0, e0⟩ := blk_cell (i := 0) (BX.out)
    obtain ⟨y1, e1⟩ := blk_cell (i := 1) (BX.out)
    obtain ⟨y2, e2⟩ := blk_cell (i := 2) (BX.out)
    obtain ⟨y3, e3⟩ := blk_cell (i := 3) (BX.out)
    obtain ⟨y4, e4⟩ := blk_cell (i := 4) (BX.out)
    obtain ⟨y5, e5⟩ := blk_cell (i := 5) (BX.out)
    obtain ⟨y6, e6⟩ := blk_cell (i := 6) (BX.out)
    simp at y0 y1 y2 y3 y4 y5 y6
    go_upto_region 7 with fail
    obtain ⟨wz, hwz⟩ : ∃ wz, wz = wq.setCell ⟨w.heap.size, 5, none⟩ (.int .i64 0) := ⟨_, rfl⟩
    rw [← hwz]
    replace RX : Hid (wz.heap[w.heap.size + 1]? = some (.cells #[.int .i64 0, .int .i64 0, .int .i64 0, .int .i64 0, .int .i64 0, .int .i64 0, .slice none 0 0] 30 (0, 0))) := Lib.hid (by rw [hwz]; exact (Below.heap_setCell _ _ _ _ (show w.heap.size + 1 ≠ w.heap.size by omega)).trans RX.out)
    replace HB : Hid (Below w.heap.size w wz) := Lib.hid (by rw [hwz]; exact HB.out.setCell (Nat.le_refl _) _)
    replace BX : Hid (wz.heap[w.heap.size]? = some (.cells #[.int .i64 s, .int .i64 o, .int .i64 k, .int .i64 (0), .int .i64 (0), .int .i64 (0), .slice a d.length c] 30 (0, 0))) := Lib.hid (by rw [hwz]; simp [World.setCell, Array.getElem?_modify, BX.out])
    have hbs : w.heap.size < wz.heap.size := (Array.getElem?_eq_some_iff.1 BX.out).1
    clear hwz y0 y1 y2 y3 y4 y5 y6 e0 e1 e2 e3 e4 e5 e6
    obtain ⟨wq, hwq⟩ : ∃ wq, wq = wz := ⟨_, rfl⟩
    subst hwq
    obtain ⟨y0, e0⟩ := blk_cell (i := 0) (BX.out)
    obtain ⟨y1, e1⟩ := blk_cell (i := 1) (BX.out)
    obtain ⟨y2, e2⟩ := blk_cell (i := 2) (BX.out)
    obtain ⟨y3, e3⟩ := blk_cell (i := 3) (BX.out)
    obtain ⟨y4, e4⟩ := blk_cell (i := 4) (BX.out)
    obtain ⟨y5, e5⟩ := blk_cell (i := 5) (BX.out)
    obtain ⟨y6, e6⟩ := blk_cell (i := 6) (BX.out)
    simp at y0 y1 y2 y3 y4 y5 y6
    go_wp2_with fail
    refine (named8_any ⟨_, _, k, _, _, _, d⟩ _ _ _ (HLW.out.ext HB.out)).mono ?_
    rw [N8.out]
    rintro e wz ⟨rfl, hb⟩
    replace BX := Lib.hid (dblk hb BX.out)
    replace RX := Lib.hid (dblk hb RX.out)
    replace HB := Lib.hid (dcall HB.out hb)
    have hbs : w.heap.size < wz.heap.size := (Array.getElem?_eq_some_iff.1 BX.out).1
    clear hb y0 y1 y2 y3 y4 y5 y6 e0 e1 e2 e3 e4 e5 e6
    obtain ⟨wq, hwq⟩ : ∃ wq, wq = wz := ⟨_, rfl⟩
    subst hwq
    obtain ⟨y0, e0⟩ := blk_cell (i := 0) (BX.out)
    obtain ⟨y1, e1⟩ := blk_cell (i := 1) (BX.out)
    obtain ⟨y2, e2⟩ := blk_cell (i := 2) (BX.out)
    obtain ⟨y3, e3⟩ := blk_cell (i := 3) (BX.out)
    obtain ⟨y4, e4⟩ := blk_cell (i := 4) (BX.out)
    obtain ⟨y5, e5⟩ := blk_cell (i := 5) (BX.out)
    obtain ⟨y6, e6⟩ := blk_cell (i := 6) (BX.out)
    simp at y0 y1 y2 y3 y4 y5 y6
    go_upto_region 9 with fail
    obtain ⟨wz, hwz⟩ : ∃ wz, wz = wq.setCell ⟨w.heap.size, 6, none⟩ (.slice none 0 0) := ⟨_, rfl⟩
    rw [← hwz]
    replace RX : Hid (wz.heap[w.heap.size + 1]? = some (.cells #[.int .i64 0, .int .i64 0, .int .i64 0, .int .i64 0, .int .i64 0, .int .i64 0, .slice none 0 0] 30 (0, 0))) := Lib.hid (by rw [hwz]; exact (Below.heap_setCell _ _ _ _ (show w.heap.size + 1 ≠ w.heap.size by omega)).trans RX.out)
    replace HB : Hid (Below w.heap.size w wz) := Lib.hid (by rw [hwz]; exact HB.out.setCell (Nat.le_refl _) _)
    replace BX : Hid (wz.heap[w.heap.size]? = some (.cells #[.int .i64 s, .int .i64 o, .int .i64 k, .int .i64 (0), .int .i64 (0), .int .i64 (0), .slice none 0 0] 30 (0, 0))) := Lib.hid (by rw [hwz]; simp [World.setCell, Array.getElem?_modify, BX.out])
    have hbs : w.heap.size < wz.heap.size := (Array.getElem?_eq_some_iff.1 BX.out).1
    clear hwz y0 y1 y2 y3 y4 y5 y6 e0 e1 e2 e3 e4 e5 e6
    obtain ⟨wq, hwq⟩ : ∃ wq, wq = wz := ⟨_, rfl⟩
    subst hwq
    obtain ⟨y0, e0⟩ := blk_cell (i := 0) (BX.out)
    obtain ⟨y1, e1⟩ := blk_cell (i := 1) (BX.out)
    obtain ⟨y2, e2⟩ := blk_cell (i := 2) (BX.out)
    obtain ⟨y3, e3⟩ := blk_cell (i := 3) (BX.out)
    obtain ⟨y4, e4⟩ := blk_cell (i := 4) (BX.out)
    obtain ⟨y5, e5⟩ := blk_cell (i := 5) (BX.out)
    obtain ⟨y6, e6⟩ := blk_cell (i := 6) (BX.out)
    simp at y0 y1 y2 y3 y4 y5 y6
    have hrs : w.heap.size + 1 < wq.heap.size := (Array.getElem?_eq_some_iff.1 RX.out).1
    go_wp2_with fail
    refine (cloneB_any A (.slice none 0 0) (([] : List UInt8)) _ (by first | exact hdl | exact Nat.zero_le _) (RB.nil _ _)).mono ?_
    rintro e wz ⟨v', rfl, hv', hb⟩
    obtain ⟨a', c', rfl⟩ := hv'.rb.shape
    replace BX := Lib.hid (dblk hb BX.out)
    replace RX := Lib.hid (dblk hb RX.out)
    have HV := Lib.hid hv'.rb
    have hszq : w.heap.size + 1 < wq.heap.size := hrs
    replace HB := Lib.hid (dcall HB.out hb)
    have hbs : w.heap.size < wz.heap.size := (Array.getElem?_eq_some_iff.1 BX.out).1
    have hrs2 : w.heap.size + 1 < wz.heap.size := (Array.getElem?_eq_some_iff.1 RX.out).1
    clear hb hv' y0 y1 y2 y3 y4 y5 y6 e0 e1 e2 e3 e4 e5 e6
    obtain ⟨y0, e0⟩ := blk_cell (i := 0) (BX.out)
    obtain ⟨y1, e1⟩ := blk_cell (i := 1) (BX.out)
    obtain ⟨y2, e2⟩ := blk_cell (i := 2) (BX.out)
    obtain ⟨y3, e3⟩ := blk_cell (i := 3) (BX.out)
    obtain ⟨y4, e4⟩ := blk_cell (i := 4) (BX.out)
    obtain ⟨y5, e5⟩ := blk_cell (i := 5) (BX.out)
    obtain ⟨y6, e6⟩ := blk_cell (i := 6) (BX.out)
    simp at y0 y1 y2 y3 y4 y5 y6
    obtain ⟨x0, g0⟩ := blk_cell (i := 0) (RX.out)
    obtain ⟨x1, g1⟩ := blk_cell (i := 1) (RX.out)
    obtain ⟨x2, g2⟩ := blk_cell (i := 2) (RX.out)
    obtain ⟨x3, g3⟩ := blk_cell (i := 3) (RX.out)
    obtain ⟨x4, g4⟩ := blk_cell (i := 4) (RX.out)
    obtain ⟨x5, g5⟩ := blk_cell (i := 5) (RX.out)
    obtain ⟨x6, g6⟩ := blk_cell (i := 6) (RX.out)
    simp at x0 x1 x2 x3 x4 x5 x6
    go_wp2
    have RZ : (wz.setCell ⟨w.heap.size, 6, none⟩ (.slice a' (([] : List UInt8)).length c')).heap[w.heap.size + 1]? = _ := (Below.heap_setCell _ _ _ _ (show w.heap.size + 1 ≠ w.heap.size by omega)).trans RX.out
    refine bodyPost_ret (results_cell_row rfl _ _ (w.heap.size + 1) 30 _ (0, 0) _ rfl (set7_blk RZ) Tryz.underlying30 rfl (by kernel_rfl)) rfl ?_
    refine ⟨a', c', by (first | (rw [HCL.out]; done) | (rw [HCL.out]; rfl)), by rw [HCL.out]; exact (HV.out.weak (A' := fun b => w.heap.size ≤ b ∧ b ≠ w.heap.size ∧ b ≠ w.heap.size + 1) fun b _ hb => by omega).mono ⟨by simp [World.setCell], fun b hb _ => (set7_ne hb.2.2).trans (Below.heap_setCell _ _ _ _ hb.2.1)⟩ |>.weak fun b _ hb => hb.1, below7 (HB.out.setCell (Nat.le_refl _) _) (Nat.le_succ _)⟩
end Go.Proofs.YtlekdfajcpmolaaGreatDoor
