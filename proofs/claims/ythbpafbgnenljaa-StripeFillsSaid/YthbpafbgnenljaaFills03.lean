/- Proved: for every layout and size, terrazzolaw03.StripeFills answers true, and its arguments read afterwards as before. No condition. -/
import Derived.Test.YthbpafbgnenljaaLaw03a
namespace Go.Proofs.Ythbpafbgnenljaa
open Go.ChangeShapes Go.WideShapes Go.ChangeAt Go.RowKit Go.Joins

theorem lt_of_block_cell {w : World} {a : Addr} {v : Value} (h : w.cell? a = some v) : a.block < w.heap.size := World.block_lt_of_cell? w a h

section
variable {u c o : Int} (H : Lay u c o)
include H
theorem parts_ex {i : Int} (hi : 0 ≤ i) (s : Nat) : ∃ r, Parts u c o i s o r := by
  induction s with
  | zero => exact ⟨0, parts_none H hi⟩
  | succ s ih =>
    obtain ⟨r, hr⟩ := ih
    rw [show ((s + 1 : Nat) : Int) = (s : Int) + 1 by omega]
    by_cases h : plO u c o s = i
    · exact ⟨_, parts_hit H (by omega) hi hr h⟩
    · exact ⟨_, parts_miss H hi hr h⟩
variable (hok : okB u c o = true)
include hok
theorem R_parts {i : Int} (hi : 0 ≤ i) (h1 : i ≤ 1099511627776) (s : Nat) (hs : s ≤ 512) : Parts u c o i s o (rmF u c o i s) := by
  obtain ⟨r, hr⟩ := parts_ex H hi s
  have := rm_eq (Rm.yes hok hi h1 (by omega) (by omega) hr)
  rwa [← this]
theorem R_zero {i : Int} (hi : 0 ≤ i) (h1 : i ≤ 1099511627776) : rmF u c o i (0 : Nat) = 0 :=
  (R_parts H hok hi h1 0 (by omega)).one (parts_none H hi)
theorem R_succ {i : Int} (hi : 0 ≤ i) (h1 : i ≤ 1099511627776) (s : Nat) (hs : s + 1 ≤ 512) : rmF u c o i (s + 1 : Nat) = rmF u c o i s + if plO u c o s = i then 1 else 0 := by
  have p := R_parts H hok hi h1 s (by omega)
  have p' := R_parts H hok hi h1 (s + 1) hs
  rw [show ((s + 1 : Nat) : Int) = (s : Int) + 1 by omega] at p' ⊢
  split
  · rename_i h
    have q := parts_hit H (by omega) hi p h
    have e := p'.one q
    have r := plK_range H (off := (s : Int))
    have b := bk_pl H (off := (s : Int))
    rw [h] at b
    obtain ⟨a0, a1, a2⟩ := p
    have n1 : ¬ plK u c o s < rmF u c o i s := fun g => by have := (a2 _ r.1 r.2).1 g; omega
    have n2 : ¬ rmF u c o i s < plK u c o s := fun g => by
      have := bk_lt H (ob := i) a0 g
      have := (a2 (rmF u c o i s) a0 (by omega)).2 (by omega)
      omega
    omega
  · rename_i h
    rw [p'.one (parts_miss H hi p h)]
    omega

omit H hok in
noncomputable def sumR (u c o : Int) (s : Nat) : Nat → Int
  | 0 => 0
  | n + 1 => sumR u c o s n + rmF u c o n s
theorem sumR_zero (n : Nat) (hn : n ≤ 1099511627776) : sumR u c o 0 n = 0 := by
  induction n with
  | zero => rfl
  | succ n ih =>
    have h1 := R_zero H hok (i := (n : Int)) (by omega) (by omega)
    show sumR u c o 0 n + rmF u c o n (0 : Nat) = 0
    rw [ih (by omega), h1]
    rfl
theorem sumR_succ (n s : Nat) (hn : n ≤ 1099511627776) (hs : s + 1 ≤ 512) : sumR u c o (s + 1) n = sumR u c o s n + if plO u c o s < n then 1 else 0 := by
  have h0 := plO_nonneg H (off := (s : Int)) (by omega)
  induction n with
  | zero =>
    rw [if_neg (by simp; omega)]
    rfl
  | succ n ih =>
    have h1 := R_succ H hok (i := (n : Int)) (by omega) (by omega) s hs
    show sumR u c o (s + 1) n + rmF u c o n (s + 1 : Nat) = sumR u c o s n + rmF u c o n s + _
    rw [ih (by omega), h1]
    split <;> split <;> split <;> omega
theorem sumR_all (n s : Nat) (hn : n ≤ 1099511627776) (hs : s ≤ 512) (h : ∀ t : Nat, t < s → plO u c o t < n) : sumR u c o s n = s := by
  induction s with
  | zero => exact sumR_zero H hok n hn
  | succ s ih =>
    rw [sumR_succ H hok n s hn hs, ih (by omega) (fun t ht => h t (by omega)), if_pos (h s (by omega))]
    omega
theorem R_none {i : Int} (hi : 0 ≤ i) (h1 : i ≤ 1099511627776) (s : Nat) (hs : s ≤ 512) (h : ∀ t : Nat, t < s → plO u c o t ≠ i) : rmF u c o i s = 0 := by
  induction s with
  | zero => exact R_zero H hok hi h1
  | succ s ih =>
    rw [R_succ H hok hi h1 s hs, ih (by omega) (fun t ht => h t (by omega)), if_neg (h s (by omega))]
    rfl
omit hok
theorem obF_all (s : Nat) : ∀ t : Nat, t < s → plO u c o t < obF u c o s := by
  induction s with
  | zero => intro t ht; omega
  | succ s ih =>
    intro t ht
    have e := obF_succ H (s := (s : Int)) (by omega)
    rw [show ((s + 1 : Nat) : Int) = (s : Int) + 1 by omega]
    rcases Nat.lt_or_eq_of_le (show t ≤ s by omega) with g | g
    · have := ih t g; omega
    · subst g; omega
theorem obF_last (s : Nat) : obF u c o s = 0 ∨ ∃ t : Nat, t < s ∧ plO u c o t + 1 = obF u c o s := by
  induction s with
  | zero => exact .inl (obF_zero H)
  | succ s ih =>
    have e := obF_succ H (s := (s : Int)) (by omega)
    rw [show ((s + 1 : Nat) : Int) = (s : Int) + 1 by omega]
    by_cases h : obF u c o s ≤ plO u c o s + 1
    · exact .inr ⟨s, by omega, by omega⟩
    · rcases ih with g | ⟨t, ht, g⟩
      · have := plO_nonneg H (off := (s : Int)) (by omega); omega
      · exact .inr ⟨t, by omega, by omega⟩
theorem obF_le_size (s : Nat) : obF u c o s ≤ s := by
  rcases obF_last H s with g | ⟨t, ht, g⟩
  · omega
  · have := plO_le_off H (off := (t : Int)) (by omega)
    omega
end

set_option maxHeartbeats 1600000 in
theorem law_fills_no (u c o s : Int) (w : World) (h : okB u c o = false ∨ s < 0 ∨ 512 < s) :
    Calls Try.prog 8 #[lay u c o, .int .i64 s] w fun e w' => e = .returned (.bool true) ∧ Below w.heap.size w w' := by
  have HO : Hid (OB u c o (-1) = 0) := by show _ = _; unfold OB; simp
  have HR : Hid (rmF u c o 0 (-1) = 0) := by show _ = _; exact (rm_eq (Rm.no (by omega))).symm
  cases hok : okB u c o
  · have HK := Lib.hid hok
    clear hok h
    go_enter Try.func8, Try.ntmps8
    go_wp2_with fail
    refine (awake_any _).mono ?_
    rintro e w1 ⟨rfl, hb⟩
    have x0 : w1.cell? ⟨w.heap.size, 0, none⟩ = some (.int .i64 u) := cellExt hb (by simp)
    have x1 : w1.cell? ⟨w.heap.size, 1, none⟩ = some (.int .i64 c) := cellExt hb (by simp)
    have x2 : w1.cell? ⟨w.heap.size, 2, none⟩ = some (.int .i64 o) := cellExt hb (by simp)
    have hB : Below w.heap.size w w1 := by ((repeat' (first | exact Below.refl _ _ | refine below_drewN ?_ _ | refine Below.drew ?_ | refine Below.alloc ?_ ?_ _ | refine Below.trans ?_ (Below.mono (by assumption) ?_))); all_goals (first | exact Nat.le_refl _ | exact Below.size (by assumption) | omega | (simp; done) | (simp; omega)))
    clear hb
    go_wp2_with fail
    refine (check_no _ _ _ _ HK.out).mono ?_
    rintro e w2 ⟨rfl, hb⟩
    replace x0 := cellExt hb x0
    replace x1 := cellExt hb x1
    replace x2 := cellExt hb x2
    replace hB := hB.trans (hb.mono hB.size)
    clear hb
    go_wp2_with fail
    refine (objects_any _ _ _ _ _).mono ?_
    rintro e w3 ⟨rfl, hb⟩
    rw [HO.out]
    replace x0 := cellExt hb x0
    replace x1 := cellExt hb x1
    replace x2 := cellExt hb x2
    replace hB := hB.trans (hb.mono hB.size)
    clear hb
    go_wp2_with fail
    refine (room_det _ _ _ _ _ _).mono ?_
    rintro e w4 ⟨rfl, hb⟩
    rw [HR.out]
    replace x0 := cellExt hb x0
    replace x1 := cellExt hb x1
    replace x2 := cellExt hb x2
    replace hB := hB.trans (hb.mono hB.size)
    clear hb
    go_wp2_with fail
    go_ret
    exact ⟨rfl, hB⟩
  · have HK := Lib.hid hok
    rw [hok] at h
    simp only [Bool.true_eq_false, false_or] at h
    clear hok
    by_cases h0 : s < 0
    all_goals
      go_enter Try.func8, Try.ntmps8
      go_wp2_with fail
      refine (awake_any _).mono ?_
      rintro e w1 ⟨rfl, hb⟩
      have x0 : w1.cell? ⟨w.heap.size, 0, none⟩ = some (.int .i64 u) := cellExt hb (by simp)
      have x1 : w1.cell? ⟨w.heap.size, 1, none⟩ = some (.int .i64 c) := cellExt hb (by simp)
      have x2 : w1.cell? ⟨w.heap.size, 2, none⟩ = some (.int .i64 o) := cellExt hb (by simp)
      have hB : Below w.heap.size w w1 := by ((repeat' (first | exact Below.refl _ _ | refine below_drewN ?_ _ | refine Below.drew ?_ | refine Below.alloc ?_ ?_ _ | refine Below.trans ?_ (Below.mono (by assumption) ?_))); all_goals (first | exact Nat.le_refl _ | exact Below.size (by assumption) | omega | (simp; done) | (simp; omega)))
      clear hb
      go_wp2_with fail
      refine (check_ok _ _ _ _ HK.out).mono ?_
      rintro e w2 ⟨rfl, hb⟩
      replace x0 := cellExt hb x0
      replace x1 := cellExt hb x1
      replace x2 := cellExt hb x2
      replace hB := hB.trans (hb.mono hB.size)
      clear hb
      go_wp2_with fail
      refine (objects_any _ _ _ _ _).mono ?_
      rintro e w3 ⟨rfl, hb⟩
      rw [HO.out]
      replace x0 := cellExt hb x0
      replace x1 := cellExt hb x1
      replace x2 := cellExt hb x2
      replace hB := hB.trans (hb.mono hB.size)
      clear hb
      go_wp2_with fail
      refine (room_det _ _ _ _ _ _).mono ?_
      rintro e w4 ⟨rfl, hb⟩
      rw [HR.out]
      replace x0 := cellExt hb x0
      replace x1 := cellExt hb x1
      replace x2 := cellExt hb x2
      replace hB := hB.trans (hb.mono hB.size)
      clear hb
      go_wp2_with fail
      go_ret
      exact ⟨rfl, hB⟩

set_option maxHeartbeats 3200000 in
theorem law_fills_yes (u c o : Int) (s : Nat) (w : World) (hok : okB u c o = true) (hs : s ≤ 512) :
    Calls Try.prog 8 #[lay u c o, .int .i64 s] w fun e w' => e = .returned (.bool true) ∧ Below w.heap.size w w' := by
  have H := lay_of hok
  have HK := Lib.hid hok
  have HL := Lib.hid H
  have o64 := H.o64
  have uo := H.uo
  have u1 := H.u1
  obtain ⟨n, hn⟩ := Int.eq_ofNat_of_zero_le (obF_nonneg H s)
  have hns := obF_le_size H s
  have hn5 : n ≤ 512 := by omega
  have HN : Hid (OB u c o s = n) := by
    show _ = _
    unfold OB
    rw [if_pos (by rw [hok]; simp; omega), hn]
  have HSum : Hid (sumR u c o s n = s) := sumR_all H hok n s (by omega) hs (fun t ht => by have := obF_all H s t ht; omega)
  have HEnd : Hid (rmF u c o n s = 0) := R_none H hok (by omega) (by omega) s hs (fun t ht => by have := obF_all H s t ht; omega)
  have HLast : Hid (n ≠ 0 → 0 < rmF u c o ((n : Int) - 1) s) := by
    intro h0
    rcases obF_last H s with g | ⟨t, ht, g⟩
    · omega
    · have p := R_parts H hok (i := (n : Int) - 1) (by omega) (by omega) s hs
      have r := plK_range H (off := (t : Int))
      have b := bk_pl H (off := (t : Int))
      rw [show plO u c o t = (n : Int) - 1 by omega] at b
      have := (p.2.2 _ r.1 r.2).2 (by omega)
      omega
  have HP : Hid (∀ j : Nat, j < n → Parts u c o j s o (rmF u c o j s)) := fun j hj => R_parts H hok (by omega) (by omega) s hs
  have HSB : Hid (∀ j : Nat, j ≤ n → 0 ≤ sumR u c o s j ∧ sumR u c o s j ≤ 64 * j) := by
    intro j hj
    induction j with
    | zero => simp [sumR]
    | succ j ih =>
      have := ih (by omega)
      have p := HP.out j (by omega)
      show 0 ≤ sumR u c o s j + rmF u c o j s ∧ sumR u c o s j + rmF u c o j s ≤ 64 * ((j + 1 : Nat) : Int)
      have := p.1
      have := p.2.1
      omega
  clear hok H hn hns
  go_enter Try.func8, Try.ntmps8
  go_wp2_with fail
  refine (awake_any _).mono ?_
  rintro e w1 ⟨rfl, hb⟩
  have x0 : w1.cell? ⟨w.heap.size, 0, none⟩ = some (.int .i64 u) := cellExt hb (by simp)
  have x1 : w1.cell? ⟨w.heap.size, 1, none⟩ = some (.int .i64 c) := cellExt hb (by simp)
  have x2 : w1.cell? ⟨w.heap.size, 2, none⟩ = some (.int .i64 o) := cellExt hb (by simp)
  have hB : Below w.heap.size w w1 := by ((repeat' (first | exact Below.refl _ _ | refine below_drewN ?_ _ | refine Below.drew ?_ | refine Below.alloc ?_ ?_ _ | refine Below.trans ?_ (Below.mono (by assumption) ?_))); all_goals (first | exact Nat.le_refl _ | exact Below.size (by assumption) | omega | (simp; done) | (simp; omega)))
  clear hb
  go_wp2_with fail
  refine (check_ok _ _ _ _ HK.out).mono ?_
  rintro e w2 ⟨rfl, hb⟩
  replace x0 := cellExt hb x0
  replace x1 := cellExt hb x1
  replace x2 := cellExt hb x2
  replace hB := hB.trans (hb.mono hB.size)
  clear hb
  go_wp2_with fail
  refine (objects_any _ _ _ _ _).mono ?_
  rintro e w3 ⟨rfl, hb⟩
  rw [HN.out]
  replace x0 := cellExt hb x0
  replace x1 := cellExt hb x1
  replace x2 := cellExt hb x2
  replace hB := hB.trans (hb.mono hB.size)
  clear hb
  go_wp2_with fail
  go_loopw [7, 8] (fun sm i wr => ∃ j : Nat, j ≤ n ∧ i = .int .i64 j ∧ sm = .int .i64 (sumR u c o s j) ∧ Below w3.heap.size w3 wr) (fun _ i _ => n - (intOf i).toNat)
  case atStart => exact ⟨0, Nat.zero_le _, rfl, rfl, Below.refl _ _⟩
  case round =>
    obtain ⟨j, hj, rfl, rfl, hbr⟩ := hrel
    have hz := lt_of_block_cell x0
    replace x0 := cellExt hbr x0
    replace x1 := cellExt hbr x1
    replace x2 := cellExt hbr x2
    obtain ⟨sb0, sb1⟩ := HSB.out j hj
    by_cases hlt : j < n
    · obtain ⟨p0, p1, p2⟩ := HP.out j hlt
      have HQ := Lib.hid p2
      clear p2
      have HS1 : Hid (sumR u c o s (j + 1) = sumR u c o s j + rmF u c o j s) := rfl
      generalize hr : rmF u c o j s = r at *
      have HR := Lib.hid hr
      clear hr
      have fin : ∀ (P : Prop), (r = 0 → P) → (0 < r → r < o → P) → (r = o → P) → P := by
        intro P h1 h2 h3
        rcases Int.lt_or_le 0 r with g | g
        · rcases Int.lt_or_le r o with g' | g'
          · exact h2 g g'
          · exact h3 (by omega)
        · exact h1 (by omega)
      refine fin _ ?_ ?_ ?_ <;> clear fin
      · intro h
        subst h
        have hv : BK u c o j 0 = bk u c o j 0 := BK_yes (by rw [HK.out]; simp [inF]; omega) (by omega)
        have hge := HQ.out 0 (by omega) (by omega)
        have hbn := bk_le_big HL.out (ob := (j : Int)) (k := 0) (by omega) (by omega) (by omega) (by omega)
        have hge' : (s : Int) ≤ bk u c o j 0 := by omega
        have HV := Lib.hid hv
        clear hv hge
        go_wp2_with fail
        refine (room_det _ _ _ _ _ _).mono ?_
        rintro e w4 ⟨rfl, hb⟩
        rw [HR.out]
        have y0 := cellExt hb x0
        have y1 := cellExt hb x1
        have y2 := cellExt hb x2
        go_wp2_with fail
        refine (back_any _ _ _ _ _ _).mono ?_
        rintro e w5 ⟨rfl, hb'⟩
        rw [HV.out]
        go_wp2_with fail
        go_roundw
        case rel => exact ⟨j + 1, by omega, by go_num, by rw [HS1.out]; simp, hbr.trans ((hb.mono hbr.size).trans (hb'.mono (Nat.le_trans hbr.size hb.size)))⟩
        case measure => simp [intOf]; omega
      · intro h1 h2
        have hv : BK u c o j r = bk u c o j r := BK_yes (by rw [HK.out]; simp [inF]; omega) (by omega)
        have hge := HQ.out r (by omega) (by omega)
        have hge' : (s : Int) ≤ bk u c o j r := by omega
        have hbn := bk_le_big HL.out (ob := (j : Int)) (k := r) (by omega) (by omega) (by omega) (by omega)
        have hv2 : BK u c o j (r - 1) = bk u c o j (r - 1) := BK_yes (by rw [HK.out]; simp [inF]; omega) (by omega)
        have hlt2 := (HQ.out (r - 1) (by omega) (by omega)).1 (by omega)
        have hb0 := bk_nonneg HL.out (ob := (j : Int)) (k := r - 1) (by omega) (by omega)
        have HV := Lib.hid hv
        have HV2 := Lib.hid hv2
        clear hv hge hv2
        go_wp2_with fail
        refine (room_det _ _ _ _ _ _).mono ?_
        rintro e w4 ⟨rfl, hb⟩
        rw [HR.out]
        have y0 := cellExt hb x0
        have y1 := cellExt hb x1
        have y2 := cellExt hb x2
        go_wp2_with fail
        refine (back_any _ _ _ _ _ _).mono ?_
        rintro e w5 ⟨rfl, hb'⟩
        rw [HV2.out]
        have z0 := cellExt hb' y0
        have z1 := cellExt hb' y1
        have z2 := cellExt hb' y2
        go_wp2_with fail
        refine (back_any _ _ _ _ _ _).mono ?_
        rintro e w6 ⟨rfl, hb6⟩
        rw [HV.out]
        go_wp2_with fail
        go_roundw
        case rel => exact ⟨j + 1, by omega, by go_num, by rw [HS1.out], hbr.trans ((hb.mono hbr.size).trans ((hb'.mono (Nat.le_trans hbr.size hb.size)).trans (hb6.mono (Nat.le_trans (Nat.le_trans hbr.size hb.size) hb'.size))))⟩
        case measure => simp [intOf]; omega
      · intro h
        have hv2 : BK u c o j (r - 1) = bk u c o j (r - 1) := BK_yes (by rw [HK.out]; simp [inF]; omega) (by omega)
        have hlt2 := (HQ.out (r - 1) (by omega) (by omega)).1 (by omega)
        have hb0 := bk_nonneg HL.out (ob := (j : Int)) (k := r - 1) (by omega) (by omega)
        have HV2 := Lib.hid hv2
        have h1 : o ≤ r := by omega
        have h3 : 0 < r := by omega
        clear hv2 h
        go_wp2_with fail
        refine (room_det _ _ _ _ _ _).mono ?_
        rintro e w4 ⟨rfl, hb⟩
        rw [HR.out]
        have y0 := cellExt hb x0
        have y1 := cellExt hb x1
        have y2 := cellExt hb x2
        go_wp2_with fail
        refine (back_any _ _ _ _ _ _).mono ?_
        rintro e w5 ⟨rfl, hb'⟩
        rw [HV2.out]
        have z0 := cellExt hb' y0
        have z1 := cellExt hb' y1
        have z2 := cellExt hb' y2
        go_wp2_with fail
        go_roundw
        case rel => exact ⟨j + 1, by omega, by go_num, by rw [HS1.out], hbr.trans ((hb.mono hbr.size).trans (hb'.mono (Nat.le_trans hbr.size hb.size)))⟩
        case measure => simp [intOf]; omega
    · have hjn : j = n := by omega
      subst hjn
      have T : (sumR u c o s j == (s : Int)) = true := by rw [HSum.out]; simp
      by_cases h0 : j = 0
      · subst h0
        go_wp2_with fail
        refine (room_det _ _ _ _ _ _).mono ?_
        rintro e w4 ⟨rfl, hb⟩
        rw [show rmF u c o 0 s = 0 from HEnd.out]
        go_wp2_with fail
        go_ret
        exact ⟨rfl, hB.trans ((hbr.mono hB.size).trans (hb.mono (Nat.le_trans hB.size hbr.size)))⟩
      · have h1 := HLast.out h0
        have h00 : 0 < j := by omega
        have T2 : ((j : Int) == 0) = false := by simp; omega
        go_wp2_with fail
        refine (room_det _ _ _ _ _ _).mono ?_
        rintro e w4 ⟨rfl, hb⟩
        rw [HEnd.out]
        have y0 := cellExt hb x0
        have y1 := cellExt hb x1
        have y2 := cellExt hb x2
        go_wp2_with fail
        refine (room_det _ _ _ _ _ _).mono ?_
        rintro e w5 ⟨rfl, hb'⟩
        go_wp2_with fail
        go_ret
        exact ⟨rfl, hB.trans ((hbr.mono hB.size).trans ((hb.mono (Nat.le_trans hB.size hbr.size)).trans (hb'.mono (Nat.le_trans (Nat.le_trans hB.size hbr.size) hb.size))))⟩

theorem law_fills (u c o s : Int) (w : World) :
    Calls Try.prog 8 #[lay u c o, .int .i64 s] w fun e w' => e = .returned (.bool true) ∧ Below w.heap.size w w' := by
  by_cases h : okB u c o = false ∨ s < 0 ∨ 512 < s
  · exact law_fills_no u c o s w h
  · simp only [not_or, Bool.not_eq_false] at h
    obtain ⟨n, rfl⟩ := Int.eq_ofNat_of_zero_le (show 0 ≤ s by omega)
    exact law_fills_yes u c o n w h.1 (by omega)

theorem stripeFills_lifted (os : Os) (started : os.Started) (H : Type) (enc : TypeId × Value → H) :
    ReturnsInHanded {} Try.checked os 8 .any (Rows.stripeFillsSpec.pre6 enc Try.prog Try.f8 [] false) (Rows.stripeFillsSpec.post enc Try.prog Try.f8 false true false false) := by
  refine lift_law os started rfl rfl ?_ ?_ (by kernel_rfl) Try.func8
    (ChangeSpec.witness6 (enc := enc) (C := Try.checked) false ⟨#[], #[.agg #[.int .i64 0, .int .i64 0, .int .i64 0], .int .i64 0], []⟩ 8 (by kernel_rfl) (by kernel_rfl) (by kernel_rfl) (by kernel_rfl)) ?_
  · intro ds hn
    rw [Try.params8] at hn
    obtain ⟨d1, d2, rfl⟩ : ∃ d1 d2, ds = [d1, d2] := by match ds, hn with | [a, b], _ => exact ⟨a, b, rfl⟩
    exact ⟨rfl, rfl, rfl⟩
  · rw [Try.params8]
    intro t ht
    simp at ht
    rcases ht with rfl | rfl <;> exact ⟨by kernel_rfl, of_decide_eq_true (by kernel_rfl)⟩
  · intro W base args ds p hval hlt hfz hA
    rw [Try.params8] at hA hval
    obtain ⟨u, c, o, a, rfl⟩ := open_args2 hval hA
    exact law_fills u c o a W
theorem stripeFills_holds : Rows.StripeFillsSaid :=
  OpenClaim.holds_of_wide 8 Try.f8 rfl rfl rfl rfl rfl rfl rfl ⟨rfl, rfl, rfl, rfl, rfl⟩ rfl rfl rfl rfl rfl (by kernel_rfl) Try.func8 (by kernel_rfl)
    (of_decide_eq_true (by kernel_rfl)) (by unfold Func.isWrapper; rw [if_neg (of_decide_eq_false (by kernel_rfl))]; exact ⟨rfl, rfl⟩)
    (fun os started H enc _ => stripeFills_lifted os started H enc)
end Go.Proofs.Ythbpafbgnenljaa
