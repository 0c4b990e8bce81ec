/- The walk of terrazzolaw11.StoreRoom. -/
import Derived.Test.YtohfckkgmijlnaaGreatDoorGp11
namespace Go.Proofs.YtohfckkgmijlnaaGreatDoor
open Go.RowKit Go.Maps Go.WideShapes
attribute [local go_sem ↓] Go.wp_at_zero Go.wp_at_succ

theorem bnew_name : nameB ⟨#[98, 114, 97, 110, 100, 110, 101, 119]⟩ = true := by kernel_rfl
set_option maxRecDepth 100000 in
set_option maxHeartbeats 8000000 in
theorem room_law (room : Int) (v : Value) (l : List TxD) (w : World) (hE : ErrT w) (hl : SlE Enc.txn (fun b => b < w.heap.size) w v l) :
    Calls Tryz.prog 5 #[.int .i64 room, v] w (Says true w) := by
  obtain ⟨va, vc, rfl⟩ := hl.shape
  have HL := Lib.hid hl
  have HE := Lib.hid hE
  clear hl hE
  obtain ⟨m, hm⟩ : ∃ m : Nat, (min (max room 0) 300) = (m : Int) := ⟨(min (max room 0) 300).toNat, by omega⟩
  have HM : Hid ((min (max room 0) 300).toNat = m) := Lib.hid (by omega)
  have hm3 : m ≤ 300 := by omega
  go_enter Tryz.func5, Tryz.ntmps5
  go_wp2_with fail
  refine (awake11_any _ HE.out).mono ?_
  rintro e w1 ⟨rfl, hb1⟩
  have HW1 := Lib.hid hb1
  clear hb1
  go_wp2_with fail
  refine (behind_any w w1 HW1.out HE.out room _ l HL.out).mono ?_
  rintro e w2 ⟨p, b, s0, rfl, hS, hroom, hlen⟩
  have HRM0 : Hid (s0.room = m) := Lib.hid (hroom.trans HM.out)
  have hle : s0.l.length ≤ m := by have := hS.ok.len; have := HRM0.out; omega
  have g0 : decide (m < s0.l.length) = false := by simp; omega
  have g1 : decide ((m : Int) < s0.l.length) = false := by simp; omega
  have g2 : decide ((s0.l.length : Int) < 0) = false := by simp
  have HS2 := Lib.hid hS
  have hbl := hS.st.lt.2
  have hln := hS.lenC
  have HLC := Lib.hid hln
  clear hS hroom hlen HW1 hm hln
  go_wp2_with fail
  refine HLC.out.mono ?_
  rintro e w' ⟨rfl, rfl⟩
  go_wp2_with fail
  refine HLC.out.mono ?_
  rintro e w' ⟨rfl, rfl⟩
  go_wp2_with fail
  refine (HS2.out.namesC ⟨#[]⟩).mono ?_
  rw [namesP_all]
  rintro e w3 ⟨a3, c3, rfl, hn3, hb3, hS3⟩
  have HS3 := Lib.hid hS3
  obtain ⟨z, hz⟩ : ∃ z, z = w2.heap.size := ⟨_, rfl⟩
  rw [← hz] at hn3 hbl
  have hN3 : Hid (allN s0.l = allN s0.l) := rfl
  have HMEM : Hid (∀ n ∈ allN s0.l, n.size ≤ 12) := Lib.hid fun n hn => nameB_size (nm_of_is HS2.out.ok (is_of_mem hn))
  have hNL : (allN s0.l).length = s0.l.length := by simp [allN]
  obtain ⟨N, hN⟩ : ∃ N, N = allN s0.l := ⟨_, rfl⟩
  rw [← hN] at hn3 hNL HMEM ⊢
  have HNL : Hid (N.length ≤ 100000) := Lib.hid (by omega)
  have HN3 := Lib.hid hn3
  have HN := Lib.hid hN
  clear hn3 hS3 hb3 hN3 hz hN hNL HS2 HLC g0 g1 g2 hle
  go_wp2_with fail
  go_loopw [9] (fun i wr => ∃ (k : Nat) (s : StD), k ≤ N.length ∧ k ≤ 10 ∧ i = .int .i64 k ∧ StAt w wr p b s ∧ allN s.l = N ∧ s.room = m ∧ SlE Enc.str (fun k => z ≤ k) wr (.slice a3 N.length c3) N) (fun i _ => N.length - (intOf i).toNat)
  case atStart => exact ⟨0, s0, Nat.zero_le _, by omega, rfl, HS3.out, HN.out.symm, HRM0.out, HN3.out⟩
  case round =>
    obtain ⟨k, s, hk, hk10, rfl, hS, hnm, hrm, hn⟩ := hrel
    have HS := Lib.hid hS
    have HRM := Lib.hid hrm
    have HNL : Hid (N.length = s.l.length) := Lib.hid (by rw [← hnm]; simp [allN])
    by_cases hlt : k < N.length
    · by_cases h10 : k < 10
      · obtain ⟨g, off, rfl, hg, c0, -⟩ := Strs.at hn hlt
        have hsz := HMEM.out N[k] (List.getElem_mem hlt)
        have HI : Hid (s.is N[k] = true) := Lib.hid (is_of_mem (by rw [hnm]; exact List.getElem_mem hlt))
        have hk5 : (k : Int) < N.length := by omega
        have hk6 : (k : Int) < 10 := by omega
        have HSN := Lib.hid hn
        have HNM := Lib.hid hnm
        generalize N[k] = nm at *
        clear hn hrm hnm hS
        go_wp2_with fail
        refine (write11_any _ _ _).mono ?_
        rintro e w4 ⟨a4, c4, rfl, ho4, hb4⟩
        have HS4 := Lib.hid (HS.out.ext hb4)
        have HO4 := Lib.hid ho4
        have HN4 := Lib.hid (HSN.out.ext hb4)
        clear ho4 hb4 HSN HS
        go_wp2_with fail
        refine (HS4.out.doC HE.out (t := ⟨nm, opW [120]⟩) HO4.out (opW_dat (by decide)) (by show nm.size ≤ _; omega)).mono ?_
        have hag := st_again HS4.out.ok HI.out (show [(120 : UInt8)].length ≤ 64 by decide)
        rw [hag.1]
        have HAG := Lib.hid hag.2
        clear hag
        rintro e w5 ⟨rfl, hS5, hf5⟩
        have HS5 := Lib.hid hS5
        have HN5 : Hid (SlE Enc.str (fun k => z ≤ k) w5 _ N) := Lib.hid (HN4.out.mono ⟨hf5.size, fun j hj hl => hf5.block j hl fun e => by have e : j = b := e; omega⟩)
        clear hS5 hf5 HN4 HS4
        go_wp2
        go_roundw
        case rel => exact ⟨k + 1, _, by omega, by omega, by go_num, HS5.out, by rw [HAG.out]; exact HNM.out, by rw [stDo_room]; exact HRM.out, HN5.out⟩
        case measure => simp [intOf]; omega
      · have hk6 : ¬ (k : Int) < 10 := by omega
        have hk5 : (k : Int) < N.length := by omega
        clear hn hrm hS
        clear hnm
        go_wp2_with fail
        refine (HS.out.getC ⟨#[98, 114, 97, 110, 100, 110, 101, 119]⟩ (by decide)).mono ?_
        rintro e w5 ⟨a5, c5, u5, q5, rfl, -, hb5, hS5⟩
        have HS5 := Lib.hid hS5
        clear hb5 hS5
        go_upto_region 15 with fail
        obtain ⟨w6, hw6⟩ : ∃ w6, w6 = w5.alloc (.cells #[.slice a5 (s.obj ⟨#[98, 114, 97, 110, 100, 110, 101, 119]⟩).data.length c5, .slice u5 (s.obj ⟨#[98, 114, 97, 110, 100, 110, 101, 119]⟩).keys.length q5, .int .i64 (s.obj ⟨#[98, 114, 97, 110, 100, 110, 101, 119]⟩).seq] 41) := ⟨_, rfl⟩
        rw [← hw6]
        have hb6 : Below w5.heap.size w5 w6 := by rw [hw6]; exact (Below.refl _ w5).alloc (Nat.le_refl _) _
        have HS6 := Lib.hid (HS5.out.ext hb6)
        clear hw6 hb6 HS5 HS
        go_wp2_with fail
        refine (write11_any _ _ _).mono ?_
        rintro e w7 ⟨a7, c7, rfl, ho7, hb7⟩
        have HS7 := Lib.hid (HS6.out.ext hb7)
        have HO7 := Lib.hid ho7
        clear ho7 hb7 HS6
        go_wp2_with fail
        refine (HS7.out.doC HE.out (t := ⟨⟨#[98, 114, 97, 110, 100, 110, 101, 119]⟩, opW [120]⟩) HO7.out (opW_dat (by decide)) (by decide)).mono ?_
        rintro e w8 ⟨rfl, hS8, -⟩
        have HS8 := Lib.hid hS8
        clear hS8
        cases hi : s.is ⟨#[98, 114, 97, 110, 100, 110, 101, 119]⟩ with
        | true =>
          rw [(st_again HS7.out.ok hi (show [(120 : UInt8)].length ≤ 64 by decide)).1]
          clear hi
          go_wp2
          go_ret
          exact ⟨rfl, HS8.out.bel⟩
        | false =>
          have hfr := st_fresh HS7.out.ok bnew_name hi (show [(120 : UInt8)].length ≤ 64 by decide)
          rw [hfr]
          clear hi hfr
          by_cases hl : s.l.length < s.room
          · rw [if_pos hl]
            have l1 : decide (N.length < m) = true := by have := HNL.out; have := HRM.out; simp; omega
            have l2 : decide ((N.length : Int) < m) = true := by have := HNL.out; have := HRM.out; simp; omega
            clear hl
            go_wp2
            go_ret
            exact ⟨rfl, HS8.out.bel⟩
          · rw [if_neg hl]
            have l1 : decide (N.length < m) = false := by have := HNL.out; have := HRM.out; simp; omega
            have l2 : decide ((N.length : Int) < m) = false := by have := HNL.out; have := HRM.out; simp; omega
            clear hl
            go_wp2
            go_ret
            exact ⟨rfl, HS8.out.bel⟩
    · have hk5 : ¬ (k : Int) < N.length := by omega
      clear hn hrm hS
      clear hnm
      go_wp2_with fail
      refine (HS.out.getC ⟨#[98, 114, 97, 110, 100, 110, 101, 119]⟩ (by decide)).mono ?_
      rintro e w5 ⟨a5, c5, u5, q5, rfl, -, hb5, hS5⟩
      have HS5 := Lib.hid hS5
      clear hb5 hS5
      go_upto_region 15 with fail
      obtain ⟨w6, hw6⟩ : ∃ w6, w6 = w5.alloc (.cells #[.slice a5 (s.obj ⟨#[98, 114, 97, 110, 100, 110, 101, 119]⟩).data.length c5, .slice u5 (s.obj ⟨#[98, 114, 97, 110, 100, 110, 101, 119]⟩).keys.length q5, .int .i64 (s.obj ⟨#[98, 114, 97, 110, 100, 110, 101, 119]⟩).seq] 41) := ⟨_, rfl⟩
      rw [← hw6]
      have hb6 : Below w5.heap.size w5 w6 := by rw [hw6]; exact (Below.refl _ w5).alloc (Nat.le_refl _) _
      have HS6 := Lib.hid (HS5.out.ext hb6)
      clear hw6 hb6 HS5 HS
      go_wp2_with fail
      refine (write11_any _ _ _).mono ?_
      rintro e w7 ⟨a7, c7, rfl, ho7, hb7⟩
      have HS7 := Lib.hid (HS6.out.ext hb7)
      have HO7 := Lib.hid ho7
      clear ho7 hb7 HS6
      go_wp2_with fail
      refine (HS7.out.doC HE.out (t := ⟨⟨#[98, 114, 97, 110, 100, 110, 101, 119]⟩, opW [120]⟩) HO7.out (opW_dat (by decide)) (by decide)).mono ?_
      rintro e w8 ⟨rfl, hS8, -⟩
      have HS8 := Lib.hid hS8
      clear hS8
      cases hi : s.is ⟨#[98, 114, 97, 110, 100, 110, 101, 119]⟩ with
      | true =>
        rw [(st_again HS7.out.ok hi (show [(120 : UInt8)].length ≤ 64 by decide)).1]
        clear hi
        go_wp2
        go_ret
        exact ⟨rfl, HS8.out.bel⟩
      | false =>
        have hfr := st_fresh HS7.out.ok bnew_name hi (show [(120 : UInt8)].length ≤ 64 by decide)
        rw [hfr]
        clear hi hfr
        by_cases hl : s.l.length < s.room
        · rw [if_pos hl]
          have l1 : decide (N.length < m) = true := by have := HNL.out; have := HRM.out; simp; omega
          have l2 : decide ((N.length : Int) < m) = true := by have := HNL.out; have := HRM.out; simp; omega
          clear hl
          go_wp2
          go_ret
          exact ⟨rfl, HS8.out.bel⟩
        · rw [if_neg hl]
          have l1 : decide (N.length < m) = false := by have := HNL.out; have := HRM.out; simp; omega
          have l2 : decide ((N.length : Int) < m) = false := by have := HNL.out; have := HRM.out; simp; omega
          clear hl
          go_wp2
          go_ret
          exact ⟨rfl, HS8.out.bel⟩
end Go.Proofs.YtohfckkgmijlnaaGreatDoor
