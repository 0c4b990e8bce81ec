/- The walk of terrazzolaw11.StoreNames. -/
import Derived.Test.YtohfckkgmijlnaaGreatDoorGp11
import Derived.Test.YtohfckkgmijlnaaGreatDoorPK
namespace Go.Proofs.YtohfckkgmijlnaaGreatDoor
open Go.RowKit Go.Maps Go.WideShapes
attribute [local go_sem ↓] Go.wp_at_zero Go.wp_at_succ

/-- how many of the first n names begin so -/
def cntN (f : ByteArray) (N : List ByteArray) (n : Nat) : Nat := ((N.take n).filter fun x => preS f x).length
theorem cntN_succ (f : ByteArray) {N : List ByteArray} {n : Nat} (h : n < N.length) : (preS f N[n] = true → cntN f N (n + 1) = cntN f N n + 1) ∧ (preS f N[n] = false → cntN f N (n + 1) = cntN f N n) := by
  have h2 := filter_take_succ (fun x => preS f x) N n h
  unfold cntN
  constructor
  · intro hp; rw [h2, if_pos hp]
  · intro hp; rw [h2, hp]; simp
theorem cntN_at (f : ByteArray) {N : List ByteArray} {n : Nat} (h : n < N.length) (hp : preS f N[n] = true) : (N.filter fun x => preS f x)[cntN f N n]? = some N[n] := filter_at (fun x => preS f x) N n h hp
theorem cntN_all (f : ByteArray) (N : List ByteArray) : cntN f N N.length = (N.filter fun x => preS f x).length := by
  unfold cntN
  rw [List.take_length]
set_option maxRecDepth 100000 in
set_option maxHeartbeats 8000000 in
theorem names_law (v : Value) (l : List TxD) (first : ByteArray) (w : World) (hE : ErrT w) (hl : SlE Enc.txn (fun b => b < w.heap.size) w v l) :
    Calls Tryz.prog 8 #[v, .string first] w (Says true w) := by
  obtain ⟨va, vc, rfl⟩ := hl.shape
  have HL := Lib.hid hl
  have HE := Lib.hid hE
  clear hl hE
  go_enter Tryz.func8, Tryz.ntmps8
  go_wp2_with fail
  refine (awake11_any _ HE.out).mono ?_
  rintro e w1 ⟨rfl, hb1⟩
  have HW1 := Lib.hid hb1
  clear hb1
  by_cases h1 : 50 < first.size
  · have h1' : (50 : Int) < first.size := by omega
    go_wp2
    go_ret
    exact ⟨rfl, HW1.out⟩
  have h1d : decide ((50 : Int) < first.size) = false := by simp; omega
  have h1e : decide (50 < first.size) = false := by simp; omega
  clear h1
  go_wp2_with fail
  refine (behind_any w w1 HW1.out HE.out 100 _ l HL.out).mono ?_
  rintro e w2 ⟨p, b, s, rfl, hS, hroom, hlen⟩
  have HS := Lib.hid hS
  have HLN := Lib.hid hlen
  clear hS hroom hlen HW1
  go_wp2_with fail
  refine (HS.out.namesC ⟨#[]⟩).mono ?_
  rw [namesP_all]
  rintro e w3 ⟨a3, c3, rfl, hn3, -, hS3⟩
  have HS3 := Lib.hid hS3
  have HN3 := Lib.hid hn3
  clear hn3 hS3 HS
  go_wp2_with fail
  refine (HS3.out.namesC first).mono ?_
  rw [namesP_filter]
  rintro e w4 ⟨a4, c4, rfl, hn4, hb4, hS4⟩
  have HS4 := Lib.hid hS4
  have hA4 := HN3.out.ext hb4
  have hM : ∀ n ∈ allN s.l, s.is n = true ∧ n.size ≤ 12 := fun n hn => ⟨is_of_mem hn, nameB_size (nm_of_is HS3.out.ok (is_of_mem hn))⟩
  have hL : (allN s.l).length = s.l.length := by simp [allN]
  obtain ⟨N, hN⟩ : ∃ N, N = allN s.l := ⟨_, rfl⟩
  have hU : ∀ i (h : i + 1 < N.length), ltS (N[i]'(by omega)) N[i + 1] = true := by
    subst hN
    exact fun i h => allN_up HS3.out.ok.up h
  rw [← hN] at hn4 hA4 hM hL ⊢
  have HN4 := Lib.hid hn4
  have HA4 := Lib.hid hA4
  have HMEM := Lib.hid hM
  have HUP := Lib.hid hU
  have HNL := Lib.hid hL
  have hnb : N.length ≤ 1000 := by have := HLN.out; omega
  have HML : Hid ((N.filter fun x => preS first x).length ≤ 1000) := Lib.hid (by
    have := List.length_filter_le (fun x => preS first x) N
    have := HLN.out
    omega)
  clear hn4 hb4 hS4 hA4 hM hU hL hN HS3 HN3
  go_wp2_with fail
  go_loopw [9, 10] (fun k i wr => ∃ n : Nat, n ≤ N.length ∧ i = .int .i64 n ∧ k = .int .i64 (cntN first N n : Nat) ∧ Below w4.heap.size w4 wr) (fun _ i _ => N.length - (intOf i).toNat)
  case atStart => exact ⟨0, Nat.zero_le _, rfl, rfl, Below.refl _ _⟩
  case round =>
    obtain ⟨n, hn, rfl, rfl, hbr⟩ := hrel
    have HSr := Lib.hid (HS4.out.ext hbr)
    by_cases hlt : n < N.length
    · obtain ⟨g, off, rfl, hg, c0, -⟩ := Strs.at (HA4.out.ext hbr) hlt
      have hnm := HMEM.out N[n] (List.getElem_mem hlt)
      have hsz : (N[n]).size ≤ 1000000 := by omega
      have HI := Lib.hid hnm.1
      have HCS := Lib.hid (cntN_succ first hlt)
      have HCA : Hid (preS first N[n] = true → _) := Lib.hid (cntN_at first hlt)
      have HRS : Hid (∀ i, i + 1 = n → ∃ pn, wr.cell? ⟨g, off + i, none⟩ = some (.string pn) ∧ (Op.bytesLess (N[n]).toList pn.toList || (N[n]).toList == pn.toList) = false) := Lib.hid (by
        intro i hi
        subst hi
        obtain ⟨g', off', e', -, c0', -⟩ := Strs.at (HA4.out.ext hbr) (i := i) (by omega)
        simp only [Option.some.injEq, Addr.mk.injEq] at e'
        obtain ⟨rfl, rfl, -⟩ := e'
        exact ⟨_, c0', ltS_leq (HUP.out i hlt)⟩)
      generalize N[n] = nm at *
      have hk5 : (0 : Int) ≤ n := by omega
      have hkl5 : (n : Int) < N.length := by omega
      clear hnm
      go_wp2_with fail
      refine (HSr.out.getC nm hsz).mono ?_
      rw [HI.out]
      rintro e w5 ⟨a5, c5, u5, q5, rfl, -, hb5, -⟩
      go_upto_region 14 with fail
      obtain ⟨w6, hw6⟩ : ∃ w6, w6 = w5.alloc (.cells #[.slice a5 (s.obj nm).data.length c5, .slice u5 (s.obj nm).keys.length q5, .int .i64 (s.obj nm).seq] 41) := ⟨_, rfl⟩
      rw [← hw6]
      have hb6 : Below wr.heap.size wr w6 := by rw [hw6]; exact below_nw hb5 _
      have d0 := cellExt hb6 c0
      clear hw6 hb5
      rcases Nat.eq_zero_or_pos n with h0 | hp
      · have g0 : decide ((0 : Int) < n) = false := by simp; omega
        have g1 : decide (0 < n) = false := by simp; omega
        clear h0
        go_quiet (fail)
        obtain ⟨w7, hw7⟩ : ∃ w7, w7 = w6.drewN nq := ⟨_, rfl⟩
        rw [← hw7]
        have hb7 : Below wr.heap.size wr w7 := by rw [hw7]; exact belowN hb6 _
        have d1 := cellExt hb7 c0
        have HA7 := Lib.hid (HN4.out.ext (hbr.trans (hb7.mono hbr.size)))
        have HB7 : Hid (Below w4.heap.size w4 w7) := Lib.hid (hbr.trans (hb7.mono hbr.size))
        clear hw7 d0 g0 g1
        by_cases hle : first.size ≤ nm.size
        · have hle2 : (first.size : Int) ≤ nm.size := by omega
          have hxe := eqL (nm.extract 0 first.size) first
          by_cases hx : nm.extract 0 first.size = first
          · have hxt : decide (nm.extract 0 first.size = first) = true := by simp [hx]
            rw [hxt] at hxe
            have hpy : preS first nm = true := by rw [preS_yes hle, hxt]
            obtain ⟨hcl, hcm⟩ := List.getElem?_eq_some_iff.1 (HCA.out hpy)
            obtain ⟨g4, o4, rfl, hg4, k0, -⟩ := Strs.at HA7.out hcl
            rw [hcm] at k0
            have HC1 := Lib.hid (HCS.out.1 hpy)
            have hc5 : (0 : Int) ≤ (cntN first N n : Nat) := by omega
            have hc6 : ((cntN first N n : Nat) : Int) < (N.filter fun x => preS first x).length := by omega
            have hc7 : decide (((N.filter fun x => preS first x).length : Nat) ≤ cntN first N n) = false := by simp; omega
            have hc8 : decide ((((N.filter fun x => preS first x).length : Nat) : Int) ≤ (cntN first N n : Nat)) = false := by simp; omega
            have hc9 : cntN first N n ≤ 100000 := by have := HML.out; omega
            clear hx hxt hpy hcm hcl hb7 hbr
            go_upto_region 17 with fail
            go_quiet (fail)
            go_wp2
            go_roundw
            case rel => exact ⟨n + 1, by omega, by go_num, by rw [HC1.out]; go_num, HB7.out.trans (by ((repeat' (first | exact Below.refl _ _ | refine below_drewN ?_ _ | refine Below.drew ?_ | refine Below.alloc ?_ ?_ _ | refine Below.trans ?_ (Below.mono (by assumption) ?_))); all_goals (first | exact Nat.le_refl _ | exact Below.size (by assumption) | omega | (simp; done) | (simp; omega))))⟩
            case measure => simp [intOf]; omega
          · have hxt : decide (nm.extract 0 first.size = first) = false := by simp [hx]
            rw [hxt] at hxe
            have HC1 := Lib.hid (HCS.out.2 (by rw [preS_yes hle, hxt]))
            clear hx hxt hb7 hbr
            go_wp2
            go_roundw
            case rel => exact ⟨n + 1, by omega, by go_num, by rw [HC1.out], HB7.out⟩
            case measure => simp [intOf]; omega
        · have hle2 : (nm.size : Int) < first.size := by omega
          have HC1 := Lib.hid (HCS.out.2 (preS_no (by omega)))
          clear hle hb7 hbr
          go_wp2
          go_roundw
          case rel => exact ⟨n + 1, by omega, by go_num, by rw [HC1.out], HB7.out⟩
          case measure => simp [intOf]; omega
      · obtain ⟨i, hi⟩ : ∃ i, i + 1 = n := ⟨n - 1, by omega⟩
        obtain ⟨pn, z0, hz⟩ := HRS.out i hi
        have z1 := cellExt hb6 z0
        have hw1 : IntKind.i64.wrap ((n : Int) - 1) = (i : Int) := by rw [IntKind.wrap_i64]; omega
        have hil : (i : Int) < N.length := by omega
        have g0 : decide ((0 : Int) < n) = true := by simp; omega
        have g1 : decide (0 < n) = true := by simp; omega
        clear hi z0
        go_quiet (fail)
        obtain ⟨w7, hw7⟩ : ∃ w7, w7 = w6.drewN nq := ⟨_, rfl⟩
        rw [← hw7]
        have hb7 : Below wr.heap.size wr w7 := by rw [hw7]; exact belowN hb6 _
        have d1 := cellExt hb7 c0
        have HA7 := Lib.hid (HN4.out.ext (hbr.trans (hb7.mono hbr.size)))
        have HB7 : Hid (Below w4.heap.size w4 w7) := Lib.hid (hbr.trans (hb7.mono hbr.size))
        clear hw7 d0 g0 g1 z1 hz hw1 hil
        by_cases hle : first.size ≤ nm.size
        · have hle2 : (first.size : Int) ≤ nm.size := by omega
          have hxe := eqL (nm.extract 0 first.size) first
          by_cases hx : nm.extract 0 first.size = first
          · have hxt : decide (nm.extract 0 first.size = first) = true := by simp [hx]
            rw [hxt] at hxe
            have hpy : preS first nm = true := by rw [preS_yes hle, hxt]
            obtain ⟨hcl, hcm⟩ := List.getElem?_eq_some_iff.1 (HCA.out hpy)
            obtain ⟨g4, o4, rfl, hg4, k0, -⟩ := Strs.at HA7.out hcl
            rw [hcm] at k0
            have HC1 := Lib.hid (HCS.out.1 hpy)
            have hc5 : (0 : Int) ≤ (cntN first N n : Nat) := by omega
            have hc6 : ((cntN first N n : Nat) : Int) < (N.filter fun x => preS first x).length := by omega
            have hc7 : decide (((N.filter fun x => preS first x).length : Nat) ≤ cntN first N n) = false := by simp; omega
            have hc8 : decide ((((N.filter fun x => preS first x).length : Nat) : Int) ≤ (cntN first N n : Nat)) = false := by simp; omega
            have hc9 : cntN first N n ≤ 100000 := by have := HML.out; omega
            clear hx hxt hpy hcm hcl hb7 hbr
            go_upto_region 17 with fail
            go_quiet (fail)
            go_wp2
            go_roundw
            case rel => exact ⟨n + 1, by omega, by go_num, by rw [HC1.out]; go_num, HB7.out.trans (by ((repeat' (first | exact Below.refl _ _ | refine below_drewN ?_ _ | refine Below.drew ?_ | refine Below.alloc ?_ ?_ _ | refine Below.trans ?_ (Below.mono (by assumption) ?_))); all_goals (first | exact Nat.le_refl _ | exact Below.size (by assumption) | omega | (simp; done) | (simp; omega))))⟩
            case measure => simp [intOf]; omega
          · have hxt : decide (nm.extract 0 first.size = first) = false := by simp [hx]
            rw [hxt] at hxe
            have HC1 := Lib.hid (HCS.out.2 (by rw [preS_yes hle, hxt]))
            clear hx hxt hb7 hbr
            go_wp2
            go_roundw
            case rel => exact ⟨n + 1, by omega, by go_num, by rw [HC1.out], HB7.out⟩
            case measure => simp [intOf]; omega
        · have hle2 : (nm.size : Int) < first.size := by omega
          have HC1 := Lib.hid (HCS.out.2 (preS_no (by omega)))
          clear hle hb7 hbr
          go_wp2
          go_roundw
          case rel => exact ⟨n + 1, by omega, by go_num, by rw [HC1.out], HB7.out⟩
          case measure => simp [intOf]; omega
    · obtain rfl : n = N.length := by omega
      have hca := cntN_all first N
      rw [hca]
      have hln := HSr.out.lenC
      rw [← HNL.out] at hln
      have HLC := Lib.hid hln
      clear hln hca hbr
      go_wp2_with fail
      refine HLC.out.mono ?_
      rintro e w' ⟨rfl, rfl⟩
      go_wp2
      go_ret
      exact ⟨rfl, HSr.out.bel⟩
end Go.Proofs.YtohfckkgmijlnaaGreatDoor
