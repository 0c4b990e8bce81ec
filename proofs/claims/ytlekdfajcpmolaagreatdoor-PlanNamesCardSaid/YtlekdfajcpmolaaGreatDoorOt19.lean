/- The walks of objmap.Check, Pack. -/
import Derived.Test.YtlekdfajcpmolaaGreatDoorOs19
import Derived.Test.YtlekdfajcpmolaaGreatDoorGAF
import Derived.Test.YtlekdfajcpmolaaGreatDoorPut
namespace Go.Proofs.YtlekdfajcpmolaaGreatDoor
open Go.RowKit Go.WideShapes

theorem anI_hit (p : Int → Bool) {l : List Int} {k : Nat} (hk : k < l.length) (h : p (l.getD k 0) = true) : l.any p = true := by
  rw [List.any_eq_true]
  rw [List.getD_eq_getElem?_getD, List.getElem?_eq_getElem hk] at h
  exact ⟨_, List.getElem_mem hk, h⟩
theorem anI_miss (p : Int → Bool) {l : List Int} (h : ∀ j, j < l.length → p (l.getD j 0) = false) : l.any p = false := by
  rw [List.any_eq_false]
  intro x hx
  obtain ⟨j, hj, rfl⟩ := List.getElem_of_mem hx
  have := h j hj
  rw [List.getD_eq_getElem?_getD, List.getElem?_eq_getElem hj] at this
  simpa using this
def wrongB (n : Int) : Bool := !decide (0 ≤ n ∧ n ≤ 2)
def notZ (n : Int) : Bool := decide (n ≠ 0)
theorem check1_any (n : Int) (w : World) : Calls Tryz.prog 190 #[.int .i64 n] w fun e w' => e = .returned (.bool (wrongB n)) ∧ w = w' := by
  have HW : Hid (wrongB n = !decide (0 ≤ n ∧ n ≤ 2)) := Lib.hid rfl
  cases hd : decide (0 ≤ n ∧ n ≤ 2)
  all_goals
    have HD := Lib.hid hd
    clear hd
    go_enter Tryz.func190, Tryz.ntmps190
    go_wp2_with fail
    refine (mright_any n _).mono ?_
    rw [HD.out]
    rintro e w1 ⟨rfl, rfl⟩
    go_wp2
    go_ret
    exact ⟨by rw [HW.out, HD.out]; rfl, rfl⟩
set_option maxRecDepth 100000 in
set_option maxHeartbeats 1600000 in
theorem idxC_any (A : Nat → Prop) (a : Option Addr) (c : Nat) (l : List Int) (w : World) (hv : IntsA A w (.slice a l.length c) l) (hl : l.length ≤ 1000000) :
    Calls Tryz.prog 211 #[.slice a l.length c, .func (.func 190) #[] #[]] w fun e w' => (∃ r : Int, e = .returned (.int .i64 r) ∧ l.any (wrongB) = decide (0 ≤ r)) ∧ w = w' := by
  have HV := Lib.hid hv
  clear hv
  go_enter Tryz.func211, Tryz.ntmps211
  go_wp2
  go_loop [8] (fun q => ∃ k : Nat, k ≤ l.length ∧ q = .int .i64 k ∧ ∀ j, j < k → (wrongB) (l.getD j 0) = false) (fun q => l.length - (intOf q).toNat)
  case atStart => exact ⟨0, Nat.zero_le _, rfl, fun j hj => by omega⟩
  case round =>
    obtain ⟨k, hk, rfl, hall⟩ := hrel
    have HA := Lib.hid hall
    clear hall
    by_cases hlt : k < l.length
    · obtain ⟨b, off, rfl, hbl, -, hc⟩ := Ints.at HV.out hlt
      have HM := fun h => Lib.hid (anI_hit (wrongB) hlt h)
      obtain ⟨x, hx⟩ : ∃ x, l.getD k 0 = x := ⟨_, rfl⟩
      have HX := Lib.hid hx
      rw [hx] at hc HM
      clear hx
      cases hp : (wrongB) x
      · have HP := Lib.hid hp
        clear HM hp
        go_wp2_with fail
        refine (show Calls Tryz.prog 190 #[.int .i64 x] _ _ from check1_any x _).mono ?_
        rw [HP.out]
        rintro e w1 ⟨rfl, rfl⟩
        go_wp2
        go_round
        case rel => exact ⟨k + 1, by omega, by go_num, fun j hj => by
          rcases Nat.lt_or_ge j k with g | g
          · exact HA.out j g
          · obtain rfl : j = k := by omega
            rw [HX.out]
            exact HP.out⟩
        case measure => simp [intOf]; omega
      · have HP := Lib.hid hp
        have HM2 := HM hp
        clear HM hp
        go_wp2_with fail
        refine (show Calls Tryz.prog 190 #[.int .i64 x] _ _ from check1_any x _).mono ?_
        rw [HP.out]
        rintro e w1 ⟨rfl, rfl⟩
        go_wp2
        go_ret
        exact ⟨⟨_, rfl, by rw [HM2.out]; simp⟩, rfl⟩
    · obtain rfl : k = l.length := by omega
      have HM := Lib.hid (anI_miss (wrongB) (l := l) HA.out)
      go_wp2
      go_ret
      exact ⟨⟨_, rfl, by rw [HM.out]; rfl⟩, rfl⟩
set_option maxRecDepth 100000 in
theorem contC_any (A : Nat → Prop) (a : Option Addr) (c : Nat) (l : List Int) (w : World) (hv : IntsA A w (.slice a l.length c) l) (hl : l.length ≤ 1000000) :
    Calls Tryz.prog 189 #[.slice a l.length c, .func (.func 190) #[] #[]] w fun e w' => e = .returned (.bool (l.any (wrongB))) ∧ w = w' := by
  have HV := Lib.hid hv
  clear hv
  go_enter Tryz.func189, Tryz.ntmps189
  go_wp2_with fail
  refine (idxC_any A a c l _ HV.out hl).mono ?_
  rintro e w1 ⟨⟨r, rfl, hr⟩, rfl⟩
  have HR := Lib.hid hr
  clear hr
  go_wp2
  go_ret
  exact ⟨by rw [HR.out]; rfl, rfl⟩
theorem mMay_any (m : List Int) : mMay m = (!m.any wrongB && decide (m.length ≤ 512) && (decide (m.length = 0) || decide (m.getD (m.length - 1) 0 ≠ 0))) := by
  unfold mMay
  have e : (m.all fun s => decide (0 ≤ s ∧ s ≤ 2)) = !m.any wrongB := by
    rw [List.all_eq_not_any_not]
    rfl
  rw [e]
  congr 2
  cases m <;> simp
set_option maxRecDepth 100000 in
set_option maxHeartbeats 1600000 in
theorem pcheck_any (A : Nat → Prop) (a : Option Addr) (c : Nat) (m : List Int) (w : World) (hv : IntsA A w (.slice a m.length c) m) (hl : m.length ≤ 1000000) : Calls Tryz.prog 155 #[.slice a m.length c] w (fun e w' => e = .returned (.bool (mMay m)) ∧ w = w') := by
  have HM := Lib.hid (mMay_any m)
  have HC := Lib.hid (contC_any A a c m w hv hl)
  by_cases h5 : m.length ≤ 512
  · have h5i : (m.length : Int) ≤ 512 := by omega
    cases hc : m.any wrongB
    · have HCC := Lib.hid hc
      by_cases h0 : m.length = 0
      · have HR : Hid (mMay m = true) := Lib.hid (by rw [HM.out, hc]; simp [h0])
        have h0b : ((m.length : Int) == 0) = true := by simp [h0]
        clear h0 hc hv
        go_enter Tryz.func155, Tryz.ntmps155
        go_wp2_with fail
        refine HC.out.mono ?_
        rw [HCC.out]
        rintro e w1 ⟨rfl, rfl⟩
        go_wp2
        go_ret
        exact ⟨by rw [HR.out]; rfl, rfl⟩
      · have h0b : ((m.length : Int) == 0) = false := beq_eq_false_iff_ne.2 (by omega)
        obtain ⟨b, off, rfl, hbl, -, hcl⟩ := Ints.at hv (i := m.length - 1) (by omega)
        have hw1 : IntKind.i64.wrap ((m.length : Int) - 1) = ((m.length - 1 : Nat) : Int) := by rw [IntKind.wrap_i64]; omega
        have hw2 : (m.length : Int) - 1 = ((m.length - 1 : Nat) : Int) := by omega
        obtain ⟨x, hx⟩ : ∃ x, m.getD (m.length - 1) 0 = x := ⟨_, rfl⟩
        have HR : Hid (mMay m = (x != 0)) := Lib.hid (by
          rw [HM.out, hx, hc]
          by_cases e : x = 0
          · simp [e, h0]
          · simp [e, h5])
        rw [hx] at hcl
        have hj1 : ((m.length - 1 : Nat) : Int) < m.length := by omega
        clear hx h0 hc hv
        generalize m.length - 1 = j at *
        go_enter Tryz.func155, Tryz.ntmps155
        go_wp2_with fail
        refine HC.out.mono ?_
        rw [HCC.out]
        rintro e w1 ⟨rfl, rfl⟩
        go_wp2
        go_ret
        exact ⟨by rw [HR.out]; rfl, rfl⟩
    · have HCC := Lib.hid hc
      have HR : Hid (mMay m = false) := Lib.hid (by rw [HM.out, hc]; simp)
      clear hc hv
      go_enter Tryz.func155, Tryz.ntmps155
      go_wp2_with fail
      refine HC.out.mono ?_
      rw [HCC.out]
      rintro e w1 ⟨rfl, rfl⟩
      go_wp2
      go_ret
      exact ⟨by rw [HR.out]; rfl, rfl⟩
  · have h5i : (512 : Int) < m.length := by omega
    have HR : Hid (mMay m = false) := Lib.hid (by rw [HM.out]; simp; omega)
    clear h5 hv
    go_enter Tryz.func155, Tryz.ntmps155
    go_wp2
    go_ret
    exact ⟨by rw [HR.out]; rfl, rfl⟩

/-! Pack -/
theorem or_u8 : ∀ t : Fin 4, ∀ s : Fin 3, ∀ o : Fin 64, o.val < 4 ^ t.val → bits .or .u8 ((o.val : Nat) : Int) ((s.val * 4 ^ t.val : Nat) : Int) = ((o.val + s.val * 4 ^ t.val : Nat) : Int) := by decide +kernel
theorem take_getD (r : List Int) (k j : Nat) : (r.take k).getD j 0 = if j < k then r.getD j 0 else 0 := by
  rw [List.getD_eq_getElem?_getD, List.getElem?_take]
  split
  · rw [← List.getD_eq_getElem?_getD]
  · rfl
theorem mCell_step (r : List Int) (k : Nat) (q : Nat) : mCell (r.take (k + 1)) q = if q = k / 4 then mCell (r.take k) q + (r.getD k 0).toNat * 4 ^ (k % 4) else mCell (r.take k) q := by
  unfold mCell
  simp only [take_getD]
  have h4 : k % 4 = 0 ∨ k % 4 = 1 ∨ k % 4 = 2 ∨ k % 4 = 3 := by omega
  by_cases hq : q = k / 4
  · rw [if_pos hq]
    subst hq
    rcases h4 with h | h | h | h
    · have e : 4 * (k / 4) = k := by omega
      rw [h, e, if_pos (by omega), if_neg (by omega), if_neg (by omega), if_neg (by omega), if_neg (by omega), if_neg (by omega), if_neg (by omega), if_neg (by omega)]
      simp
    · have e : 4 * (k / 4) + 1 = k := by omega
      rw [h, e, if_pos (show 4 * (k / 4) < k + 1 by omega), if_pos (show k < k + 1 by omega), if_pos (show 4 * (k / 4) < k by omega), if_neg (show ¬ k < k by omega), if_neg (show ¬ 4 * (k / 4) + 2 < k + 1 by omega), if_neg (show ¬ 4 * (k / 4) + 3 < k + 1 by omega), if_neg (show ¬ 4 * (k / 4) + 2 < k by omega), if_neg (show ¬ 4 * (k / 4) + 3 < k by omega)]
      simp
      omega
    · have e : 4 * (k / 4) + 2 = k := by omega
      rw [h, e, if_pos (show 4 * (k / 4) < k + 1 by omega), if_pos (show 4 * (k / 4) + 1 < k + 1 by omega), if_pos (show k < k + 1 by omega), if_pos (show 4 * (k / 4) < k by omega), if_pos (show 4 * (k / 4) + 1 < k by omega), if_neg (show ¬ k < k by omega), if_neg (show ¬ 4 * (k / 4) + 3 < k + 1 by omega), if_neg (show ¬ 4 * (k / 4) + 3 < k by omega)]
      simp
      omega
    · have e : 4 * (k / 4) + 3 = k := by omega
      rw [h, e, if_pos (show 4 * (k / 4) < k + 1 by omega), if_pos (show 4 * (k / 4) + 1 < k + 1 by omega), if_pos (show 4 * (k / 4) + 2 < k + 1 by omega), if_pos (show k < k + 1 by omega), if_pos (show 4 * (k / 4) < k by omega), if_pos (show 4 * (k / 4) + 1 < k by omega), if_pos (show 4 * (k / 4) + 2 < k by omega), if_neg (show ¬ k < k by omega)]
      simp
      omega
  · rw [if_neg hq]
    have f : ∀ t, t < 4 → ((4 * q + t < k + 1) ↔ (4 * q + t < k)) := fun t ht => by omega
    have f0 := f 0 (by omega)
    simp only [Nat.add_zero] at f0
    simp only [f0, f 1 (by omega), f 2 (by omega), f 3 (by omega)]
theorem mCell_low {r : List Int} (hr : ∀ s ∈ r, 0 ≤ s ∧ s ≤ 2) (k : Nat) : mCell (r.take k) (k / 4) < 4 ^ (k % 4) := by
  have g := may_getD hr
  unfold mCell
  simp only [take_getD]
  have h4 : k % 4 = 0 ∨ k % 4 = 1 ∨ k % 4 = 2 ∨ k % 4 = 3 := by omega
  have g0 := g (4 * (k / 4))
  have g1 := g (4 * (k / 4) + 1)
  have g2 := g (4 * (k / 4) + 2)
  rcases h4 with h | h | h | h
  · rw [h, if_neg (by omega), if_neg (by omega), if_neg (by omega), if_neg (by omega)]
    decide
  · rw [h, if_pos (by omega), if_neg (by omega), if_neg (by omega), if_neg (by omega)]
    simp only [Int.toNat_zero, Nat.mul_zero, Nat.add_zero, Nat.reducePow]
    omega
  · rw [h, if_pos (by omega), if_pos (by omega), if_neg (by omega), if_neg (by omega)]
    simp only [Int.toNat_zero, Nat.mul_zero, Nat.add_zero, Nat.reducePow]
    omega
  · rw [h, if_pos (by omega), if_pos (by omega), if_pos (by omega), if_neg (by omega)]
    simp only [Int.toNat_zero, Nat.mul_zero, Nat.add_zero, Nat.reducePow]
    omega
/-- the bytes, in the round k -/
def mpL (r : List Int) (k : Nat) : List UInt8 := UInt8.ofNat (r.length / 256) :: UInt8.ofNat (r.length % 256) :: (List.range ((r.length + 3) / 4)).map fun q => UInt8.ofNat (mCell (r.take k) q)
theorem mpL_all (r : List Int) : mpL r r.length = mPackR r := by unfold mpL mPackR; rw [List.take_length]
theorem mpL_len (r : List Int) (k : Nat) : (mpL r k).length = 2 + (r.length + 3) / 4 := by simp [mpL]; omega
theorem mpL_zero (r : List Int) : mpL r 0 = ((List.replicate (2 + (r.length + 3) / 4) (0 : UInt8)).set 0 (UInt8.ofNat (r.length / 256))).set 1 (UInt8.ofNat (r.length % 256)) := by
  rw [show 2 + (r.length + 3) / 4 = (r.length + 3) / 4 + 1 + 1 by omega, List.replicate_succ, List.replicate_succ]
  unfold mpL
  simp only [List.set_cons_zero, List.set_cons_succ, List.cons.injEq, true_and]
  apply List.ext_getElem (by simp)
  intro i h1 h2
  simp [mCell]
theorem mpL_at (r : List Int) (k : Nat) (hk : k < r.length) : (mpL r k)[2 + k / 4]? = some (UInt8.ofNat (mCell (r.take k) (k / 4))) := by
  rw [show 2 + k / 4 = k / 4 + 1 + 1 by omega]
  unfold mpL
  rw [List.getElem?_cons_succ, List.getElem?_cons_succ, List.getElem?_map, List.getElem?_range (by omega)]
  rfl
theorem mpL_set (r : List Int) (k : Nat) : (mpL r k).set (2 + k / 4) (UInt8.ofNat (mCell (r.take k) (k / 4) + (r.getD k 0).toNat * 4 ^ (k % 4))) = mpL r (k + 1) := by
  rw [show 2 + k / 4 = k / 4 + 1 + 1 by omega]
  unfold mpL
  rw [List.set_cons_succ, List.set_cons_succ]
  congr 2
  apply List.ext_getElem (by simp)
  intro i h1 h2
  rw [List.getElem_set]
  simp only [List.getElem_map, List.getElem_range]
  rw [mCell_step r k i]
  by_cases e : i = k / 4
  · rw [if_pos e.symm, if_pos e, e]
  · rw [if_neg (fun h => e h.symm), if_neg e]
end Go.Proofs.YtlekdfajcpmolaaGreatDoor
