/- The walk of terrazzolaw16.RpcOnce. -/
import Derived.Test.YtidikciankcopaaDoorAwk16
import Derived.Laws.BitsLemmas
namespace Go.Proofs.YtidikciankcopaaDoor
open Go.RowKit Go.WideShapes

theorem i64_mask (x : Int) (j : Nat) (hj : j < 63) : bits .and .i64 x (((2 ^ j - 1 : Nat) : Int)) = x % ((2 ^ j : Nat) : Int) := by
  have hm : 2 ^ j - 1 < 2 ^ 64 := Nat.lt_of_le_of_lt (Nat.sub_le _ _) (Nat.pow_lt_pow_right (by decide) (by omega))
  have hj' : 2 ^ j ≤ 2 ^ 62 := Nat.pow_le_pow_right (by decide) (by omega)
  have hp : 0 < 2 ^ j := Nat.two_pow_pos j
  have hd : ((2 ^ j : Nat) : Int) ∣ ((2 ^ 64 : Nat) : Int) := Int.natCast_dvd_natCast.2 (Nat.pow_dvd_pow 2 (by omega))
  have e1 : (BitVec.ofInt IntKind.i64.bits (((2 ^ j - 1 : Nat) : Int))).toNat = 2 ^ j - 1 := by
    rw [BitVec.ofInt_natCast, BitVec.toNat_ofNat]
    exact Nat.mod_eq_of_lt hm
  have e2 : ((BitVec.ofInt IntKind.i64.bits x).toNat : Int) = x % ((2 ^ 64 : Nat) : Int) := by
    rw [BitVec.toNat_ofInt]
    exact Int.toNat_of_nonneg (Int.emod_nonneg _ (by decide))
  have e3 : (((BitVec.ofInt IntKind.i64.bits x).toNat % 2 ^ j : Nat) : Int) = x % ((2 ^ j : Nat) : Int) := by
    rw [Int.natCast_emod, e2, Int.emod_emod_of_dvd _ hd]
  have h0 : 0 ≤ x % ((2 ^ j : Nat) : Int) := Int.emod_nonneg _ (by omega)
  have h1 : x % ((2 ^ j : Nat) : Int) < ((2 ^ j : Nat) : Int) := Int.emod_lt_of_pos _ (by omega)
  have e4 : bits .and .i64 x (((2 ^ j - 1 : Nat) : Int)) = IntKind.i64.wrap (((BitVec.ofInt IntKind.i64.bits x &&& BitVec.ofInt IntKind.i64.bits (((2 ^ j - 1 : Nat) : Int))).toNat : Nat) : Int) := rfl
  rw [e4, BitVec.toNat_and, e1, Nat.and_two_pow_sub_one_eq_mod, e3]
  refine IntWalk.i64_in _ ⟨by omega, ?_⟩
  have : ((2 ^ j : Nat) : Int) ≤ ((2 ^ 62 : Nat) : Int) := Int.ofNat_le.2 hj'
  have e5 : ((2 ^ 62 : Nat) : Int) = 4611686018427387904 := by decide
  omega
theorem and7 (x : Int) : ∃ i : Nat, i < 8 ∧ bits .and .i64 x 7 = (i : Int) ∧ x % 8 = i := by
  have h : bits .and .i64 x 7 = x % 8 := i64_mask x 3 (by omega)
  have h0 : 0 ≤ x % 8 := Int.emod_nonneg _ (by decide)
  have h1 : x % 8 < 8 := Int.emod_lt_of_pos _ (by decide)
  obtain ⟨i, hi⟩ := Int.eq_ofNat_of_zero_le h0
  exact ⟨i, by omega, h.trans hi, hi⟩
theorem and15 (x : Int) : ∃ i : Nat, i < 16 ∧ bits .and .i64 x 15 = (i : Int) := by
  have h : bits .and .i64 x 15 = x % 16 := i64_mask x 4 (by omega)
  have h0 : 0 ≤ x % 16 := Int.emod_nonneg _ (by decide)
  have h1 : x % 16 < 16 := Int.emod_lt_of_pos _ (by decide)
  obtain ⟨i, hi⟩ := Int.eq_ofNat_of_zero_le h0
  exact ⟨i, by omega, h.trans hi⟩
/-- the answer that is kept -/
def rO (who s : Nat) : RpD := ⟨who, 5, s, 0, 10 * (s : Int), 0, false, ObD.none⟩
def fO (who last : Nat) : Nat → Option RpD := fun j => if j = who then (if last = 0 then none else some (rO who last)) else none
theorem fO_ok (who last : Nat) (i : Nat) : ∀ r, fO who last i = some r → r.obj.okl := by
  intro r h
  unfold fO at h
  split at h
  · split at h
    · cases h
    · cases h
      exact ⟨by simp [rO, ObD.none], by simp [rO, ObD.none], by simp [rO, ObD.none]⟩
  · cases h
theorem fO_zero (who : Nat) : (fun _ => none) = fO who 0 := by
  funext j
  simp [fO]
theorem fO_put (who last s : Nat) (hs : 0 < s) : (fun j => if j = who then some (rO who s) else fO who last j) = fO who s := by
  funext j
  unfold fO
  by_cases h : j = who
  · rw [if_pos h, if_pos h, if_neg (by omega)]
  · rw [if_neg h, if_neg h, if_neg h]
theorem fO_at (who last : Nat) (h : 0 < last) : fO who last who = some (rO who last) := by
  unfold fO
  rw [if_pos rfl, if_neg (by omega)]
theorem lN0 (who last s : Nat) (h : last < s) : lookN (fO who last who) 5 ((s : Nat) : Int) = 0 := by
  rcases Nat.eq_zero_or_pos last with rfl | hl
  · rw [← fO_zero]; rfl
  · rw [fO_at who last hl]
    exact if_pos (.inr ⟨rfl, by show (last : Int) < s; omega⟩)
theorem lN1 (who s : Nat) (h : 0 < s) : lookN (fO who s who) 5 ((s : Nat) : Int) = 1 := by
  rw [fO_at who s h]
  exact (if_neg (by simp [rO])).trans (if_pos ⟨rfl, rfl⟩)
theorem lD1 (who s : Nat) (h : 0 < s) : lookD (fO who s who) 5 ((s : Nat) : Int) = rO who s := by
  unfold lookD
  rw [lN1 who s h, if_pos rfl, fO_at who s h]
  rfl
theorem lN2 (who last s : Nat) (h : s < last) : lookN (fO who last who) 5 ((s : Nat) : Int) = 2 := by
  rw [fO_at who last (by omega)]
  exact (if_neg (by simp [rO]; omega)).trans (if_neg (by simp [rO]; omega))
theorem lN4 (who last : Nat) (h : 0 < last) : lookN (fO who last who) 4 99 = 2 := by
  rw [fO_at who last h]
  simp [lookN, rO]
theorem lN6 (who last : Nat) (h : 0 < last) : lookN (fO who last who) 6 1 = 0 := by
  rw [fO_at who last h]
  simp [lookN, rO]
theorem lNo (who last i : Nat) (h : i ≠ who) : lookN (fO who last i) 1 1 = 0 := by
  unfold fO
  rw [if_neg h]
  rfl
/-- a look, in the walk's words -/
theorem look_O (lo : Nat) (w : World) (p i : Nat) (f : Nat → Option RpD) (life seq : Int) (h : IsC lo w p f) (hi : i < 8) (hok : ∀ r, f i = some r → r.obj.okl) :
    Calls Tryd.prog 25 #[.pointer (some ⟨p, 0, none⟩), .agg #[.int .i64 (i : Nat), .int .i64 life, .int .i64 seq, .int .i64 0, .int .i64 0, .int .i64 0, .int .i64 0, .string ByteArray.empty, .slice none 0 0]] w fun e w' =>
      ∃ (D : RpD) (a1 : Option Addr) (n1 c1 : Nat) (a2 : Option Addr) (n2 c2 : Nat), e = .returned (.tuple #[.int .i64 (lookN (f i) life seq : Nat), .agg #[.int .i64 D.client, .int .i64 D.life, .int .i64 D.seq, .int .i64 D.e, .int .i64 D.n, .int .i64 D.index, .bool D.there, .slice a1 n1 c1, .slice a2 n2 c2, .int .i64 D.obj.seq]]) ∧
        D = lookD (f i) life seq ∧ Below w.heap.size w w' := by
  refine (look_any lo w p i f ⟨i, life, seq, 0, 0, 0, 0, TxD.none⟩ (.slice none 0 0) rfl h hi rfl hok).mono ?_
  rintro e w' ⟨v, rfl, ⟨dv, kv, rfl, hd, hk⟩, hb⟩
  obtain ⟨a1, c1, rfl⟩ := hd.shape
  obtain ⟨a2, c2, rfl⟩ := hk.shape
  exact ⟨_, _, _, _, _, _, _, rfl, rfl, hb⟩
/-- a row of numbers that is handed in -/
structure PickR (w : World) (a : Option Addr) (n : Nat) (l : List Int) : Prop where
  len : l.length = n
  cell : ∀ k (hk : k < n), ∃ b off, a = some ⟨b, off, none⟩ ∧ w.cell? ⟨b, off + k, none⟩ = some (.int .i64 (l[k]'(by omega)))
set_option maxRecDepth 100000 in
set_option maxHeartbeats 4000000 in
theorem once_any (a : Option Addr) (n c : Nat) (l : List Int) (client : Int) (w : World) (hT : TabW w) (hg0 : 0 < w.heap.size) (hp : PickR w a n l) :
    Calls Tryd.prog 6 #[.slice a n c, .int .i64 client] w fun e w' => e = .returned (.bool true) ∧ Below w.heap.size w w' := by
  have HT := Lib.hid hT
  have HG := Lib.hid hg0
  have HP := Lib.hid hp
  clear hT hg0 hp
  go_enter Tryd.func6, Tryd.ntmps6
  go_wp2_with fail
  refine (awake_any _ HT.out HG.out).mono ?_
  rintro e w1 ⟨rfl, hb1⟩
  have HB1 := Lib.hid hb1
  have hs1 := hb1.size
  clear hb1
  by_cases hn : 100 < n
  · have hn' : (100 : Int) < n := by omega
    go_wp2
    go_ret
    exact ⟨rfl, HB1.out⟩
  · obtain ⟨who, hw8, hwho, -⟩ := and7 client
    obtain ⟨oth, ho8, hoth, hom⟩ := and7 ((who : Int) + 1)
    have HNE : Hid (oth ≠ who) := by
      show oth ≠ who
      omega
    have hn' : ¬ (100 : Int) < n := by omega
    clear hom
    go_wp2_with fail
    refine (cache_new _).mono ?_
    rintro e w2 ⟨rfl, hc2, hb2⟩
    rw [fO_zero who] at hc2
    have HC2 := Lib.hid hc2
    have HB2 : Hid (Below w.heap.size w w2) := HB1.out.trans (hb2.mono hs1)
    clear hc2 hb2
    go_wp2
    go_loopw [8, 9] (fun q0 q1 wr => ∃ (k last : Nat), k ≤ n ∧ last ≤ 16 ∧ q0 = .int .i64 last ∧ q1 = .int .i64 k ∧ IsC w1.heap.size wr w1.heap.size (fO who last) ∧ Below w.heap.size w wr) (fun _ q1 _ => n - (intOf q1).toNat)
    case atStart => exact ⟨0, 0, by omega, by omega, rfl, rfl, HC2.out, HB2.out⟩
    case round =>
      obtain ⟨k, last, hk, hl16, rfl, rfl, hc, hb⟩ := hrel
      have HC := Lib.hid hc
      have HBW := Lib.hid hb
      have hsr := hb.size
      clear hc hb HC2 HB2
      by_cases hlt : k < n
      · obtain ⟨b, off, rfl, hx⟩ := HP.out.cell k hlt
        have hx := cellB HBW.out (World.block_lt_of_cell? w _ hx) hx
        generalize l[k]'(by have := HP.out.len; omega) = x at *
        obtain ⟨s, hs16, hs⟩ := and15 x
        have hadd : (1 : Int) + (s : Int) = ((s + 1 : Nat) : Int) := by omega
        obtain ⟨q, hq⟩ : ∃ q, q = s + 1 := ⟨_, rfl⟩
        rw [← hq] at hadd
        have hq0 : 0 < q := by omega
        have hq16 : q ≤ 16 := by omega
        clear hq
        go_wp2_with fail
        rcases Nat.lt_trichotomy last q with hlq | hlq | hlq
        · refine (look_O w1.heap.size _ w1.heap.size who (fO who last) 5 q HC.out hw8 (fO_ok who last who)).mono ?_
          rintro e w3 ⟨D3, a1, n1, c1, a2, n2, c2, rfl, -, hb3⟩
          rw [lN0 who last q hlq]
          have hle : ¬ ((q : Nat) : Int) ≤ (last : Int) := by omega
          have HN0 := Lib.hid (lN0 who last q hlq)
          have HC3 := Lib.hid (HC.out.ext hb3)
          have HB3 := Lib.hid (HBW.out.trans (hb3.mono hsr))
          have hs3 := HB3.out.size
          have hs33 := hb3.size
          clear hb3
          go_wp2_with fail
          refine (keep_yes (fun _ => False) w1.heap.size _ w1.heap.size who (fO who last) (rO who q) _ ⟨.slice none 0 0, .slice none 0 0, rfl, RB.nil _ _, SlE.nil _ _ _⟩ ⟨by simp [rO, ObD.none], by simp [rO, ObD.none], by simp [rO, ObD.none]⟩ (HC3.out.ext (by ((repeat' (first | exact Below.refl _ _ | refine below_drewN ?_ _ | refine Below.drew ?_ | refine Below.alloc ?_ ?_ _ | refine Below.trans ?_ (Below.mono (by assumption) ?_))); all_goals (first | exact Nat.le_refl _ | exact Below.size (by assumption) | omega | (simp; done) | (simp; omega))))) hw8 rfl (fO_ok who last who) HN0.out).mono ?_
          rintro e wX ⟨rfl, hcX, hfX⟩
          rw [fO_put who last q hq0] at hcX
          have hL0 : 0 < q := hq0
          have hL16 : q ≤ 16 := hq16
          replace HC := Lib.hid hcX
          replace HBW : Hid (Below w.heap.size w wX) := Lib.hid ((HB3.out.trans (Below.mono (by ((repeat' (first | exact Below.refl _ _ | refine below_drewN ?_ _ | refine Below.drew ?_ | refine Below.alloc ?_ ?_ _ | refine Below.trans ?_ (Below.mono (by assumption) ?_))); all_goals (first | exact Nat.le_refl _ | exact Below.size (by assumption) | omega | (simp; done) | (simp; omega))) : Below w3.heap.size w3 _) hs3)).trans (hfX.below (by simp; omega) fun j hj e => by have e : j = w1.heap.size := e; omega))
          replace hsr := HBW.out.size
          clear hcX hfX HC3 HB3 hx HN0
          go_wp2_with fail
          refine (look_O w1.heap.size _ w1.heap.size who (fO who q) 4 99 (HC.out.ext (by ((repeat' (first | exact Below.refl _ _ | refine below_drewN ?_ _ | refine Below.drew ?_ | refine Below.alloc ?_ ?_ _ | refine Below.trans ?_ (Below.mono (by assumption) ?_))); all_goals (first | exact Nat.le_refl _ | exact Below.size (by assumption) | omega | (simp; done) | (simp; omega))))) hw8 (fO_ok who q who)).mono ?_
          rintro e w5 ⟨D5, a5, n5, c5, a5', n5', c5', rfl, -, hb5⟩
          rw [lN4 who q hL0]
          have hq5 : Below wX.heap.size wX w5 := by ((repeat' (first | exact Below.refl _ _ | refine below_drewN ?_ _ | refine Below.drew ?_ | refine Below.alloc ?_ ?_ _ | refine Below.trans ?_ (Below.mono (by assumption) ?_))); all_goals (first | exact Nat.le_refl _ | exact Below.size (by assumption) | omega | (simp; done) | (simp; omega)))
          replace HC := Lib.hid (HC.out.ext hq5)
          replace HBW := Lib.hid (HBW.out.trans (hq5.mono hsr))
          replace hsr := HBW.out.size
          clear hb5 hq5
          go_wp2_with fail
          refine (look_O w1.heap.size _ w1.heap.size who (fO who q) 6 1 (HC.out.ext (by ((repeat' (first | exact Below.refl _ _ | refine below_drewN ?_ _ | refine Below.drew ?_ | refine Below.alloc ?_ ?_ _ | refine Below.trans ?_ (Below.mono (by assumption) ?_))); all_goals (first | exact Nat.le_refl _ | exact Below.size (by assumption) | omega | (simp; done) | (simp; omega))))) hw8 (fO_ok who q who)).mono ?_
          rintro e w6 ⟨D6, a6, n6, c6, a6', n6', c6', rfl, -, hb5⟩
          rw [lN6 who q hL0]
          have hq5 : Below w5.heap.size w5 w6 := by ((repeat' (first | exact Below.refl _ _ | refine below_drewN ?_ _ | refine Below.drew ?_ | refine Below.alloc ?_ ?_ _ | refine Below.trans ?_ (Below.mono (by assumption) ?_))); all_goals (first | exact Nat.le_refl _ | exact Below.size (by assumption) | omega | (simp; done) | (simp; omega)))
          replace HC := Lib.hid (HC.out.ext hq5)
          replace HBW := Lib.hid (HBW.out.trans (hq5.mono hsr))
          replace hsr := HBW.out.size
          clear hb5 hq5
          go_wp2_with fail
          refine (look_O w1.heap.size _ w1.heap.size oth (fO who q) 1 1 (HC.out.ext (by ((repeat' (first | exact Below.refl _ _ | refine below_drewN ?_ _ | refine Below.drew ?_ | refine Below.alloc ?_ ?_ _ | refine Below.trans ?_ (Below.mono (by assumption) ?_))); all_goals (first | exact Nat.le_refl _ | exact Below.size (by assumption) | omega | (simp; done) | (simp; omega))))) ho8 (fO_ok who q oth)).mono ?_
          rintro e w7 ⟨D7, a7, n7, c7, a7', n7', c7', rfl, -, hb5⟩
          rw [lNo who q oth HNE.out]
          have hq5 : Below w6.heap.size w6 w7 := by ((repeat' (first | exact Below.refl _ _ | refine below_drewN ?_ _ | refine Below.drew ?_ | refine Below.alloc ?_ ?_ _ | refine Below.trans ?_ (Below.mono (by assumption) ?_))); all_goals (first | exact Nat.le_refl _ | exact Below.size (by assumption) | omega | (simp; done) | (simp; omega)))
          replace HC := Lib.hid (HC.out.ext hq5)
          replace HBW := Lib.hid (HBW.out.trans (hq5.mono hsr))
          replace hsr := HBW.out.size
          clear hb5 hq5
          go_wp2
          go_roundw
          case rel => exact ⟨k + 1, q, by omega, hL16, rfl, by go_num, HC.out.ext (by ((repeat' (first | exact Below.refl _ _ | refine below_drewN ?_ _ | refine Below.drew ?_ | refine Below.alloc ?_ ?_ _ | refine Below.trans ?_ (Below.mono (by assumption) ?_))); all_goals (first | exact Nat.le_refl _ | exact Below.size (by assumption) | omega | (simp; done) | (simp; omega)))), HBW.out.trans (Below.mono (by ((repeat' (first | exact Below.refl _ _ | refine below_drewN ?_ _ | refine Below.drew ?_ | refine Below.alloc ?_ ?_ _ | refine Below.trans ?_ (Below.mono (by assumption) ?_))); all_goals (first | exact Nat.le_refl _ | exact Below.size (by assumption) | omega | (simp; done) | (simp; omega))) : Below w7.heap.size w7 _) hsr)⟩
          case measure => simp [intOf]; omega
        · subst hlq
          have hL0 : 0 < last := hq0
          have hL16 : last ≤ 16 := hq16
          refine (look_O w1.heap.size _ w1.heap.size who (fO who last) 5 last HC.out hw8 (fO_ok who last who)).mono ?_
          rintro e w3 ⟨D3, a1, n1, c1, a2, n2, c2, rfl, hD, hb3⟩
          rw [lN1 who last hq0]
          rw [lD1 who last hq0] at hD
          subst hD
          simp only [rO, ObD.none]
          replace HC := Lib.hid (HC.out.ext hb3)
          replace HBW := Lib.hid (HBW.out.trans (hb3.mono hsr))
          replace hsr := HBW.out.size
          clear hb3 hx
          go_wp2_with fail
          refine (look_O w1.heap.size _ w1.heap.size who (fO who last) 4 99 (HC.out.ext (by ((repeat' (first | exact Below.refl _ _ | refine below_drewN ?_ _ | refine Below.drew ?_ | refine Below.alloc ?_ ?_ _ | refine Below.trans ?_ (Below.mono (by assumption) ?_))); all_goals (first | exact Nat.le_refl _ | exact Below.size (by assumption) | omega | (simp; done) | (simp; omega))))) hw8 (fO_ok who last who)).mono ?_
          rintro e w5 ⟨D5, a5, n5, c5, a5', n5', c5', rfl, -, hb5⟩
          rw [lN4 who last hL0]
          have hq5 : Below w3.heap.size w3 w5 := by ((repeat' (first | exact Below.refl _ _ | refine below_drewN ?_ _ | refine Below.drew ?_ | refine Below.alloc ?_ ?_ _ | refine Below.trans ?_ (Below.mono (by assumption) ?_))); all_goals (first | exact Nat.le_refl _ | exact Below.size (by assumption) | omega | (simp; done) | (simp; omega)))
          replace HC := Lib.hid (HC.out.ext hq5)
          replace HBW := Lib.hid (HBW.out.trans (hq5.mono hsr))
          replace hsr := HBW.out.size
          clear hb5 hq5
          go_wp2_with fail
          refine (look_O w1.heap.size _ w1.heap.size who (fO who last) 6 1 (HC.out.ext (by ((repeat' (first | exact Below.refl _ _ | refine below_drewN ?_ _ | refine Below.drew ?_ | refine Below.alloc ?_ ?_ _ | refine Below.trans ?_ (Below.mono (by assumption) ?_))); all_goals (first | exact Nat.le_refl _ | exact Below.size (by assumption) | omega | (simp; done) | (simp; omega))))) hw8 (fO_ok who last who)).mono ?_
          rintro e w6 ⟨D6, a6, n6, c6, a6', n6', c6', rfl, -, hb5⟩
          rw [lN6 who last hL0]
          have hq5 : Below w5.heap.size w5 w6 := by ((repeat' (first | exact Below.refl _ _ | refine below_drewN ?_ _ | refine Below.drew ?_ | refine Below.alloc ?_ ?_ _ | refine Below.trans ?_ (Below.mono (by assumption) ?_))); all_goals (first | exact Nat.le_refl _ | exact Below.size (by assumption) | omega | (simp; done) | (simp; omega)))
          replace HC := Lib.hid (HC.out.ext hq5)
          replace HBW := Lib.hid (HBW.out.trans (hq5.mono hsr))
          replace hsr := HBW.out.size
          clear hb5 hq5
          go_wp2_with fail
          refine (look_O w1.heap.size _ w1.heap.size oth (fO who last) 1 1 (HC.out.ext (by ((repeat' (first | exact Below.refl _ _ | refine below_drewN ?_ _ | refine Below.drew ?_ | refine Below.alloc ?_ ?_ _ | refine Below.trans ?_ (Below.mono (by assumption) ?_))); all_goals (first | exact Nat.le_refl _ | exact Below.size (by assumption) | omega | (simp; done) | (simp; omega))))) ho8 (fO_ok who last oth)).mono ?_
          rintro e w7 ⟨D7, a7, n7, c7, a7', n7', c7', rfl, -, hb5⟩
          rw [lNo who last oth HNE.out]
          have hq5 : Below w6.heap.size w6 w7 := by ((repeat' (first | exact Below.refl _ _ | refine below_drewN ?_ _ | refine Below.drew ?_ | refine Below.alloc ?_ ?_ _ | refine Below.trans ?_ (Below.mono (by assumption) ?_))); all_goals (first | exact Nat.le_refl _ | exact Below.size (by assumption) | omega | (simp; done) | (simp; omega)))
          replace HC := Lib.hid (HC.out.ext hq5)
          replace HBW := Lib.hid (HBW.out.trans (hq5.mono hsr))
          replace hsr := HBW.out.size
          clear hb5 hq5
          go_wp2
          go_roundw
          case rel => exact ⟨k + 1, last, by omega, hL16, rfl, by go_num, HC.out.ext (by ((repeat' (first | exact Below.refl _ _ | refine below_drewN ?_ _ | refine Below.drew ?_ | refine Below.alloc ?_ ?_ _ | refine Below.trans ?_ (Below.mono (by assumption) ?_))); all_goals (first | exact Nat.le_refl _ | exact Below.size (by assumption) | omega | (simp; done) | (simp; omega)))), HBW.out.trans (Below.mono (by ((repeat' (first | exact Below.refl _ _ | refine below_drewN ?_ _ | refine Below.drew ?_ | refine Below.alloc ?_ ?_ _ | refine Below.trans ?_ (Below.mono (by assumption) ?_))); all_goals (first | exact Nat.le_refl _ | exact Below.size (by assumption) | omega | (simp; done) | (simp; omega))) : Below w7.heap.size w7 _) hsr)⟩
          case measure => simp [intOf]; omega
        · have hL0 : 0 < last := by omega
          have hL16 : last ≤ 16 := hl16
          refine (look_O w1.heap.size _ w1.heap.size who (fO who last) 5 q HC.out hw8 (fO_ok who last who)).mono ?_
          rintro e w3 ⟨D3, a1, n1, c1, a2, n2, c2, rfl, -, hb3⟩
          rw [lN2 who last q hlq]
          have hge : ¬ (last : Int) ≤ ((q : Nat) : Int) := by omega
          replace HC := Lib.hid (HC.out.ext hb3)
          replace HBW := Lib.hid (HBW.out.trans (hb3.mono hsr))
          replace hsr := HBW.out.size
          clear hb3 hx
          go_wp2_with fail
          refine (look_O w1.heap.size _ w1.heap.size who (fO who last) 4 99 (HC.out.ext (by ((repeat' (first | exact Below.refl _ _ | refine below_drewN ?_ _ | refine Below.drew ?_ | refine Below.alloc ?_ ?_ _ | refine Below.trans ?_ (Below.mono (by assumption) ?_))); all_goals (first | exact Nat.le_refl _ | exact Below.size (by assumption) | omega | (simp; done) | (simp; omega))))) hw8 (fO_ok who last who)).mono ?_
          rintro e w5 ⟨D5, a5, n5, c5, a5', n5', c5', rfl, -, hb5⟩
          rw [lN4 who last hL0]
          have hq5 : Below w3.heap.size w3 w5 := by ((repeat' (first | exact Below.refl _ _ | refine below_drewN ?_ _ | refine Below.drew ?_ | refine Below.alloc ?_ ?_ _ | refine Below.trans ?_ (Below.mono (by assumption) ?_))); all_goals (first | exact Nat.le_refl _ | exact Below.size (by assumption) | omega | (simp; done) | (simp; omega)))
          replace HC := Lib.hid (HC.out.ext hq5)
          replace HBW := Lib.hid (HBW.out.trans (hq5.mono hsr))
          replace hsr := HBW.out.size
          clear hb5 hq5
          go_wp2_with fail
          refine (look_O w1.heap.size _ w1.heap.size who (fO who last) 6 1 (HC.out.ext (by ((repeat' (first | exact Below.refl _ _ | refine below_drewN ?_ _ | refine Below.drew ?_ | refine Below.alloc ?_ ?_ _ | refine Below.trans ?_ (Below.mono (by assumption) ?_))); all_goals (first | exact Nat.le_refl _ | exact Below.size (by assumption) | omega | (simp; done) | (simp; omega))))) hw8 (fO_ok who last who)).mono ?_
          rintro e w6 ⟨D6, a6, n6, c6, a6', n6', c6', rfl, -, hb5⟩
          rw [lN6 who last hL0]
          have hq5 : Below w5.heap.size w5 w6 := by ((repeat' (first | exact Below.refl _ _ | refine below_drewN ?_ _ | refine Below.drew ?_ | refine Below.alloc ?_ ?_ _ | refine Below.trans ?_ (Below.mono (by assumption) ?_))); all_goals (first | exact Nat.le_refl _ | exact Below.size (by assumption) | omega | (simp; done) | (simp; omega)))
          replace HC := Lib.hid (HC.out.ext hq5)
          replace HBW := Lib.hid (HBW.out.trans (hq5.mono hsr))
          replace hsr := HBW.out.size
          clear hb5 hq5
          go_wp2_with fail
          refine (look_O w1.heap.size _ w1.heap.size oth (fO who last) 1 1 (HC.out.ext (by ((repeat' (first | exact Below.refl _ _ | refine below_drewN ?_ _ | refine Below.drew ?_ | refine Below.alloc ?_ ?_ _ | refine Below.trans ?_ (Below.mono (by assumption) ?_))); all_goals (first | exact Nat.le_refl _ | exact Below.size (by assumption) | omega | (simp; done) | (simp; omega))))) ho8 (fO_ok who last oth)).mono ?_
          rintro e w7 ⟨D7, a7, n7, c7, a7', n7', c7', rfl, -, hb5⟩
          rw [lNo who last oth HNE.out]
          have hq5 : Below w6.heap.size w6 w7 := by ((repeat' (first | exact Below.refl _ _ | refine below_drewN ?_ _ | refine Below.drew ?_ | refine Below.alloc ?_ ?_ _ | refine Below.trans ?_ (Below.mono (by assumption) ?_))); all_goals (first | exact Nat.le_refl _ | exact Below.size (by assumption) | omega | (simp; done) | (simp; omega)))
          replace HC := Lib.hid (HC.out.ext hq5)
          replace HBW := Lib.hid (HBW.out.trans (hq5.mono hsr))
          replace hsr := HBW.out.size
          clear hb5 hq5
          go_wp2
          go_roundw
          case rel => exact ⟨k + 1, last, by omega, hL16, rfl, by go_num, HC.out.ext (by ((repeat' (first | exact Below.refl _ _ | refine below_drewN ?_ _ | refine Below.drew ?_ | refine Below.alloc ?_ ?_ _ | refine Below.trans ?_ (Below.mono (by assumption) ?_))); all_goals (first | exact Nat.le_refl _ | exact Below.size (by assumption) | omega | (simp; done) | (simp; omega)))), HBW.out.trans (Below.mono (by ((repeat' (first | exact Below.refl _ _ | refine below_drewN ?_ _ | refine Below.drew ?_ | refine Below.alloc ?_ ?_ _ | refine Below.trans ?_ (Below.mono (by assumption) ?_))); all_goals (first | exact Nat.le_refl _ | exact Below.size (by assumption) | omega | (simp; done) | (simp; omega))) : Below w7.heap.size w7 _) hsr)⟩
          case measure => simp [intOf]; omega
      · go_wp2
        go_ret
        exact ⟨rfl, HBW.out⟩
end Go.Proofs.YtidikciankcopaaDoor
