/- The walks of bytes.Equal, slices.EqualFunc at keys, object.Same. The walks of terrazzoref08.Name, May, Get, At: what the reference asks and reads. Small laws on blocks and worlds, for a seat without object.Do. No function is named. -/
import Derived.Test.YtlgefkaafoidmaaGreatDoorGL
import Derived.Laws.IdiomStrings
import Derived.Test.YtlgefkaafoidmaaGreatDoorGF
namespace Go.Proofs.YtlgefkaafoidmaaGreatDoor
open Go.RowKit Go.WideShapes

theorem cnv_bytes {A : Nat → Prop} {w : World} {v : Value} {l : List UInt8} (h : RB A w v l) (W : World) (hW : Below w.heap.size w W) : (Go.convert 27 9 v).run Tryz.prog W = .ok (.string ⟨l.toArray⟩) W := by
  obtain ⟨a, c, rfl⟩ := h.shape
  cases a with
  | none =>
    obtain ⟨h0, -, -⟩ := SlA.none_ h
    obtain rfl := List.eq_nil_of_length_eq_zero h0
    exact run_convert_bytes_nil W _ 5 Tryz.underlying27 Tryz.underlying5 _ _ _ Tryz.underlying9
  | some p =>
    refine run_convert_bytes_back W 27 9 5 p c l Tryz.underlying27 Tryz.underlying5 Tryz.underlying9 fun j hj => ?_
    exact cellExt hW ((SlA.src h).2.2 j _ (bv_at hj))
theorem eqBL (l m : List UInt8) : ((⟨l.toArray⟩ : ByteArray).toList == (⟨m.toArray⟩ : ByteArray).toList) = decide (l = m) := by
  rw [Lib.toList_data, Lib.toList_data, Bool.eq_iff_iff, beq_iff_eq, decide_eq_true_eq]
set_option maxHeartbeats 800000 in
theorem bequal_any (A B : Nat → Prop) (va vb : Value) (l m : List UInt8) (w : World) (ha : RB A w va l) (hb : RB B w vb m) :
    Calls Tryz.prog 91 #[va, vb] w fun e w' => e = .returned (.bool (decide (l = m))) ∧ w = w' := by
  have s1 := cnv_bytes ha w (Below.refl _ _)
  have s2 := cnv_bytes hb w (Below.refl _ _)
  clear ha hb
  go_enter Tryz.func91, Tryz.ntmps91
  go_wp2
  go_ret
  exact ⟨ret_bool (by first | exact eqBL l m | (rw [Bool.eq_iff_iff]; simp)), rfl⟩
def keyEq (a b : KyD) : Bool := decide (a.name = b.name) && decide (a.value = b.value)
theorem keyEq_iff (a b : KyD) : keyEq a b = true ↔ a = b := by
  cases a; cases b
  simp [keyEq]
set_option maxHeartbeats 800000 in
theorem same1_any (A B : Nat → Prop) (a b : KyD) (va vb : Value) (w : World) (ha : RB A w va a.value) (hb : RB B w vb b.value) :
    Calls Tryz.prog 90 #[.agg #[.string a.name, va], .agg #[.string b.name, vb]] w fun e w' => e = .returned (.bool (keyEq a b)) ∧ Below w.heap.size w w' := by
  obtain ⟨aa, ca, rfl⟩ := ha.shape
  obtain ⟨ab, cb, rfl⟩ := hb.shape
  obtain ⟨an, av⟩ := a
  obtain ⟨bn, bw⟩ := b
  simp only at *
  have HA := Lib.hid ha
  have HB := Lib.hid hb
  clear ha hb
  have HE : Hid ((an.toList == bn.toList) = decide (an = bn)) := eqL an bn
  cases he : (an.toList == bn.toList) with
  | false =>
    have HK : Hid (keyEq ⟨an, av⟩ ⟨bn, bw⟩ = false) := by show keyEq _ _ = false; unfold keyEq; simp only; rw [← HE.out, he]; rfl
    go_enter Tryz.func90, Tryz.ntmps90
    go_wp2
    go_ret
    exact ⟨ret_bool HK.out.symm, by ((repeat' (first | exact Below.refl _ _ | refine below_drewN ?_ _ | refine Below.drew ?_ | refine Below.alloc ?_ ?_ _ | refine Below.trans ?_ (Below.mono (by assumption) ?_))); all_goals (first | exact Nat.le_refl _ | exact Below.size (by assumption) | omega | (simp; done) | (simp; omega)))⟩
  | true =>
    have HK : Hid (keyEq ⟨an, av⟩ ⟨bn, bw⟩ = decide (av = bw)) := by show keyEq _ _ = _; unfold keyEq; simp only; rw [← HE.out, he]; rfl
    go_enter Tryz.func90, Tryz.ntmps90
    go_wp2_with fail
    refine (bequal_any A B _ _ av bw _ (HA.out.ext (by ((repeat' (first | exact Below.refl _ _ | refine below_drewN ?_ _ | refine Below.drew ?_ | refine Below.alloc ?_ ?_ _ | refine Below.trans ?_ (Below.mono (by assumption) ?_))); all_goals (first | exact Nat.le_refl _ | exact Below.size (by assumption) | omega | (simp; done) | (simp; omega))))) (HB.out.ext (by ((repeat' (first | exact Below.refl _ _ | refine below_drewN ?_ _ | refine Below.drew ?_ | refine Below.alloc ?_ ?_ _ | refine Below.trans ?_ (Below.mono (by assumption) ?_))); all_goals (first | exact Nat.le_refl _ | exact Below.size (by assumption) | omega | (simp; done) | (simp; omega)))))).mono ?_
    rintro e w1 ⟨rfl, rfl⟩
    go_wp2
    go_ret
    exact ⟨ret_bool HK.out.symm, by ((repeat' (first | exact Below.refl _ _ | refine below_drewN ?_ _ | refine Below.drew ?_ | refine Below.alloc ?_ ?_ _ | refine Below.trans ?_ (Below.mono (by assumption) ?_))); all_goals (first | exact Nat.le_refl _ | exact Below.size (by assumption) | omega | (simp; done) | (simp; omega)))⟩
def eqAt (xs ys : List KyD) (i : Nat) : Bool := match xs[i]?, ys[i]? with
  | some a, some b => keyEq a b
  | _, _ => true
def eqTo (xs ys : List KyD) : Nat → Bool
  | 0 => true
  | k + 1 => eqTo xs ys k && eqAt xs ys k
def sameK (xs ys : List KyD) : Bool := decide (xs.length = ys.length) && eqTo xs ys xs.length
theorem eqTo_not {xs ys : List KyD} {n i : Nat} (hi : i < n) (h : eqAt xs ys i = false) : eqTo xs ys n = false := by
  induction n with
  | zero => omega
  | succ n ih =>
    by_cases e : i = n
    · subst e; simp [eqTo, h]
    · simp [eqTo, ih (by omega)]
theorem eqTo_all {xs ys : List KyD} {n : Nat} (h : eqTo xs ys n = true) : ∀ i, i < n → eqAt xs ys i = true := by
  intro i hi
  cases hx : eqAt xs ys i with
  | true => rfl
  | false => rw [eqTo_not hi hx] at h; cases h
theorem sameK_iff (xs ys : List KyD) : sameK xs ys = true ↔ xs = ys := by
  unfold sameK
  rw [Bool.and_eq_true, decide_eq_true_eq]
  constructor
  · rintro ⟨hl, h⟩
    apply List.ext_getElem hl
    intro i h1 h2
    have := eqTo_all h i h1
    simp only [eqAt, List.getElem?_eq_getElem h1, List.getElem?_eq_getElem h2] at this
    exact (keyEq_iff _ _).1 this
  · rintro rfl
    refine ⟨rfl, ?_⟩
    have : ∀ n, eqTo xs xs n = true := by
      intro n
      induction n with
      | zero => rfl
      | succ n ih =>
        simp only [eqTo, ih, Bool.true_and, eqAt]
        cases xs[n]? with
        | none => rfl
        | some k => exact (keyEq_iff k k).2 rfl
    exact this _
def sameB (a b : ObD) : Bool := decide (a.data = b.data) && decide (a.seq = b.seq) && sameK a.keys b.keys
theorem sameB_iff (a b : ObD) : sameB a b = true ↔ a = b := by
  cases a; cases b
  simp only [sameB, Bool.and_eq_true, decide_eq_true_eq, sameK_iff, ObD.mk.injEq]
  exact ⟨fun ⟨⟨a, b⟩, c⟩ => ⟨a, c, b⟩, fun ⟨a, c, b⟩ => ⟨⟨a, b⟩, c⟩⟩
/-- a call that answers so and makes nothing but memory -/
def Says (b : Bool) (w : World) (e : Ending) (w' : World) : Prop := e = .returned (.bool b) ∧ Below w.heap.size w w'
set_option maxRecDepth 100000 in
set_option maxHeartbeats 1600000 in
theorem eqf_any (A B : Nat → Prop) (xs ys : List KyD) (aa ab : Option Addr) (ca cb : Nat) (w : World) (ha : SlE Enc.key A w (.slice aa xs.length ca) xs) (hb : SlE Enc.key B w (.slice ab ys.length cb) ys) (hl : xs.length ≤ 100000) :
    Calls Tryz.prog 92 #[.slice aa xs.length ca, .slice ab ys.length cb, .func (.func 90) #[] #[]] w (Says (sameK xs ys) w) := by
  have HA := Lib.hid ha
  have HB := Lib.hid hb
  clear ha hb
  by_cases hne : xs.length = ys.length
  · have t1 : ((xs.length : Int) != ys.length) = false := by simp [hne]
    have HK : Hid (sameK xs ys = eqTo xs ys xs.length) := by show sameK _ _ = _; simp [sameK, hne]
    have hle : ys.length ≤ xs.length := by omega
    have hge : xs.length ≤ ys.length := by omega
    have t2 : decide ((xs.length : Int) = ys.length) = true := by simp [hne]
    have t3 : decide (xs.length = ys.length) = true := by simp [hne]
    have t4 : (xs.length != ys.length) = false := by simp [hne]
    clear hne
    go_enter Tryz.func92, Tryz.ntmps92
    go_wp2
    go_loopw [17] (fun q wr => ∃ k : Nat, k ≤ xs.length ∧ q = .int .i64 k ∧ eqTo xs ys k = true ∧ Below w.heap.size w wr) (fun q _ => xs.length - (intOf q).toNat)
    case atStart => exact ⟨0, Nat.zero_le _, rfl, rfl, Below.refl _ _⟩
    case round =>
      obtain ⟨k, hk, rfl, hq, hbr⟩ := hrel
      have HQ := Lib.hid hq
      have HBR := Lib.hid hbr
      clear hq hbr
      by_cases hlt : k < xs.length
      · have hlt' : k < ys.length := by omega
        obtain ⟨b, off, v, rfl, hb, -, c3, c4, hv⟩ := Keys.at (HA.out.ext HBR.out) hlt
        obtain ⟨b', off', v', rfl, hb', -, d3, d4, hv'⟩ := Keys.at (HB.out.ext HBR.out) hlt'
        have HV := Lib.hid hv
        have HV' := Lib.hid hv'
        have HEA : Hid (eqAt xs ys k = keyEq xs[k] ys[k]) := by show eqAt _ _ _ = _; simp only [eqAt, List.getElem?_eq_getElem hlt, List.getElem?_eq_getElem hlt']
        obtain ⟨va, vc, rfl⟩ := hv.shape
        obtain ⟨va', vc', rfl⟩ := hv'.shape
        clear hv hv'
        generalize xs[k] = ka at *
        generalize ys[k] = kb at *
        cases hx : keyEq ka kb with
        | true =>
          have HX := Lib.hid hx
          go_wp2_with fail
          refine (same1_any _ _ ka kb _ _ _ (HV.out.ext (by ((repeat' (first | exact Below.refl _ _ | refine below_drewN ?_ _ | refine Below.drew ?_ | refine Below.alloc ?_ ?_ _ | refine Below.trans ?_ (Below.mono (by assumption) ?_))); all_goals (first | exact Nat.le_refl _ | exact Below.size (by assumption) | omega | (simp; done) | (simp; omega))))) (HV'.out.ext (by ((repeat' (first | exact Below.refl _ _ | refine below_drewN ?_ _ | refine Below.drew ?_ | refine Below.alloc ?_ ?_ _ | refine Below.trans ?_ (Below.mono (by assumption) ?_))); all_goals (first | exact Nat.le_refl _ | exact Below.size (by assumption) | omega | (simp; done) | (simp; omega)))))).mono ?_
          rintro e w2 ⟨rfl, hb2⟩
          rw [hx]
          clear hx
          have HB2 := (show Hid (Below wr.heap.size wr w2) from Lib.hid (Below.trans (by ((repeat' (first | exact Below.refl _ _ | refine below_drewN ?_ _ | refine Below.drew ?_ | refine Below.alloc ?_ ?_ _ | refine Below.trans ?_ (Below.mono (by assumption) ?_))); all_goals (first | exact Nat.le_refl _ | exact Below.size (by assumption) | omega | (simp; done) | (simp; omega)))) (hb2.mono (by simp; try omega))))
          clear hb2
          go_wp2
          go_roundw
          case rel => exact ⟨k + 1, by omega, by go_num, by rw [eqTo, HQ.out, HEA.out, HX.out]; rfl, HBR.out.trans (HB2.out.mono HBR.out.size)⟩
          case measure => simp [intOf]; omega
        | false =>
          have HX := Lib.hid hx
          go_wp2_with fail
          refine (same1_any _ _ ka kb _ _ _ (HV.out.ext (by ((repeat' (first | exact Below.refl _ _ | refine below_drewN ?_ _ | refine Below.drew ?_ | refine Below.alloc ?_ ?_ _ | refine Below.trans ?_ (Below.mono (by assumption) ?_))); all_goals (first | exact Nat.le_refl _ | exact Below.size (by assumption) | omega | (simp; done) | (simp; omega))))) (HV'.out.ext (by ((repeat' (first | exact Below.refl _ _ | refine below_drewN ?_ _ | refine Below.drew ?_ | refine Below.alloc ?_ ?_ _ | refine Below.trans ?_ (Below.mono (by assumption) ?_))); all_goals (first | exact Nat.le_refl _ | exact Below.size (by assumption) | omega | (simp; done) | (simp; omega)))))).mono ?_
          rintro e w2 ⟨rfl, hb2⟩
          rw [hx]
          clear hx
          have HB2 := (show Hid (Below wr.heap.size wr w2) from Lib.hid (Below.trans (by ((repeat' (first | exact Below.refl _ _ | refine below_drewN ?_ _ | refine Below.drew ?_ | refine Below.alloc ?_ ?_ _ | refine Below.trans ?_ (Below.mono (by assumption) ?_))); all_goals (first | exact Nat.le_refl _ | exact Below.size (by assumption) | omega | (simp; done) | (simp; omega)))) (hb2.mono (by simp; try omega))))
          clear hb2
          go_wp2
          go_ret
          exact ⟨ret_bool (by rw [HK.out, eqTo_not hlt (HEA.out.trans HX.out)]), HBR.out.trans (HB2.out.mono HBR.out.size)⟩
      · obtain rfl : k = xs.length := by omega
        go_wp2
        go_ret
        exact ⟨ret_bool (by rw [HK.out, HQ.out]), HBR.out⟩
  · have t1 : ((xs.length : Int) != ys.length) = true := by simp; omega
    have HK : Hid (sameK xs ys = false) := by show sameK _ _ = _; simp [sameK, hne]
    have t2 : decide ((xs.length : Int) = ys.length) = false := by simp; omega
    have t3 : decide (xs.length = ys.length) = false := by simp; omega
    have t4 : (xs.length != ys.length) = true := by simp; omega
    have HN := Lib.hid hne
    clear hne
    go_enter Tryz.func92, Tryz.ntmps92
    go_wp2
    go_ret
    exact ⟨ret_bool HK.out.symm, Below.refl _ _⟩
set_option maxRecDepth 100000 in
set_option maxHeartbeats 1600000 in
theorem osame_any (A B : Nat → Prop) (a b : ObD) (va vb : Value) (w : World) (ha : ObV A w va a) (hb : ObV B w vb b) (hl : a.keys.length ≤ 100000) :
    Calls Tryz.prog 76 #[va, vb] w (Says (sameB a b) w) := by
  obtain ⟨da, ka, rfl, hda, hka⟩ := ha
  obtain ⟨db, kb, rfl, hdb, hkb⟩ := hb
  obtain ⟨daa, dac, rfl⟩ := hda.shape
  obtain ⟨dba, dbc, rfl⟩ := hdb.shape
  obtain ⟨kaa, kac, rfl⟩ := hka.shape
  obtain ⟨kba, kbc, rfl⟩ := hkb.shape
  obtain ⟨ad, aks, sa⟩ := a
  obtain ⟨bd, bks, sb⟩ := b
  simp only at *
  have HDA := Lib.hid hda
  have HDB := Lib.hid hdb
  have HKA := Lib.hid hka
  have HKB := Lib.hid hkb
  have HS : Hid (sameB ⟨ad, aks, sa⟩ ⟨bd, bks, sb⟩ = (decide (ad = bd) && decide (sa = sb) && sameK aks bks)) := by show sameB _ _ = _; rfl
  clear hda hdb hka hkb
  cases h1 : decide (ad = bd) with
  | false =>
    have H1 := Lib.hid h1
    go_enter Tryz.func76, Tryz.ntmps76
    go_wp2_with fail
    refine (bequal_any A B _ _ ad bd _ (HDA.out.ext (by ((repeat' (first | exact Below.refl _ _ | refine below_drewN ?_ _ | refine Below.drew ?_ | refine Below.alloc ?_ ?_ _ | refine Below.trans ?_ (Below.mono (by assumption) ?_))); all_goals (first | exact Nat.le_refl _ | exact Below.size (by assumption) | omega | (simp; done) | (simp; omega))))) (HDB.out.ext (by ((repeat' (first | exact Below.refl _ _ | refine below_drewN ?_ _ | refine Below.drew ?_ | refine Below.alloc ?_ ?_ _ | refine Below.trans ?_ (Below.mono (by assumption) ?_))); all_goals (first | exact Nat.le_refl _ | exact Below.size (by assumption) | omega | (simp; done) | (simp; omega)))))).mono ?_
    rintro e w1 ⟨rfl, rfl⟩
    rw [h1]
    clear h1
    go_wp2
    go_ret
    exact ⟨ret_bool (by rw [HS.out, H1.out]; rfl), by ((repeat' (first | exact Below.refl _ _ | refine below_drewN ?_ _ | refine Below.drew ?_ | refine Below.alloc ?_ ?_ _ | refine Below.trans ?_ (Below.mono (by assumption) ?_))); all_goals (first | exact Nat.le_refl _ | exact Below.size (by assumption) | omega | (simp; done) | (simp; omega)))⟩
  | true =>
    by_cases h2 : sa = sb
    · have t2 : decide (sa = sb) = true := by simp [h2]
      have t3 : (sa == sb) = true := by simp [h2]
      have H1 := Lib.hid h1
      have H2 := Lib.hid t2
      clear h2
      go_enter Tryz.func76, Tryz.ntmps76
      go_wp2_with (go_at_call 91; refine (bequal_any A B _ _ ad bd _ (HDA.out.ext (by ((repeat' (first | exact Below.refl _ _ | refine below_drewN ?_ _ | refine Below.drew ?_ | refine Below.alloc ?_ ?_ _ | refine Below.trans ?_ (Below.mono (by assumption) ?_))); all_goals (first | exact Nat.le_refl _ | exact Below.size (by assumption) | omega | (simp; done) | (simp; omega))))) (HDB.out.ext (by ((repeat' (first | exact Below.refl _ _ | refine below_drewN ?_ _ | refine Below.drew ?_ | refine Below.alloc ?_ ?_ _ | refine Below.trans ?_ (Below.mono (by assumption) ?_))); all_goals (first | exact Nat.le_refl _ | exact Below.size (by assumption) | omega | (simp; done) | (simp; omega)))))).mono ?_; rintro e w1 ⟨rfl, rfl⟩; rw [h1]; clear h1)
      refine (eqf_any A B aks bks kaa kba kac kbc _ (HKA.out.ext (by ((repeat' (first | exact Below.refl _ _ | refine below_drewN ?_ _ | refine Below.drew ?_ | refine Below.alloc ?_ ?_ _ | refine Below.trans ?_ (Below.mono (by assumption) ?_))); all_goals (first | exact Nat.le_refl _ | exact Below.size (by assumption) | omega | (simp; done) | (simp; omega))))) (HKB.out.ext (by ((repeat' (first | exact Below.refl _ _ | refine below_drewN ?_ _ | refine Below.drew ?_ | refine Below.alloc ?_ ?_ _ | refine Below.trans ?_ (Below.mono (by assumption) ?_))); all_goals (first | exact Nat.le_refl _ | exact Below.size (by assumption) | omega | (simp; done) | (simp; omega))))) hl).mono ?_
      rintro e w2 ⟨rfl, hb2⟩
      have HB2 := (show Hid (Below w.heap.size w w2) from Lib.hid (Below.trans (by ((repeat' (first | exact Below.refl _ _ | refine below_drewN ?_ _ | refine Below.drew ?_ | refine Below.alloc ?_ ?_ _ | refine Below.trans ?_ (Below.mono (by assumption) ?_))); all_goals (first | exact Nat.le_refl _ | exact Below.size (by assumption) | omega | (simp; done) | (simp; omega)))) (hb2.mono (by simp; try omega))))
      clear hb2
      go_wp2
      go_ret
      exact ⟨ret_bool (by rw [HS.out, H1.out, H2.out]; rfl), HB2.out⟩
    · have t2 : decide (sa = sb) = false := by simp [h2]
      have t3 : (sa == sb) = false := by simp [h2]
      have H1 := Lib.hid h1
      have H2 := Lib.hid t2
      clear h2
      go_enter Tryz.func76, Tryz.ntmps76
      go_wp2_with fail
      refine (bequal_any A B _ _ ad bd _ (HDA.out.ext (by ((repeat' (first | exact Below.refl _ _ | refine below_drewN ?_ _ | refine Below.drew ?_ | refine Below.alloc ?_ ?_ _ | refine Below.trans ?_ (Below.mono (by assumption) ?_))); all_goals (first | exact Nat.le_refl _ | exact Below.size (by assumption) | omega | (simp; done) | (simp; omega))))) (HDB.out.ext (by ((repeat' (first | exact Below.refl _ _ | refine below_drewN ?_ _ | refine Below.drew ?_ | refine Below.alloc ?_ ?_ _ | refine Below.trans ?_ (Below.mono (by assumption) ?_))); all_goals (first | exact Nat.le_refl _ | exact Below.size (by assumption) | omega | (simp; done) | (simp; omega)))))).mono ?_
      rintro e w1 ⟨rfl, rfl⟩
      rw [h1]
      clear h1
      go_wp2
      go_ret
      exact ⟨ret_bool (by rw [HS.out, H1.out, H2.out]; rfl), by ((repeat' (first | exact Below.refl _ _ | refine below_drewN ?_ _ | refine Below.drew ?_ | refine Below.alloc ?_ ?_ _ | refine Below.trans ?_ (Below.mono (by assumption) ?_))); all_goals (first | exact Nat.le_refl _ | exact Below.size (by assumption) | omega | (simp; done) | (simp; omega)))⟩
end Go.Proofs.YtlgefkaafoidmaaGreatDoor
namespace Go.Proofs.YtlgefkaafoidmaaGreatDoor
open Go.RowKit Go.WideShapes

set_option maxRecDepth 100000 in
set_option maxHeartbeats 1600000 in
theorem rname_any (s : ByteArray) (w : World) : Calls Tryz.prog 68 #[.string s] w fun e w' => e = .returned (.bool (nameB s)) ∧ w = w' := by
  by_cases h1 : 1 ≤ s.size
  · by_cases h2 : s.size ≤ 12
    · have h1' : ¬ (s.size : Int) < 1 := by omega
      have h2' : ¬ (12 : Int) < s.size := by omega
      have HN : Hid (nmTo s s.size = true → nameB s = true) := by show _ → _; intro h; rw [nameB_to, h]; simp [h1, h2]
      go_enter Tryz.func68, Tryz.ntmps68
      go_wp2
      go_loop [3] (fun i => ∃ k : Nat, k ≤ s.size ∧ i = .int .i64 k ∧ nmTo s k = true) (fun i => s.size - (intOf i).toNat)
      case atStart => exact ⟨0, Nat.zero_le _, rfl, rfl⟩
      case round =>
        obtain ⟨k, hk, rfl, hto⟩ := hrel
        have HTO := Lib.hid hto
        clear hto
        by_cases hlt : k < s.size
        · have HS : Hid (nmI s[k].toNat = true → nmTo s (k + 1) = true) := by show _ → _; intro h; rw [nmTo_succ s k hlt, HTO.out, h]; rfl
          have HF : Hid (nmI s[k].toNat = false → nameB s = false) := by show _ → _; exact nmTo_no hlt
          go_wp2
          all_goals
            first
              | (go_round
                 case rel => exact ⟨k + 1, by omega, by go_num, HS.out (by (try simp only [bne_eq_false_iff_eq] at *); simp [nmI]; omega)⟩
                 case measure => simp [intOf]; omega)
              | (go_ret
                 exact ⟨ret_bool (HF.out (by (try simp only [bne_eq_false_iff_eq] at *); simp [nmI]; omega)).symm, rfl⟩)
        · obtain rfl : k = s.size := by omega
          go_wp2
          go_ret
          exact ⟨ret_bool (HN.out HTO.out).symm, rfl⟩
    · have h1' : ¬ (s.size : Int) < 1 := by omega
      have h2' : (12 : Int) < s.size := by omega
      have HN : Hid (nameB s = false) := by show nameB s = _; simp [nameB, h2]
      go_enter Tryz.func68, Tryz.ntmps68
      go_wp2
      go_ret
      exact ⟨ret_bool HN.out.symm, rfl⟩
  · have h1' : (s.size : Int) < 1 := by omega
    have HN : Hid (nameB s = false) := by show nameB s = _; simp [nameB, h1]
    go_enter Tryz.func68, Tryz.ntmps68
    go_wp2
    go_ret
    exact ⟨ret_bool HN.out.symm, rfl⟩
end Go.Proofs.YtlgefkaafoidmaaGreatDoor
namespace Go.Proofs.YtlgefkaafoidmaaGreatDoor
open Go.RowKit Go.WideShapes

theorem dcall {w W W' : World} (h : Below w.heap.size w W) (hb : Below W.heap.size W W') : Below w.heap.size w W' := h.trans (hb.mono h.size)
theorem dblk {W W' : World} {k : Nat} {o : Obj} (hb : Below W.heap.size W W') (h : W.heap[k]? = some o) : W'.heap[k]? = some o := (hb.block k (Array.getElem?_eq_some_iff.1 h).1).trans h
theorem dnew {W : World} {k : Nat} {o : Obj} (h : W.heap[k]? = some o) (o' : Obj) : (W.alloc o').heap[k]? = some o := (Below.heap_alloc _ _ _ (Array.getElem?_eq_some_iff.1 h).1).trans h
theorem below3 {B p : Nat} {w w' : World} (h : Below B w w') (hp : B ≤ p) (x y z : Value) : Below B w (((w'.setCell ⟨p, 0, none⟩ x).setCell ⟨p, 1, none⟩ y).setCell ⟨p, 2, none⟩ z) :=
  ((h.setCell (show B ≤ (⟨p, 0, none⟩ : Addr).block from hp) x).setCell (show B ≤ (⟨p, 1, none⟩ : Addr).block from hp) y).setCell (show B ≤ (⟨p, 2, none⟩ : Addr).block from hp) z
theorem ObV.weak {A A' : Nat → Prop} {w : World} {v : Value} {o : ObD} (h : ObV A w v o) (hs : ∀ b, b < w.heap.size → A b → A' b) : ObV A' w v o := by
  obtain ⟨dv, kv, rfl, hd, hk⟩ := h
  exact ⟨dv, kv, rfl, hd.weak hs, hk.weak hs⟩
theorem three_cells {w : World} {p : Nat} {a b c : Value} {t : TypeId} (h : w.heap[p]? = some (.cells #[a, b, c] t (0, 0))) :
    w.cell? ⟨p, 0, none⟩ = some a ∧ w.cell? ⟨p, 1, none⟩ = some b ∧ w.cell? ⟨p, 2, none⟩ = some c := ⟨(blk_cell h).1, (blk_cell h).1, (blk_cell h).1⟩
theorem below_nw {w W : World} (h : Below w.heap.size w W) (o : Obj) : Below w.heap.size w (W.alloc o) := h.alloc h.size o
theorem five_cells {w : World} {p : Nat} {a b c d e : Value} {t : TypeId} (h : w.heap[p]? = some (.cells #[a, b, c, d, e] t (0, 0))) :
    w.cell? ⟨p, 0, none⟩ = some a ∧ w.cell? ⟨p, 1, none⟩ = some b ∧ w.cell? ⟨p, 2, none⟩ = some c ∧ w.cell? ⟨p, 3, none⟩ = some d ∧ w.cell? ⟨p, 4, none⟩ = some e :=
  ⟨(blk_cell h).1, (blk_cell h).1, (blk_cell h).1, (blk_cell h).1, (blk_cell h).1⟩
end Go.Proofs.YtlgefkaafoidmaaGreatDoor
