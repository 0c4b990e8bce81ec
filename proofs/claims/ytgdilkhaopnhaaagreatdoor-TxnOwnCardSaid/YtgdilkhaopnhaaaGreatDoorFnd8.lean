/- The walks of object.find: where a key stands, or would. -/
import Derived.Test.YtgdilkhaopnhaaaGreatDoorIdx8
namespace Go.Proofs.YtgdilkhaopnhaaaGreatDoor
open Go.RowKit Go.WideShapes

theorem comp_any (a b : ByteArray) (w : World) : Calls Tryz.prog 103 #[.string a, .string b] w fun e w' => e = .returned (.int .i64 (cmpS a b)) ∧ w' = w :=
  Any.strings_Compare Tryz.compL a b w
theorem find1_any (kn nm : ByteArray) (va : Value) (w : World) :
    Calls Tryz.prog 102 #[.agg #[.string kn, va], .string nm] w fun e w' => e = .returned (.int .i64 (cmpS kn nm)) ∧ Below w.heap.size w w' := by
  go_enter Tryz.func102, Tryz.ntmps102
  go_wp2_with (go_at_call 103; refine (comp_any _ _ _).mono ?_; rintro e w' ⟨rfl, rfl⟩)
  go_ret
  exact ⟨rfl, by ((repeat' (first | exact Below.refl _ _ | refine below_drewN ?_ _ | refine Below.drew ?_ | refine Below.alloc ?_ ?_ _ | refine Below.trans ?_ (Below.mono (by assumption) ?_))); all_goals (first | exact Nat.le_refl _ | exact Below.size (by assumption) | omega | (simp; done) | (simp; omega)))⟩
/-! The place, in a rising row -/
theorem pos_of {ks : List KyD} {nm : ByteArray} {i : Nat} (hi : i ≤ ks.length) (h1 : ∀ (j : Nat) k, j < i → ks[j]? = some k → ltS k.name nm = true) (h2 : ∀ k, ks[i]? = some k → ltS k.name nm = false) : posK ks nm = i := by
  have hle := tw_le (fun k => ltS k.name nm) ks
  unfold posK
  rcases Nat.lt_trichotomy (ks.takeWhile fun k => ltS k.name nm).length i with h | h | h
  · have hlt : (ks.takeWhile fun k => ltS k.name nm).length < ks.length := by omega
    have a := tw_stop (fun k => ltS k.name nm) ks _ (List.getElem?_eq_getElem hlt)
    have b := h1 _ _ h (List.getElem?_eq_getElem hlt)
    rw [show ltS _ nm = false from a] at b
    cases b
  · exact h
  · have hlt : i < ks.length := by omega
    have a := tw_get (fun k => ltS k.name nm) ks i _ h (List.getElem?_eq_getElem hlt)
    have b := h2 _ (List.getElem?_eq_getElem hlt)
    rw [show ltS _ nm = true from a] at b
    cases b
theorem has_of {ks : List KyD} {nm : ByteArray} (hf : Fine ks) {i : Nat} (h1 : ∀ (j : Nat) k, j < i → ks[j]? = some k → ltS k.name nm = true) (h2 : ∀ k, ks[i]? = some k → ltS k.name nm = false) :
    hasK ks nm = match ks[i]? with | some k => decide (k.name = nm) | none => false := by
  have key : ∀ (j : Nat) k, ks[j]? = some k → k.name = nm → j = i := by
    intro j k hj hk
    rcases Nat.lt_trichotomy j i with h | h | h
    · have := h1 j k h hj
      rw [hk, ltS_irrefl] at this
      cases this
    · exact h
    · have hlt : i < ks.length := by have := (List.getElem?_eq_some_iff.1 hj).1; omega
      have hi : ks[i]? = some ks[i] := List.getElem?_eq_getElem hlt
      have a := hf.up i j _ k h hi hj
      rw [hk, h2 _ hi] at a
      cases a
  unfold hasK
  rw [Bool.eq_iff_iff, List.any_eq_true]
  constructor
  · rintro ⟨k, hk, he⟩
    obtain ⟨j, hj, rfl⟩ := List.getElem_of_mem hk
    have e := key j _ (List.getElem?_eq_getElem hj) (by simpa using he)
    subst e
    rw [List.getElem?_eq_getElem hj]
    exact he
  · intro h
    cases hi : ks[i]? with
    | none => rw [hi] at h; cases h
    | some k =>
      rw [hi] at h
      exact ⟨k, List.mem_of_getElem? hi, h⟩
/-- what stands ahead of i is less; what stands from j on is not -/
def Bse (ks : List KyD) (nm : ByteArray) (i j : Nat) : Prop := i ≤ j ∧ j ≤ ks.length ∧ (∀ (t : Nat) k, t < i → ks[t]? = some k → ltS k.name nm = true) ∧ (∀ (t : Nat) k, j ≤ t → ks[t]? = some k → ltS k.name nm = false)
theorem Bse.start (ks : List KyD) (nm : ByteArray) : Bse ks nm 0 ks.length := ⟨Nat.zero_le _, Nat.le_refl _, fun t k h => absurd h (by omega), fun t k h hk => by have := (List.getElem?_eq_some_iff.1 hk).1; omega⟩
theorem Bse.up {ks : List KyD} {nm : ByteArray} (hf : Fine ks) {i j h : Nat} (b : Bse ks nm i j) (h2 : h < j) (hx : ∀ k, ks[h]? = some k → ltS k.name nm = true) : Bse ks nm (h + 1) j := by
  obtain ⟨b1, b2, b3, b4⟩ := b
  refine ⟨by omega, b2, fun t k ht hk => ?_, b4⟩
  have hlt : h < ks.length := by omega
  have hh : ks[h]? = some ks[h] := List.getElem?_eq_getElem hlt
  rcases Nat.lt_or_ge t h with h3 | h3
  · exact ltS_trans (hf.up t h k _ h3 hk hh) (hx _ hh)
  · obtain rfl : t = h := by omega
    exact hx k hk
theorem Bse.down {ks : List KyD} {nm : ByteArray} (hf : Fine ks) {i j h : Nat} (b : Bse ks nm i j) (h1 : i ≤ h) (h2 : h < j) (hx : ∀ k, ks[h]? = some k → ltS k.name nm = false) : Bse ks nm i h := by
  obtain ⟨b1, b2, b3, b4⟩ := b
  refine ⟨h1, by omega, b3, fun t k ht hk => ?_⟩
  have hlt : h < ks.length := by omega
  have hh : ks[h]? = some ks[h] := List.getElem?_eq_getElem hlt
  rcases Nat.lt_or_ge h t with h3 | h3
  · have a := hf.up h t _ k h3 hh hk
    cases hc : ltS k.name nm with
    | false => rfl
    | true =>
      have := ltS_trans a hc
      rw [hx _ hh] at this
      cases this
  · obtain rfl : t = h := by omega
    exact hx k hk
theorem Bse.end_ {ks : List KyD} {nm : ByteArray} (hf : Fine ks) {i : Nat} (b : Bse ks nm i i) : posK ks nm = i ∧ hasK ks nm = match ks[i]? with | some k => decide (k.name = nm) | none => false :=
  ⟨pos_of b.2.1 b.2.2.1 fun k hk => b.2.2.2 i k (Nat.le_refl _) hk, has_of hf b.2.2.1 fun k hk => b.2.2.2 i k (Nat.le_refl _) hk⟩
def FindR (ks : List KyD) (nm : ByteArray) (w : World) (e : Ending) (w' : World) : Prop := e = .returned (.tuple #[.int .i64 (posK ks nm), .bool (hasK ks nm)]) ∧ Below w.heap.size w w'
theorem half (i j : Nat) (h : i < j) (hj : j ≤ 10000) : IntKind.i64.wrap ((i : Int) + (j : Int)) = (i : Int) + j := by rw [IntKind.wrap_i64]; omega
set_option maxRecDepth 100000 in
set_option maxHeartbeats 1600000 in
theorem bsf_any (A : Nat → Prop) (ks : List KyD) (a : Option Addr) (c : Nat) (nm : ByteArray) (w : World) (hk : SlE Enc.key A w (.slice a ks.length c) ks) (hf : Fine ks) (hl : ks.length ≤ 10000) :
    Calls Tryz.prog 101 #[.slice a ks.length c, .string nm, .func (.func 102) #[] #[]] w (FindR ks nm w) := by
  have HK := Lib.hid hk
  have HF := Lib.hid hf
  clear hk hf
  go_enter Tryz.func101, Tryz.ntmps101
  go_wp2
  go_loopw [9, 10] (fun qi qj wr => ∃ i j : Nat, qi = .int .i64 i ∧ qj = .int .i64 j ∧ Bse ks nm i j ∧ Below w.heap.size w wr) (fun qi qj _ => (intOf qj).toNat - (intOf qi).toNat)
  case atStart => exact ⟨0, ks.length, rfl, rfl, Bse.start ks nm, Below.refl _ _⟩
  case round =>
    obtain ⟨i, j, rfl, rfl, hB, hbr⟩ := hrel
    have hij := hB.1
    have hjl := hB.2.1
    have HB := Lib.hid hB
    have HBR := Lib.hid hbr
    clear hB hbr
    by_cases hlt : i < j
    · have hhl : (i + j) / 2 < ks.length := by omega
      obtain ⟨b, off, v, rfl, hb, -, c3, c4, hv⟩ := Keys.at (HK.out.ext HBR.out) hhl
      have hkk : ks[(i + j) / 2]? = some ks[(i + j) / 2] := List.getElem?_eq_getElem hhl
      generalize hky : ks[(i + j) / 2] = ky at *
      have hcast : ((i : Int) + j) / 2 = (((i + j) / 2 : Nat) : Int) := by omega
      have HKK : Hid (∀ k, ks[(i + j) / 2]? = some k → k = ky) := fun k hk => by rw [hkk] at hk; exact (Option.some.inj hk).symm
      have HCST := Lib.hid hcast
      clear hv hkk hky hcast
      by_cases hx : cmpS ky.name nm < 0
      · have HL : Hid (ltS ky.name nm = true) := (cmpS_lt _ _).symm.trans (by simpa using hx)
        go_wp2_with (go_at_call 102; refine (find1_any _ _ _ _).mono ?_; rintro e w2 ⟨rfl, hb2⟩)
        have HB2 := Lib.hid hb2
        clear hb2
        go_wp2
        go_roundw
        case rel => exact ⟨(i + j) / 2 + 1, j, by rw [HCST.out]; rfl, rfl, HB.out.up HF.out (by omega) fun k hk => by rw [HKK.out k hk]; exact HL.out, HBR.out.trans (HB2.out.mono HBR.out.size)⟩
        case measure => simp [intOf]; omega
      · have HL : Hid (ltS ky.name nm = false) := (cmpS_lt _ _).symm.trans (by simpa using hx)
        go_wp2_with (go_at_call 102; refine (find1_any _ _ _ _).mono ?_; rintro e w2 ⟨rfl, hb2⟩)
        have HB2 := Lib.hid hb2
        clear hb2
        go_wp2
        go_roundw
        case rel => exact ⟨i, (i + j) / 2, rfl, by rw [HCST.out], HB.out.down HF.out (by omega) (by omega) fun k hk => by rw [HKK.out k hk]; exact HL.out, HBR.out.trans (HB2.out.mono HBR.out.size)⟩
        case measure => simp [intOf]; omega
    · obtain rfl : i = j := by omega
      have HE := Lib.hid (HB.out.end_ HF.out)
      by_cases hil : i < ks.length
      · obtain ⟨b, off, v, rfl, hb, -, c3, c4, hv⟩ := Keys.at (HK.out.ext HBR.out) hil
        have HG : Hid (hasK ks nm = decide ((ks[i]).name = nm)) := by show hasK ks nm = _; rw [HE.out.2, List.getElem?_eq_getElem hil]
        have HQ : Hid (decide (cmpS (ks[i]).name nm = 0) = decide ((ks[i]).name = nm)) := cmpS_eq _ _
        generalize ks[i] = ky at *
        clear hv
        go_wp2_with (go_at_call 102; refine (find1_any _ _ _ _).mono ?_; rintro e w2 ⟨rfl, hb2⟩)
        have HB2 := Lib.hid hb2
        clear hb2
        go_wp2
        go_ret2
        exact ⟨by rw [HG.out, ← HQ.out, HE.out.1]; rfl, HBR.out.trans (HB2.out.mono HBR.out.size)⟩
      · have HG : Hid (hasK ks nm = false) := by show hasK ks nm = _; rw [HE.out.2, List.getElem?_eq_none (by omega)]
        go_wp2
        go_ret2
        exact ⟨by rw [HG.out, HE.out.1]; rfl, HBR.out⟩
set_option maxRecDepth 100000 in
set_option maxHeartbeats 1600000 in
theorem find_any (A : Nat → Prop) (v : Value) (o : ObD) (nm : ByteArray) (w : World) (hv : ObV A w v o) (hf : Fine o.keys) (hl : o.keys.length ≤ 10000) :
    Calls Tryz.prog 89 #[v, .string nm] w (FindR o.keys nm w) := by
  obtain ⟨dv, kv, rfl, hd, hk⟩ := hv
  obtain ⟨da, dc, rfl⟩ := hd.shape
  obtain ⟨ka, kc, rfl⟩ := hk.shape
  obtain ⟨od, ks, os⟩ := o
  simp only at *
  have HK := Lib.hid hk
  have HF := Lib.hid hf
  clear hk hd hf
  go_enter Tryz.func89, Tryz.ntmps89
  go_wp2_with fail
  refine (bsf_any A ks ka kc nm _ (HK.out.ext (by ((repeat' (first | exact Below.refl _ _ | refine below_drewN ?_ _ | refine Below.drew ?_ | refine Below.alloc ?_ ?_ _ | refine Below.trans ?_ (Below.mono (by assumption) ?_))); all_goals (first | exact Nat.le_refl _ | exact Below.size (by assumption) | omega | (simp; done) | (simp; omega))))) HF.out hl).mono ?_
  rintro e w1 ⟨rfl, hb1⟩
  have HB1 := Lib.hid (((Below.refl _ w).alloc (Nat.le_refl _) _).trans (hb1.mono (by simp)))
  clear hb1
  go_wp2
  go_ret2
  exact ⟨rfl, HB1.out⟩
end Go.Proofs.YtgdilkhaopnhaaaGreatDoor
