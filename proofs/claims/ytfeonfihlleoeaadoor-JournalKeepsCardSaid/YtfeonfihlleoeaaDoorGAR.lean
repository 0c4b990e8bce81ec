/- Bits of int: a byte put behind a number. No program is named. The walk of frame.Next where there is a frame. The walk of frame.Next. -/
import Derived.Test.YtfeonfihlleoeaaDoorGAE
import Derived.Laws.BitsAllLaws
import Derived.Laws.BitsLemmas
import Derived.Test.YtfeonfihlleoeaaDoorGAQ
namespace Go.Proofs.YtfeonfihlleoeaaDoor
theorem ofInt_i64 (a : Nat) (ha : a < 9223372036854775808) : (BitVec.ofInt 64 (a : Int)).toNat = a := by
  rw [BitVec.ofInt_natCast, BitVec.toNat_ofNat]; exact Nat.mod_eq_of_lt (by omega)
theorem i64_or_nat (a b : Nat) (ha : a < 9223372036854775808) (hb : b < 9223372036854775808) : bits .or .i64 (a : Int) (b : Int) = ((a ||| b : Nat) : Int) := by
  have hx : a ||| b < 2 ^ 63 := Nat.or_lt_two_pow (by omega) (by omega)
  show IntKind.i64.wrap ((BitVec.ofInt 64 (a : Int) ||| BitVec.ofInt 64 (b : Int)).toNat : Int) = _
  rw [BitVec.toNat_or, ofInt_i64 a ha, ofInt_i64 b hb, IntKind.wrap_i64]
  omega
theorem i64_and_nat (a b : Nat) (ha : a < 9223372036854775808) (hb : b < 9223372036854775808) : bits .and .i64 (a : Int) (b : Int) = ((a &&& b : Nat) : Int) := by
  have hx : a &&& b < 2 ^ 63 := Nat.and_lt_two_pow _ (by omega)
  show IntKind.i64.wrap ((BitVec.ofInt 64 (a : Int) &&& BitVec.ofInt 64 (b : Int)).toNat : Int) = _
  rw [BitVec.toNat_and, ofInt_i64 a ha, ofInt_i64 b hb, IntKind.wrap_i64]
  omega
/-- a byte behind a number -/
theorem or_byte (a c : Nat) (hc : c < 256) (ha : a < 36028797018963968) : bits .or .i64 ((a : Int) * 256) (c : Int) = ((a * 256 + c : Nat) : Int) := by
  have e : ((a : Int) * 256) = ((a * 256 : Nat) : Int) := by omega
  rw [e, i64_or_nat _ _ (by omega) (by omega)]
  have h := Nat.shiftLeft_add_eq_or_of_lt (i := 8) (b := c) (by omega) a
  rw [Nat.shiftLeft_eq] at h
  rw [show a * 256 = a * 2 ^ 8 from rfl, ← h]
end Go.Proofs.YtfeonfihlleoeaaDoor
namespace Go.Proofs.YtfeonfihlleoeaaDoor
open Go.RowKit

theorem results_tmp4 {fn : Func} {t u v x : Tmp} (h : fn.results = #[.tmp t, .tmp u, .tmp v, .tmp x]) (tmps : Array Value) (P : Program) (w : World) :
    (results fn tmps).run P w = .ok (.tuple #[tmps.getD t undef, tmps.getD u undef, tmps.getD v undef, tmps.getD x undef]) w := by simp [results, h]
theorem none_any (x : Int) (w : World) : Calls Tryd.prog 84 #[.int .i64 x] w fun e w' => e = .returned (.tuple #[.int .i64 0, .slice none 0 0, .slice none 0 0, .int .i64 x]) ∧ w = w' := by
  go_enter Tryd.func84, Tryd.ntmps84
  go_wp2
  refine bodyPost_ret (results_tmp4 rfl _ _ _) rfl ?_
  exact ⟨rfl, rfl⟩
/-- what frame.Next leaves -/
def NextP (w : World) (r : NextR) (e : Ending) (w' : World) : Prop :=
  ∃ v1 v2 : Value, e = .returned (.tuple #[.int .i64 r.kind, v1, v2, .int .i64 r.e]) ∧ OB w.heap.size w' v1 r.body ∧ OB w.heap.size w' v2 r.rest ∧ Below w.heap.size w w'
theorem NextP.none (w w' : World) (x : Nat) (hb : Below w.heap.size w w') : NextP w ⟨0, [], [], x⟩ (.returned (.tuple #[.int .i64 0, .slice none 0 0, .slice none 0 0, .int .i64 x])) w' :=
  ⟨_, _, rfl, OB.nil _ _, OB.nil _ _, hb⟩
theorem RB.byte {A : Nat → Prop} {w : World} {b off n cap : Nat} {l : List UInt8} (h : RB A w (.slice (some ⟨b, off, none⟩) n cap) l) {k : Nat} (hk : k < n) : w.cell? ⟨b, off + k, none⟩ = some (.int .u8 (byteAt l k : Nat)) := by
  obtain rfl := h.len
  obtain ⟨b', off', e, -, -, hc⟩ := h.cell hk
  simp only [Option.some.injEq, Addr.mk.injEq] at e
  obtain ⟨rfl, rfl, -⟩ := e
  rw [hc]
  simp [byteAt, hk]
theorem byteAt_lt (l : List UInt8) (k : Nat) : byteAt l k < 256 := (l.getD k 0).toNat_lt
set_option maxRecDepth 100000 in
set_option maxHeartbeats 4000000 in
theorem next_ok (A : Nat → Prop) (b off n cap M : Nat) (l : List UInt8) (w : World) (hx : RB A w (.slice (some ⟨b, off, none⟩) n cap) l) (hl : n ≤ 100000) (hT : TabW w) (hg0 : 1 < w.heap.size)
    (h0 : byteAt l 0 = 90) (h1 : tailB (l.take 4) = (l.drop 4).take 4) (hM : M = byteAt l 2 * 256 + byteAt l 3) (h2 : M ≤ 8192) (h3 : M + 12 ≤ n) (h4 : tailB ((l.drop 8).take M) = (l.drop (8 + M)).take 4) (h5 : ¬ cap = 8 + M + 4) :
    Calls Tryd.prog 68 #[.slice (some ⟨b, off, none⟩) n cap] w (NextP w ⟨byteAt l 1, (l.drop 8).take M, l.drop (8 + M + 4), 0⟩) := by
  obtain ⟨hbl, hA, hn, hcap⟩ := hx.in_
  have c0 : w.cell? ⟨b, off, none⟩ = _ := hx.byte (k := 0) (by omega)
  have c1 := hx.byte (k := 1) (by omega)
  have c2 := hx.byte (k := 2) (by omega)
  have c3 := hx.byte (k := 3) (by omega)
  have e23 := or_byte (byteAt l 2) (byteAt l 3) (byteAt_lt _ _) (by have := byteAt_lt l 2; omega)
  have hS1 : ∀ W, Below w.heap.size w W → Calls Tryd.prog 85 #[.slice (some ⟨b, off, none⟩) 8 cap] W fun e w' => e = .returned (.bool (decide (tailB (l.take 4) = (l.drop 4).take 4))) ∧ Below W.heap.size W w' := fun W hW => by
    have h := sealed_any A b off 4 cap (l.take 8) W (RB.ext (RB.take (by rw [hn]; exact hx) (by omega) cap (by omega)) hW) (by omega) (tab_below hT hW hg0) (Nat.lt_of_lt_of_le hg0 hW.size)
    rw [List.take_take, List.drop_take] at h
    exact h
  have HS1 := Lib.hid hS1
  have HX := Lib.hid hx
  have b0 := byteAt_lt l 0
  have b1 := byteAt_lt l 1
  have b2 := byteAt_lt l 2
  have b3 := byteAt_lt l 3
  have i0 : ¬ cap = 0 := by omega
  have i8 : 8 ≤ cap := by omega
  clear hx hS1
  rw [h0] at c0
  rw [← hM] at e23
  generalize byteAt l 1 = k1 at *
  generalize byteAt l 2 = k2 at *
  generalize byteAt l 3 = k3 at *
  have d1 : decide (tailB (l.take 4) = (l.drop 4).take 4) = true := decide_eq_true h1
  have hS2 : ∀ W, Below w.heap.size w W → Calls Tryd.prog 85 #[.slice (some ⟨b, off + 8, none⟩) (M + 4) (cap - 8)] W fun e w' => e = .returned (.bool (decide (tailB ((l.drop 8).take M) = (l.drop (8 + M)).take 4))) ∧ Below W.heap.size W w' := fun W hW => by
    have hx1 := RB.drop (by rw [hn]; exact HX.out) (n := 8) (by omega) (cap - 8) (by omega)
    have hx2 := RB.take (n := M + 4) (by rw [List.length_drop]; exact hx1) (by simp; omega) (cap - 8) (by omega)
    have h := sealed_any A b (off + 8) M (cap - 8) _ W (RB.ext hx2 hW) (by omega) (tab_below hT hW hg0) (Nat.lt_of_lt_of_le hg0 hW.size)
    rw [List.take_take, List.drop_take, List.drop_drop, Nat.min_eq_left (by omega), Nat.add_sub_cancel_left] at h
    exact h
  have HS2 := Lib.hid hS2
  have d2 : decide (tailB ((l.drop 8).take M) = (l.drop (8 + M)).take 4) = true := decide_eq_true h4
  have hC1 : ∀ W, Below w.heap.size w W → Calls Tryd.prog 53 #[.slice (some ⟨b, off + 8, none⟩) M (cap - 8)] W fun e w' => ∃ v, e = .returned v ∧ OB w.heap.size w' v ((l.drop 8).take M) ∧ Below W.heap.size W w' ∧ Below w.heap.size w w' := fun W hW => by
    have hx1 := RB.drop (by rw [hn]; exact HX.out) (n := 8) (by omega) (cap - 8) (by omega)
    have hx2 := RB.take (n := M) (by rw [List.length_drop]; exact hx1) (by simp; omega) (cap - 8) (by omega)
    refine (cloneB_any A _ _ W (by simp; omega) (RB.ext hx2 hW)).mono ?_
    rintro e w' ⟨v, rfl, ho, hb⟩
    exact ⟨v, rfl, ho.base_le hW.size, hb, hW.trans (hb.mono hW.size)⟩
  have HC1 := Lib.hid hC1
  have C1 := Lib.hid c1
  have hC2 : ∀ W, Below w.heap.size w W → Calls Tryd.prog 53 #[.slice (some ⟨b, off + (8 + M + 4), none⟩) (n - (8 + M + 4)) (cap - (8 + M + 4))] W fun e w' => ∃ v, e = .returned v ∧ OB w.heap.size w' v (l.drop (8 + M + 4)) ∧ Below W.heap.size W w' ∧ Below w.heap.size w w' := fun W hW => by
    have hx1 := RB.drop (by rw [hn]; exact HX.out) (n := 8 + M + 4) (by omega) (cap - (8 + M + 4)) (by omega)
    rw [hn] at hx1
    refine (cloneB_any A _ _ W (by simp; omega) (RB.ext hx1 hW)).mono ?_
    rintro e w' ⟨v, rfl, ho, hb⟩
    exact ⟨v, rfl, ho.base_le hW.size, hb, hW.trans (hb.mono hW.size)⟩
  have HC2 := Lib.hid hC2
  clear hC1 hC2 hS2 h0 h1 h4 hM hn
  have i12 : ¬ cap = 8 := by omega
  have i13 : 8 + M + 4 - 8 = M + 4 := by omega
  have i14 : 8 + M + 4 ≤ cap := by omega
  have i15 : 8 + (M : Int) + 4 ≤ (n : Int) := by omega
  have i16 : 8 + M + 4 ≤ n := by omega
  have i17 : (1 : Int) < (n : Int) := by omega
  have i18 : 1 < n := by omega
  have i19 : (8 : Int) ≤ 8 + (M : Int) := by omega
  have i20 : 8 + (M : Int) ≤ (cap : Int) := by omega
  have i21 : (0 : Int) ≤ 8 + (M : Int) + 4 := by omega
  have i22 : (0 : Int) ≤ 8 + (M : Int) := by omega
  have j1 : IntKind.i64.wrap (8 + (M : Int)) = 8 + (M : Int) := IntWalk.i64_in _ (by omega)
  have j2 : (8 + (M : Int)).toNat = 8 + M := by omega
  have j3 : (8 + (M : Int) + 4).toNat = 8 + M + 4 := by omega
  have j4 : IntKind.i64.wrap (k1 : Int) = k1 := IntWalk.i64_in _ (by omega)
  go_enter Tryd.func68, Tryd.ntmps68
  go_wp2_with fail
  ((with_reducible refine (HS1.out _ (Below.refl _ _)).mono ?_))
  rintro e w1 ⟨rfl, hb1⟩
  replace c1 := cellExt hb1 c1
  replace c2 := cellExt hb1 c2
  replace c3 := cellExt hb1 c3
  clear c0
  go_wp2_with fail
  go_quiet (fail)
  go_wp2_with fail
  ((with_reducible refine (HS2.out _ (below_drewN hb1 _)).mono ?_))
  rintro e w2 ⟨rfl, hb2⟩
  have hb12 : Below w.heap.size w w2 := (below_drewN hb1 _).trans (hb2.mono hb1.size)
  have c1' : w2.cell? ⟨b, off + 1, none⟩ = some (.int .u8 (k1 : Nat)) := cellB hb12 hbl C1.out
  clear c1 c2 c3 hb2 hb1
  go_wp2_with fail
  go_region_held3 (fun w' => Below w.heap.size w w' ∧ w'.cell? ⟨b, off + 1, none⟩ = some (.int .u8 (k1 : Nat)))
    (first | exact ⟨hb12.drew, c1'⟩ | (go_split_ands; first | exact ⟨hba', cellB hba' hbl C1.out⟩ | exact ⟨hbb', cellB hbb' hbl C1.out⟩))
    (first | (go_at_call 53; (try go_split_ands); ((with_reducible refine (HC1.out _ (by first | assumption | exact hb12.drew)).mono ?_)); rintro e wa ⟨va, rfl, hoa, hba, hba'⟩) | (go_at_call 53; (try go_split_ands); ((with_reducible refine (HC2.out _ (by first | assumption | exact hb12.drew)).mono ?_)); rintro e wb ⟨vb, rfl, hob, hbb, hbb'⟩))
  all_goals
    go_wp2
    refine bodyPost_ret (results_tmp4 rfl _ _ _) rfl ?_
    first | exact ⟨_, _, rfl, hoa, hob.ext hba, by assumption⟩ | exact ⟨_, _, rfl, hoa.ext hbb, hob, by assumption⟩

set_option maxRecDepth 100000 in
set_option maxHeartbeats 4000000 in
theorem next_full (A : Nat → Prop) (b off E M : Nat) (l : List UInt8) (w : World) (hx : RB A w (.slice (some ⟨b, off, none⟩) E E) l) (hl : E ≤ 100000) (hT : TabW w) (hg0 : 1 < w.heap.size)
    (h0 : byteAt l 0 = 90) (h1 : tailB (l.take 4) = (l.drop 4).take 4) (hM : M = byteAt l 2 * 256 + byteAt l 3) (h2 : M ≤ 8192) (hE : E = 8 + M + 4) (h4 : tailB ((l.drop 8).take M) = (l.drop (8 + M)).take 4) :
    Calls Tryd.prog 68 #[.slice (some ⟨b, off, none⟩) E E] w (NextP w ⟨byteAt l 1, (l.drop 8).take M, l.drop (8 + M + 4), 0⟩) := by
  obtain ⟨n, hn0⟩ : ∃ n, n = E := ⟨E, rfl⟩
  obtain ⟨cap, hcap0⟩ : ∃ cap, cap = E := ⟨E, rfl⟩
  have hxx : RB A w (.slice (some ⟨b, off, none⟩) n cap) l := by rw [hn0, hcap0]; exact hx
  replace hx := hxx
  clear hxx
  obtain ⟨hbl, hA, hn, hcap⟩ := hx.in_
  have c0 : w.cell? ⟨b, off, none⟩ = _ := hx.byte (k := 0) (by omega)
  have c1 := hx.byte (k := 1) (by omega)
  have c2 := hx.byte (k := 2) (by omega)
  have c3 := hx.byte (k := 3) (by omega)
  have e23 := or_byte (byteAt l 2) (byteAt l 3) (byteAt_lt _ _) (by have := byteAt_lt l 2; omega)
  have hS1 : ∀ W, Below w.heap.size w W → Calls Tryd.prog 85 #[.slice (some ⟨b, off, none⟩) 8 cap] W fun e w' => e = .returned (.bool (decide (tailB (l.take 4) = (l.drop 4).take 4))) ∧ Below W.heap.size W w' := fun W hW => by
    have h := sealed_any A b off 4 cap (l.take 8) W (RB.ext (RB.take (by rw [hn]; exact hx) (by omega) cap (by omega)) hW) (by omega) (tab_below hT hW hg0) (Nat.lt_of_lt_of_le hg0 hW.size)
    rw [List.take_take, List.drop_take] at h
    exact h
  have HS1 := Lib.hid hS1
  have HX := Lib.hid hx
  have b0 := byteAt_lt l 0
  have b1 := byteAt_lt l 1
  have b2 := byteAt_lt l 2
  have b3 := byteAt_lt l 3
  have i0 : ¬ cap = 0 := by omega
  have i8 : 8 ≤ cap := by omega
  clear hx hS1
  rw [h0] at c0
  rw [← hM] at e23
  generalize byteAt l 1 = k1 at *
  generalize byteAt l 2 = k2 at *
  generalize byteAt l 3 = k3 at *
  have d1 : decide (tailB (l.take 4) = (l.drop 4).take 4) = true := decide_eq_true h1
  have hS2 : ∀ W, Below w.heap.size w W → Calls Tryd.prog 85 #[.slice (some ⟨b, off + 8, none⟩) (E - 8) (E - 8)] W fun e w' => e = .returned (.bool (decide (tailB ((l.drop 8).take M) = (l.drop (8 + M)).take 4))) ∧ Below W.heap.size W w' := fun W hW => by
    have hx1 := RB.drop (by rw [hn]; exact HX.out) (n := 8) (by omega) (cap - 8) (by omega)
    have hx2 := RB.take (n := M + 4) (by rw [List.length_drop]; exact hx1) (by simp; omega) (cap - 8) (by omega)
    have h := sealed_any A b (off + 8) M (cap - 8) _ W (RB.ext hx2 hW) (by omega) (tab_below hT hW hg0) (Nat.lt_of_lt_of_le hg0 hW.size)
    rw [List.take_take, List.drop_take, List.drop_drop, Nat.min_eq_left (by omega), Nat.add_sub_cancel_left] at h
    rw [show cap - 8 = E - 8 by omega, show M + 4 = E - 8 by omega] at h
    exact h
  have d2 : decide (tailB ((l.drop 8).take M) = (l.drop (8 + M)).take 4) = true := decide_eq_true h4
  have hC1 : ∀ W, Below w.heap.size w W → Calls Tryd.prog 53 #[.slice (some ⟨b, off + 8, none⟩) M (E - 8)] W fun e w' => ∃ v, e = .returned v ∧ OB w.heap.size w' v ((l.drop 8).take M) ∧ Below W.heap.size W w' ∧ Below w.heap.size w w' := fun W hW => by
    have hx1 := RB.drop (by rw [hn]; exact HX.out) (n := 8) (by omega) (cap - 8) (by omega)
    have hx2 := RB.take (n := M) (by rw [List.length_drop]; exact hx1) (by simp; omega) (cap - 8) (by omega)
    rw [hcap0] at hx2
    refine (cloneB_any A _ _ W (by simp; omega) (RB.ext hx2 hW)).mono ?_
    rintro e w' ⟨v, rfl, ho, hb⟩
    exact ⟨v, rfl, ho.base_le hW.size, hb, hW.trans (hb.mono hW.size)⟩
  have C1 := Lib.hid c1
  have hC2 : ∀ W, Below w.heap.size w W → Calls Tryd.prog 53 #[.slice (some ⟨b, off, none⟩) 0 0] W fun e w' => ∃ v, e = .returned v ∧ OB w.heap.size w' v (l.drop (8 + M + 4)) ∧ Below W.heap.size W w' ∧ Below w.heap.size w w' := fun W hW => by
    rw [List.drop_of_length_le (by omega)]
    refine (cloneB_any A _ [] W (by simp) (RB.empty_at (Nat.lt_of_lt_of_le hbl hW.size) hA)).mono ?_
    rintro e w' ⟨v, rfl, ho, hb⟩
    exact ⟨v, rfl, ho.base_le hW.size, hb, hW.trans (hb.mono hW.size)⟩
  subst hn0
  obtain rfl := hcap0
  have HS1' := Lib.hid HS1.out
  clear HS1
  have HS1 := HS1'
  have HS2 := Lib.hid hS2
  have HC1 := Lib.hid hC1
  have HC2 := Lib.hid hC2
  clear hC1 hC2 hS2 h0 h1 h4 hM hn hcap HX HS1' i8
  have hE' : 8 + M + 4 = cap := hE.symm
  have i8 : 8 ≤ cap := by omega
  have i11 : (8 : Int) ≤ (cap : Int) := by omega
  have i12 : ¬ cap = 8 := by omega
  have i15 : 8 + (M : Int) + 4 ≤ (cap : Int) := by omega
  have i17 : (1 : Int) < (cap : Int) := by omega
  have i18 : 1 < cap := by omega
  have i19 : (8 : Int) ≤ 8 + (M : Int) := by omega
  have i20 : 8 + (M : Int) ≤ (cap : Int) := by omega
  have i21 : (0 : Int) ≤ 8 + (M : Int) + 4 := by omega
  have i22 : (0 : Int) ≤ 8 + (M : Int) := by omega
  have j1 : IntKind.i64.wrap (8 + (M : Int)) = 8 + (M : Int) := IntWalk.i64_in _ (by omega)
  have j2 : (8 + (M : Int)).toNat = 8 + M := by omega
  have j3 : (8 + (M : Int) + 4).toNat = cap := by omega
  have j4 : IntKind.i64.wrap (k1 : Int) = k1 := IntWalk.i64_in _ (by omega)
  clear hE
  go_enter Tryd.func68, Tryd.ntmps68
  go_wp2_with fail
  ((with_reducible refine (HS1.out _ (Below.refl _ _)).mono ?_))
  rintro e w1 ⟨rfl, hb1⟩
  replace c1 := cellExt hb1 c1
  replace c2 := cellExt hb1 c2
  replace c3 := cellExt hb1 c3
  clear c0
  go_wp2_with fail
  go_quiet (fail)
  go_wp2_with fail
  ((with_reducible refine (HS2.out _ (below_drewN hb1 _)).mono ?_))
  rintro e w2 ⟨rfl, hb2⟩
  have hb12 : Below w.heap.size w w2 := (below_drewN hb1 _).trans (hb2.mono hb1.size)
  have c1' : w2.cell? ⟨b, off + 1, none⟩ = some (.int .u8 (k1 : Nat)) := cellB hb12 hbl C1.out
  clear c1 c2 c3 hb2 hb1
  go_wp2_with fail
  go_region_held3 (fun w' => Below w.heap.size w w' ∧ w'.cell? ⟨b, off + 1, none⟩ = some (.int .u8 (k1 : Nat)))
    (first | exact ⟨hb12.drew, c1'⟩ | (go_split_ands; first | exact ⟨hba', cellB hba' hbl C1.out⟩ | exact ⟨hbb', cellB hbb' hbl C1.out⟩))
    (first | (go_at_call 53; (try go_split_ands); ((with_reducible refine (HC1.out _ (by first | assumption | exact hb12.drew)).mono ?_)); rintro e wa ⟨va, rfl, hoa, hba, hba'⟩) | (go_at_call 53; (try go_split_ands); ((with_reducible refine (HC2.out _ (by first | assumption | exact hb12.drew)).mono ?_)); rintro e wb ⟨vb, rfl, hob, hbb, hbb'⟩))
  all_goals
    go_wp2
    refine bodyPost_ret (results_tmp4 rfl _ _ _) rfl ?_
    first | exact ⟨_, _, rfl, hoa, hob.ext hba, by assumption⟩ | exact ⟨_, _, rfl, hoa.ext hbb, hob, by assumption⟩
end Go.Proofs.YtfeonfihlleoeaaDoor
namespace Go.Proofs.YtfeonfihlleoeaaDoor
open Go.RowKit

set_option maxRecDepth 100000 in
set_option maxHeartbeats 4000000 in
theorem next_some (A : Nat → Prop) (b off n cap : Nat) (l : List UInt8) (w : World) (hx : RB A w (.slice (some ⟨b, off, none⟩) n cap) l) (hl : n ≤ 100000) (hT : TabW w) (hg0 : 1 < w.heap.size) (h8 : 8 ≤ n) :
    Calls Tryd.prog 68 #[.slice (some ⟨b, off, none⟩) n cap] w (NextP w (nextB l)) := by
  obtain ⟨hbl, hA, hn, hcap⟩ := hx.in_
  have c0 : w.cell? ⟨b, off, none⟩ = _ := hx.byte (k := 0) (by omega)
  have c1 := hx.byte (k := 1) (by omega)
  have c2 := hx.byte (k := 2) (by omega)
  have c3 := hx.byte (k := 3) (by omega)
  have e23 := or_byte (byteAt l 2) (byteAt l 3) (byteAt_lt _ _) (by have := byteAt_lt l 2; omega)
  have hS1 : ∀ W, Below w.heap.size w W → Calls Tryd.prog 85 #[.slice (some ⟨b, off, none⟩) 8 cap] W fun e w' => e = .returned (.bool (decide (tailB (l.take 4) = (l.drop 4).take 4))) ∧ Below W.heap.size W w' := fun W hW => by
    have h := sealed_any A b off 4 cap (l.take 8) W (RB.ext (RB.take (by rw [hn]; exact hx) (by omega) cap (by omega)) hW) (by omega) (tab_below hT hW hg0) (Nat.lt_of_lt_of_le hg0 hW.size)
    rw [List.take_take, List.drop_take] at h
    exact h
  have hN : nextB l = if byteAt l 0 ≠ 90 then ⟨0, [], [], 11⟩ else if tailB (l.take 4) ≠ (l.drop 4).take 4 then ⟨0, [], [], 20⟩
      else if 8192 < byteAt l 2 * 256 + byteAt l 3 then ⟨0, [], [], 11⟩
      else if n < byteAt l 2 * 256 + byteAt l 3 + 12 then ⟨0, [], [], 10⟩
      else if tailB ((l.drop 8).take (byteAt l 2 * 256 + byteAt l 3)) ≠ (l.drop (8 + (byteAt l 2 * 256 + byteAt l 3))).take 4 then ⟨0, [], [], 20⟩
      else ⟨byteAt l 1, (l.drop 8).take (byteAt l 2 * 256 + byteAt l 3), l.drop (8 + (byteAt l 2 * 256 + byteAt l 3) + 4), 0⟩ := by
    unfold nextB
    rw [hn, if_neg (by omega)]
  have HN := Lib.hid hN
  have HS1 := Lib.hid hS1
  have HX := Lib.hid hx
  have b0 := byteAt_lt l 0
  have b1 := byteAt_lt l 1
  have b2 := byteAt_lt l 2
  have b3 := byteAt_lt l 3
  have i0 : ¬ cap = 0 := by omega
  have i8 : 8 ≤ cap := by omega
  clear hx hN hS1
  by_cases h0 : byteAt l 0 = 90
  · rw [h0] at c0
    have HN1 := Lib.hid (HN.out.trans (if_neg (fun h => h h0)))
    have H0 := Lib.hid h0
    clear HN h0
    obtain ⟨k1, hk1⟩ : ∃ k, byteAt l 1 = k := ⟨_, rfl⟩
    have HK1 := Lib.hid hk1
    obtain ⟨M, hM0⟩ : ∃ M, M = byteAt l 2 * 256 + byteAt l 3 := ⟨_, rfl⟩
    have HM := Lib.hid hM0
    rw [hk1] at c1 HN1 b1
    rw [← hM0] at e23 HN1
    clear hk1
    have hM : M < 65536 := by omega
    clear hM0
    generalize hk2 : byteAt l 2 = k2 at c2 e23 b2
    generalize hk3 : byteAt l 3 = k3 at c3 e23 b3
    clear hk2 hk3
    by_cases h1 : tailB (l.take 4) = (l.drop 4).take 4
    · have d1 : decide (tailB (l.take 4) = (l.drop 4).take 4) = true := decide_eq_true h1
      have HN2 := Lib.hid (HN1.out.trans (if_neg (fun h => h h1)))
      have H1 := Lib.hid h1
      clear HN1 h1
      rcases Nat.lt_or_ge 8192 M with h2 | h2
      · have HN3 := Lib.hid (HN2.out.trans (if_pos h2))
        clear HN2
        go_enter Tryd.func68, Tryd.ntmps68
        go_wp2_with fail
        refine (HS1.out _ (Below.refl _ _)).mono ?_
        rintro e w1 ⟨rfl, hb1⟩
        replace c2 := cellExt hb1 c2
        replace c3 := cellExt hb1 c3
        clear c0
        go_wp2_with fail
        go_quiet (fail)
        go_wp2_with fail
        refine (none_any _ _).mono ?_
        rintro e wf ⟨rfl, rfl⟩
        go_wp2
        refine bodyPost_ret (results_tmp4 rfl _ _ _) rfl ?_
        rw [HN3.out]
        exact NextP.none _ _ _ (by ((repeat' (first | exact Below.refl _ _ | refine below_drewN ?_ _ | refine Below.drew ?_ | refine Below.alloc ?_ ?_ _ | refine Below.trans ?_ (Below.mono (by assumption) ?_))); all_goals (first | exact Nat.le_refl _ | exact Below.size (by assumption) | omega | (simp; done) | (simp; omega))))
      · have HN3 := Lib.hid (HN2.out.trans (if_neg (by omega)))
        clear HN2
        rcases Nat.lt_or_ge n (M + 12) with h3 | h3
        · have HN4 := Lib.hid (HN3.out.trans (if_pos h3))
          clear HN3
          go_enter Tryd.func68, Tryd.ntmps68
          go_wp2_with fail
          refine (HS1.out _ (Below.refl _ _)).mono ?_
          rintro e w1 ⟨rfl, hb1⟩
          replace c2 := cellExt hb1 c2
          replace c3 := cellExt hb1 c3
          clear c0
          go_wp2_with fail
          go_quiet (fail)
          go_wp2_with fail
          refine (none_any _ _).mono ?_
          rintro e wf ⟨rfl, rfl⟩
          go_wp2
          refine bodyPost_ret (results_tmp4 rfl _ _ _) rfl ?_
          rw [HN4.out]
          exact NextP.none _ _ _ (by ((repeat' (first | exact Below.refl _ _ | refine below_drewN ?_ _ | refine Below.drew ?_ | refine Below.alloc ?_ ?_ _ | refine Below.trans ?_ (Below.mono (by assumption) ?_))); all_goals (first | exact Nat.le_refl _ | exact Below.size (by assumption) | omega | (simp; done) | (simp; omega))))
        · have HN4 := Lib.hid (HN3.out.trans (if_neg (by omega)))
          clear HN3
          by_cases h4 : tailB ((l.drop 8).take M) = (l.drop (8 + M)).take 4
          · have HN5 := Lib.hid (HN4.out.trans (if_neg (fun h => h h4)))
            rw [HN5.out]
            rw [← HK1.out]
            by_cases h5 : cap = 8 + M + 4
            · obtain rfl : n = cap := by omega
              exact next_full A b off n M l w HX.out hl hT hg0 H0.out H1.out HM.out h2 h5 h4
            · exact next_ok A b off n cap M l w HX.out hl hT hg0 H0.out H1.out HM.out h2 h3 h4 h5
          · have hS2 : ∀ W, Below w.heap.size w W → Calls Tryd.prog 85 #[.slice (some ⟨b, off + 8, none⟩) (M + 4) (cap - 8)] W fun e w' => e = .returned (.bool (decide (tailB ((l.drop 8).take M) = (l.drop (8 + M)).take 4))) ∧ Below W.heap.size W w' := fun W hW => by
              have hx1 := RB.drop (by rw [hn]; exact HX.out) (n := 8) (by omega) (cap - 8) (by omega)
              have hx2 := RB.take (n := M + 4) (by rw [List.length_drop]; exact hx1) (by simp; omega) (cap - 8) (by omega)
              have h := sealed_any A b (off + 8) M (cap - 8) _ W (RB.ext hx2 hW) (by omega) (tab_below hT hW hg0) (Nat.lt_of_lt_of_le hg0 hW.size)
              rw [List.take_take, List.drop_take, List.drop_drop, Nat.min_eq_left (by omega), Nat.add_sub_cancel_left] at h
              exact h
            have HS2 := Lib.hid hS2
            clear hS2
            have i12 : ¬ cap = 8 := by omega
            have i13 : 8 + M + 4 - 8 = M + 4 := by omega
            have i14 : 8 + M + 4 ≤ cap := by omega
            have d2 : decide (tailB ((l.drop 8).take M) = (l.drop (8 + M)).take 4) = false := decide_eq_false h4
            have HN5 := Lib.hid (HN4.out.trans (if_pos h4))
            clear HN4 h4
            go_enter Tryd.func68, Tryd.ntmps68
            go_wp2_with fail
            refine (HS1.out _ (Below.refl _ _)).mono ?_
            rintro e w1 ⟨rfl, hb1⟩
            replace c2 := cellExt hb1 c2
            replace c3 := cellExt hb1 c3
            clear c0
            go_wp2_with fail
            go_quiet (fail)
            go_wp2_with fail
            ((with_reducible refine (HS2.out _ (below_drewN hb1 _)).mono ?_))
            rintro e w2 ⟨rfl, hb2⟩
            have hb12 : Below w.heap.size w w2 := (below_drewN hb1 _).trans (hb2.mono hb1.size)
            go_wp2_with fail
            refine (none_any _ _).mono ?_
            rintro e wf ⟨rfl, rfl⟩
            go_wp2
            refine bodyPost_ret (results_tmp4 rfl _ _ _) rfl ?_
            rw [HN5.out]
            exact NextP.none _ _ _ hb12
    · have d1 : decide (tailB (l.take 4) = (l.drop 4).take 4) = false := decide_eq_false h1
      have HN2 := Lib.hid (HN1.out.trans (if_pos h1))
      clear HN1 h1
      go_enter Tryd.func68, Tryd.ntmps68
      go_wp2_with fail
      refine (HS1.out _ (Below.refl _ _)).mono ?_
      rintro e w1 ⟨rfl, hb1⟩
      go_wp2_with fail
      refine (none_any _ _).mono ?_
      rintro e wf ⟨rfl, rfl⟩
      go_wp2
      refine bodyPost_ret (results_tmp4 rfl _ _ _) rfl ?_
      rw [HN2.out]
      exact NextP.none _ _ _ hb1
  · have HN1 := Lib.hid (HN.out.trans (if_pos h0))
    have t0 : ((byteAt l 0 : Int) != 90) = true := by simp; omega
    clear HN h0
    go_enter Tryd.func68, Tryd.ntmps68
    go_wp2_with fail
    refine (none_any _ _).mono ?_
    rintro e wf ⟨rfl, rfl⟩
    go_wp2
    refine bodyPost_ret (results_tmp4 rfl _ _ _) rfl ?_
    rw [HN1.out]
    exact NextP.none _ _ _ (Below.refl _ _)

set_option maxRecDepth 100000 in
theorem next_few (v : Value) (A : Nat → Prop) (l : List UInt8) (w : World) (hx : RB A w v l) (h8 : l.length < 8) :
    Calls Tryd.prog 68 #[v] w (NextP w (nextB l)) := by
  obtain ⟨a, c, rfl⟩ := hx.shape
  have HN : Hid (nextB l = ⟨0, [], [], 10⟩) := if_pos h8
  clear hx
  go_enter Tryd.func68, Tryd.ntmps68
  go_wp2_with fail
  refine (none_any _ _).mono ?_
  rintro e wf ⟨rfl, rfl⟩
  go_wp2
  refine bodyPost_ret (results_tmp4 rfl _ _ _) rfl ?_
  rw [HN.out]
  exact NextP.none _ _ _ (Below.refl _ _)
theorem next_any (v : Value) (A : Nat → Prop) (l : List UInt8) (w : World) (hx : RB A w v l) (hl : l.length ≤ 100000) (hT : TabW w) (hg0 : 1 < w.heap.size) :
    Calls Tryd.prog 68 #[v] w (NextP w (nextB l)) := by
  rcases Nat.lt_or_ge l.length 8 with h | h
  · exact next_few v A l w hx h
  · obtain ⟨a, c, rfl⟩ := hx.shape
    obtain ⟨b, off, rfl, -⟩ := hx.cell (k := 0) (by omega)
    exact next_some A b off _ c l w hx hl hT hg0 h
end Go.Proofs.YtfeonfihlleoeaaDoor
