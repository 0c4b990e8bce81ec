/- The walk of wire.put: a number's bytes behind all; wire.Num, wire.Blob. -/
import Derived.Test.YtlekdfajcpmolaaGreatDoorGAB
import Derived.Test.YtlekdfajcpmolaaGreatDoorGAE
namespace Go.Proofs.YtlekdfajcpmolaaGreatDoor
open Go.RowKit

set_option maxRecDepth 100000 in
theorem wide_any (W : Nat) (h1 : 1 ≤ W) (h7 : W ≤ 7) (w : World) : Calls Tryz.prog 171 #[.int .i64 W] w fun e w' => e = .returned (.int .i64 W) ∧ w = w' := by
  have e1 : max (W : Int) 1 = W := by omega
  have e2 : min (W : Int) 7 = W := by omega
  go_enter Tryz.func171, Tryz.ntmps171
  go_wp2
  go_ret
  exact ⟨rfl, rfl⟩
theorem shr_byte (n j : Nat) : ((UInt8.ofNat (n / 256 ^ j)).toNat : Int) = (n : Int) / 2 ^ (8 * j) % 256 := by
  have e : (2 : Int) ^ (8 * j) = ((256 ^ j : Nat) : Int) := by rw [Int.pow_mul, Int.natCast_pow]; rfl
  rw [byte_of, e]
  omega
theorem top_of (W n : Nat) (h1 : 1 ≤ W) (h7 : W ≤ 7) (hn : n < 256 ^ W) : ∃ Z : Int, wrap64 (2 ^ (8 * W)) = Z ∧ (n : Int) < Z ∧ Z ≤ 72057594037927936 := by
  obtain rfl | rfl | rfl | rfl | rfl | rfl | rfl : W = 1 ∨ W = 2 ∨ W = 3 ∨ W = 4 ∨ W = 5 ∨ W = 6 ∨ W = 7 := by omega
  all_goals
    refine ⟨_, rfl, ?_⟩
    simp only [Nat.reducePow, Nat.reduceMul, Int.reducePow] at hn ⊢
    unfold wrap64
    omega
set_option maxRecDepth 100000 in
set_option maxHeartbeats 1600000 in
theorem put_any (W n : Nat) (h1 : 1 ≤ W) (h7 : W ≤ 7) (hn : n < 256 ^ W) (base : Nat) (v : Value) (l : List UInt8) (w : World) (hv : OB base w v l) (hbase : base ≤ w.heap.size) (hl : l.length ≤ 1000000) :
    Calls Tryz.prog 169 #[v, .int .i64 W, .int .i64 n] w fun e w' => ∃ v', e = .returned v' ∧ OB base w' v' (l ++ be W n) ∧ Below base w w' := by
  obtain ⟨i0, hi, hz0, hz1, hz2⟩ := info_parts infoByte
  have HV := Lib.hid hv
  obtain ⟨Z, hZ, hnZ, hZb⟩ := top_of W n h1 h7 hn
  clear hv hn
  go_enter Tryz.func169, Tryz.ntmps169
  go_wp2_with fail
  refine (wide_any W h1 h7 _).mono ?_
  rintro e w1 ⟨rfl, rfl⟩
  go_wp2_with fail
  clear hZ hnZ hZb
  go_loopw [0, 20] (fun u q wr => ∃ k : Nat, k ≤ W ∧ q = .int .i64 k ∧ OB base wr u (l ++ (be W n).take k) ∧ Below base w wr) (fun _ q _ => W - (intOf q).toNat)
  case atStart => exact ⟨0, by omega, rfl, by simpa using HV.out, Below.refl _ _⟩
  case round =>
    obtain ⟨k, hk, rfl, ho, hb⟩ := hrel
    have HO := Lib.hid ho
    clear ho
    have hlen : (l ++ (be W n).take k).length = l.length + k := by simp [be_length]; omega
    have HLN := Lib.hid hlen
    have hs := hb.size
    by_cases hlt : k < W
    · clear hlen
      have HK := Lib.hid (be_take_succ W n k hlt)
      have HB := Lib.hid (shr_byte n (W - 1 - k))
      go_wp2_with (first | (at_builtin; refine wpList_append_own _ rfl _ _ 28 rfl base 5 i0 (.int .u8 0) 1 1 Tryz.underlying28 hi hz0 hz1 hz2 rfl (by decide) _ _ _ rfl (HO.out.alloc _) ⟨wr.heap.size, 0, none⟩ 1 1 [.int .u8 ((n : Int) / 2 ^ (8 * (W - 1 - k)) % 256)] rfl rfl (cells_new wr [.int .u8 ((n : Int) / 2 ^ (8 * (W - 1 - k)) % 256)] _) ?c1 ?c2 ?c3 ?c4 ?_) | go_in)
      case c1 => simp [Value.oneCell']
      case c2 => have := HLN.out; unfold maxLen; omega
      case c3 => have := HLN.out; omega
      case c4 => simp; omega
      intro v1 w1 ho hg hn
      have HO1 : Hid (OB base w1 v1 (l ++ (be W n).take (k + 1))) := by
        refine OB.cast ho (by rw [HK.out]; simp; omega) (by rw [HK.out]; simp [bv, ← HB.out])
      have hb1 : Below base w w1 := (hb.alloc (by omega) _).grown hg (by simp; omega) fun j hj => (HO.out.lt j hj).1
      clear ho hg hn
      go_wp2
      go_roundw
      case rel => exact ⟨k + 1, by omega, by go_num, HO1.out, hb1⟩
      case measure => simp [intOf]; omega
    · obtain rfl : k = W := by omega
      have HT : Hid ((be k n).take k = be k n) := by
        show List.take k (be k n) = be k n
        exact List.take_of_length_le (by rw [be_length]; exact Nat.le_refl _)
      go_wp2
      go_ret
      have := HO.out
      rw [HT.out] at this
      exact ⟨_, rfl, this, hb⟩

set_option maxRecDepth 100000 in
theorem num_any (W n : Nat) (h1 : 1 ≤ W) (h7 : W ≤ 7) (hn : n < 256 ^ W) (A : Nat → Prop) (v : Value) (l : List UInt8) (w : World) (hv : RB A w v l) (hl : l.length ≤ 1000000) :
    Calls Tryz.prog 109 #[v, .int .i64 W, .int .i64 n] w (NewB w (l ++ be W n)) := by
  have HV := Lib.hid hv
  have HN := Lib.hid hn
  clear hv hn
  go_enter Tryz.func109, Tryz.ntmps109
  go_wp2_with fail
  refine (cloneB_any A _ l _ hl HV.out).mono ?_
  rintro e w1 ⟨v1, rfl, ho, hb1⟩
  have HO := Lib.hid ho
  clear ho
  go_wp2_with fail
  refine (put_any W n h1 h7 HN.out w.heap.size _ l _ HO.out hb1.size hl).mono ?_
  rintro e w2 ⟨v2, rfl, ho, hb2⟩
  have HO2 := Lib.hid ho
  clear ho
  go_wp2
  go_ret
  exact ⟨_, rfl, HO2.out, hb1.trans hb2⟩
theorem RB.cutAll {A : Nat → Prop} {w : World} {a : Option Addr} {c : Nat} {l : List UInt8} (h : RB A w (.slice a l.length c) l) : l.length ≤ c := by
  rcases h.2 with ⟨e, h0⟩ | ⟨b, off, cap, e, hb, hA, hc, _⟩
  · omega
  · simp only [Value.slice.injEq] at e
    omega
set_option maxRecDepth 100000 in
set_option maxHeartbeats 800000 in
theorem blob_any (A B : Nat → Prop) (v x : Value) (l m : List UInt8) (w : World) (hv : RB A w v l) (hx : RB B w x m) (hl : l.length ≤ 500000) (hm : m.length ≤ 65535) :
    Calls Tryz.prog 110 #[v, x] w (NewB w (l ++ be 2 m.length ++ m)) := by
  obtain ⟨i0, hi, hz0, hz1, hz2⟩ := info_parts infoByte
  have HV := Lib.hid hv
  obtain ⟨xa, xc, rfl⟩ := hx.shape
  have hxc := hx.cutAll
  have HX := Lib.hid hx
  have hmn : min (m.length : Int) 65535 = m.length := by omega
  clear hv hx
  go_enter Tryz.func110, Tryz.ntmps110
  go_wp2_with fail
  refine (cloneB_any A _ l _ (by omega) HV.out).mono ?_
  rintro e w1 ⟨v1, rfl, ho, hb1⟩
  have HO := Lib.hid ho
  clear ho
  go_wp2_with fail
  refine (put_any 2 m.length (by omega) (by omega) (by omega) w.heap.size _ l _ HO.out hb1.size (by omega)).mono ?_
  rintro e w2 ⟨v2, rfl, ho, hb2⟩
  have HO2 := Lib.hid ho
  have hb12 := hb1.trans hb2
  have hsz := hb12.size
  clear ho
  go_wp2_with (first | (at_builtin; refine wpList_append_sl rfl _ _ 28 rfl w.heap.size 5 i0 (.int .u8 0) 1 1 Tryz.underlying28 hi hz0 hz1 hz2 rfl (by decide) _ _ _ rfl HO2.out B (.slice xa m.length xc) m.length (m.map bv) rfl ?c1 (one_bytes m) ?c2 ?c3 ?c4 ?_) | go_in)
  case c1 => exact SlA.ext HX.out hb12
  case c2 => simp [be_length]; unfold maxLen; omega
  case c3 => simp [be_length]; omega
  case c4 => omega
  intro v3 w3 ho hg
  have HO3 : Hid (OB w.heap.size w3 v3 (l ++ be 2 m.length ++ m)) := OB.cast ho (by simp; omega) (by simp)
  have hb3 : Below w.heap.size w w3 := hb12.grown hg hsz fun j hj => (HO2.out.lt j hj).1
  clear ho hg
  go_wp2
  go_ret
  exact ⟨_, rfl, HO3.out, hb3⟩
end Go.Proofs.YtlekdfajcpmolaaGreatDoor
