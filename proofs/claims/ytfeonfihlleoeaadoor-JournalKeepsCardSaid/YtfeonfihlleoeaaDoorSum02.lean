/- The walks of the reference's frames: terrazzoref02.Sum, Tail, Make. -/
import Derived.Test.YtfeonfihlleoeaaDoorGAP
import Derived.Test.YtfeonfihlleoeaaDoorGAQ
import Derived.Test.YtfeonfihlleoeaaDoorGAO
namespace Go.Proofs.YtfeonfihlleoeaaDoor
open Go.RowKit Go.WideShapes

/-- so many single steps -/
def s1n (X : BitVec 32) : Nat → BitVec 32
  | 0 => X
  | n + 1 => Crc.s1 (s1n X n)
theorem s1n8 (X : BitVec 32) : s1n X 8 = Crc.s4 (Crc.s4 X) := rfl
set_option maxRecDepth 100000 in
set_option maxHeartbeats 1600000 in
theorem rsum_any (A : Nat → Prop) (v : Value) (l : List UInt8) (w : World) (hl : l.length ≤ 1000000) (hv : RB A w v l) :
    Calls Tryd.prog 81 #[v] w fun e w' => e = .returned (.int .u32 ((Crc.sum l).toNat : Int)) ∧ w = w' := by
  obtain ⟨xa, xc, rfl⟩ := hv.shape
  have HV := Lib.hid hv
  clear hv
  go_enter Tryd.func81, Tryd.ntmps81
  go_wp2
  go_loopw [3, 4] (fun r i wr => wr = w ∧ ∃ k : Nat, k ≤ l.length ∧ i = .int .i64 k ∧ r = .int .u32 ((Crc.reg (BitVec.allOnes 32) (l.take k)).toNat : Int)) (fun _ i _ => l.length - (intOf i).toNat)
  case atStart => exact ⟨rfl, 0, Nat.zero_le _, rfl, rfl⟩
  case round =>
    obtain ⟨rfl, k, hk, rfl, rfl⟩ := hrel
    by_cases hlt : k < l.length
    · obtain ⟨b, off, rfl, hbl, -, hc⟩ := HV.out.cell hlt
      have HS := Lib.hid (reg_succ l k hlt)
      generalize Crc.reg (BitVec.allOnes 32) (l.take k) = r at *
      generalize l[k] = c at *
      have h8 := c.toNat_lt
      have e0 : bits .xor .u32 (r.toNat : Int) (c.toNat : Int) = ((r ^^^ BitVec.ofNat 32 c.toNat).toNat : Int) := by
        have hcv : (c.toNat : Int) = ((BitVec.ofNat 32 c.toNat).toNat : Int) := by rw [BitVec.toNat_ofNat, Nat.mod_eq_of_lt (by omega)]
        conv => lhs; rw [hcv]
        exact bits_xor_u32 _ _
      generalize r ^^^ BitVec.ofNat 32 c.toNat = X at *
      go_wp2
      go_loopw [3, 5] (fun r i wx => wx = wr ∧ ∃ j : Nat, j ≤ 8 ∧ i = .int .i64 j ∧ r = .int .u32 ((s1n X j).toNat : Int)) (fun _ i _ => 8 - (intOf i).toNat)
      case atStart => exact ⟨rfl, 0, Nat.zero_le _, rfl, rfl⟩
      case round =>
        obtain ⟨rfl, j, hj, rfl, rfl⟩ := hrel
        by_cases hlj : j < 8
        · have HJ : Hid (s1n X (j + 1) = Crc.s1 (s1n X j)) := Lib.hid rfl
          generalize s1n X j = Y at *
          have hy := Y.isLt
          have hq : ((Y.toNat : Int) % 2) = ((Y.toNat % 2 : Nat) : Int) := by omega
          by_cases hp : Y.toNat % 2 = 0
          · have hd := s1_even_u32 Y hp
            rw [hp] at hq
            clear hp
            go_wp2
            go_roundw
            case rel => exact ⟨trivial, j + 1, by omega, by go_num, by rw [HJ.out]⟩
            case measure => simp [intOf]; omega
          · have hp1 : Y.toNat % 2 = 1 := by omega
            have hd := s1_odd_u32 Y hp1
            rw [hp1] at hq
            clear hp hp1
            go_wp2
            go_roundw
            case rel => exact ⟨trivial, j + 1, by omega, by go_num, by rw [HJ.out]⟩
            case measure => simp [intOf]; omega
        · obtain rfl : j = 8 := by omega
          go_wp2
          go_roundw
          case rel => exact ⟨trivial, k + 1, by omega, by go_num, by rw [HS.out, s1n8]⟩
          case measure => simp [intOf]; omega
    · obtain rfl : k = l.length := by omega
      rw [List.take_length]
      have hs : (Crc.sum l).toNat = (~~~ (Crc.reg (BitVec.allOnes 32) l)).toNat := rfl
      generalize Crc.reg (BitVec.allOnes 32) l = R at *
      go_wp2
      go_ret
      refine ⟨?_, rfl⟩
      show Ending.returned (Value.int .u32 (bits .xor .u32 4294967295 (R.toNat : Int))) = _
      rw [comp_u32, BitVec.toNat_not]
set_option maxRecDepth 100000 in
set_option maxHeartbeats 1600000 in
theorem rtail_any (A : Nat → Prop) (v : Value) (l : List UInt8) (w : World) (hl : l.length ≤ 1000000) (hv : RB A w v l) : Calls Tryd.prog 58 #[v] w (NewB w (tailB l)) := by
  obtain ⟨xa, xc, rfl⟩ := hv.shape
  have HV := Lib.hid hv
  clear hv
  go_enter Tryd.func58, Tryd.ntmps58
  go_wp2_with fail
  refine (rsum_any A _ l _ hl HV.out).mono ?_
  rintro e w1 ⟨rfl, rfl⟩
  have hs0 : (Crc.sum l).toNat < 4294967296 := (Crc.sum l).isLt
  have HL : Hid (tailB l = le4 (Crc.sum l).toNat) := rfl
  generalize (Crc.sum l).toNat = s at *
  have HC := Lib.hid (le4_vals s (by omega))
  go_wp2
  go_ret
  rw [HL.out]
  refine ⟨_, rfl, OB.of_blk (t := []) (g := w.heap.size) (n := 4) (c := 4) ?_ (Nat.le_refl _) rfl rfl (by omega), by ((repeat' (first | exact Below.refl _ _ | refine below_drewN ?_ _ | refine Below.drew ?_ | refine Below.alloc ?_ ?_ _ | refine Below.trans ?_ (Below.mono (by assumption) ?_))); all_goals (first | exact Nat.le_refl _ | exact Below.size (by assumption) | omega | (simp; done) | (simp; omega)))⟩
  rw [HC.out]
  first
  | exact heap_alloc_new w _
  | (refine (heap_alloc_new w _).trans ?_; simp; done)
/-- what Make leaves -/
def MkR (k : Nat) (m : List UInt8) (w : World) (e : Ending) (w' : World) : Prop :=
  ∃ (v : Value), e = .returned (.tuple #[v, .int .i64 (if m.length ≤ 8192 then 0 else 2)]) ∧ OB w.heap.size w' v (if m.length ≤ 8192 then frm k m else []) ∧ Below w.heap.size w w'
set_option maxRecDepth 100000 in
set_option maxHeartbeats 1600000 in
theorem rmk_any (A : Nat → Prop) (k : Nat) (x : Value) (m : List UInt8) (w : World) (hk : k < 256) (hx : RB A w x m) (hm : m.length ≤ 1000000) : Calls Tryd.prog 37 #[.int .i64 k, x] w (MkR k m w) := by
  obtain ⟨xa, xc, rfl⟩ := hx.shape
  have HX := Lib.hid hx
  have hb8 : bv (UInt8.ofNat k) = .int .u8 (k : Int) := by simp [bv, Nat.mod_eq_of_lt hk]
  have HB8 := Lib.hid hb8
  clear hx hb8
  by_cases hl : m.length ≤ 8192
  · have HEND : Hid (∀ v W, OB w.heap.size W v (frm k m) → Below w.heap.size w W → MkR k m w (.returned (.tuple #[v, .int .i64 0])) W) := Lib.hid fun v W h1 h2 => ⟨v, by rw [if_pos hl], by rw [if_pos hl]; exact h1, h2⟩
    go_enter Tryd.func37, Tryd.ntmps37
    go_wp2_with fail
    obtain ⟨w0, hw0⟩ : ∃ w0, w0 = w.alloc (.cells #[.int .u8 90, .int .u8 (k : Int)] 5) := ⟨_, rfl⟩
    rw [← hw0]
    have HO0 : Hid (OB w.heap.size w0 (.slice (some ⟨w.heap.size, 0, none⟩) 2 2) [90, UInt8.ofNat k]) := Lib.hid (OB.of_blk (t := []) (by rw [hw0]; refine (heap_alloc_new w _).trans ?_; rw [← HB8.out]; rfl) (Nat.le_refl _) rfl rfl (by omega))
    have HB0 : Hid (Below w.heap.size w w0) := Lib.hid (by rw [hw0]; ((repeat' (first | exact Below.refl _ _ | refine below_drewN ?_ _ | refine Below.drew ?_ | refine Below.alloc ?_ ?_ _ | refine Below.trans ?_ (Below.mono (by assumption) ?_))); all_goals (first | exact Nat.le_refl _ | exact Below.size (by assumption) | omega | (simp; done) | (simp; omega))))
    clear hw0
    refine (bnum_any 2 m.length (by omega) (by omega) (by omega) _).mono ?_
    rintro e w1 ⟨v1, rfl, ho1, hb1⟩
    have HO1 := Lib.hid ho1
    have HR1 := Lib.hid (HO0.out.ext hb1)
    have HB1 : Hid (Below w.heap.size w w1) := Lib.hid (below_call HB0.out hb1)
    clear ho1 hb1 HO0 HB0
    go_wp2_with (first | (at_builtin; refine stop_in ?_) | go_in)
    unfold Stop
    refine wpList_appB _ (by rfl) _ _ (by rfl) w.heap.size _ _ (by rfl) HR1.out _ _ _ (by rfl) HO1.out.rb (by simp [be_length]) HB1.out.size ?_
    intro v2 w2 ho2 hb2
    obtain ⟨a2, n2, c2, rfl⟩ := ho2.shape3
    have HO2 : Hid (OB w.heap.size w2 (.slice a2 n2 c2) (hdr k m.length)) := Lib.hid ho2
    have HB2 : Hid (Below w.heap.size w w2) := Lib.hid (HB1.out.trans hb2)
    clear ho2 hb2 HO1 HR1 HB1
    go_wp2_with fail
    refine (rtail_any _ _ (hdr k m.length) _ (by rw [hdr_length]; omega) HO2.out.rb).mono ?_
    rintro e w3 ⟨v3, rfl, ho3, hb3⟩
    have HO3 := Lib.hid ho3
    have HR3 := Lib.hid (HO2.out.ext hb3)
    have HB3 : Hid (Below w.heap.size w w3) := Lib.hid (below_call HB2.out hb3)
    clear ho3 hb3 HO2 HB2
    go_wp2_with (first | (at_builtin; refine stop_in ?_) | go_in)
    unfold Stop
    refine wpList_appB _ (by rfl) _ _ (by rfl) w.heap.size _ _ (by rfl) HR3.out _ _ _ (by rfl) HO3.out.rb (by simp [hdr_length, tailB_length]) HB3.out.size ?_
    intro v4 w4 ho4 hb4
    obtain ⟨a4, n4, c4, rfl⟩ := ho4.shape3
    have HO4 := Lib.hid ho4
    have HB4 : Hid (Below w.heap.size w w4) := Lib.hid (HB3.out.trans hb4)
    have HX4 := Lib.hid (HX.out.ext HB4.out)
    clear ho4 hb4 HO3 HR3 HB3
    go_wp2_with (first | (at_builtin; refine stop_in ?_) | go_in)
    unfold Stop
    refine wpList_appB _ (by rfl) _ _ (by rfl) w.heap.size _ _ (by rfl) HO4.out _ _ _ (by rfl) HX4.out (by simp [hdr_length, tailB_length]; omega) HB4.out.size ?_
    intro v5 w5 ho5 hb5
    obtain ⟨a5, n5, c5, rfl⟩ := ho5.shape3
    have HO5 := Lib.hid ho5
    have HB5 : Hid (Below w.heap.size w w5) := Lib.hid (HB4.out.trans hb5)
    have HX5 := Lib.hid (HX.out.ext HB5.out)
    clear ho5 hb5 HO4 HB4 HX4
    go_wp2_with fail
    refine (rtail_any _ _ m _ hm HX5.out).mono ?_
    rintro e w6 ⟨v6, rfl, ho6, hb6⟩
    have HO6 := Lib.hid ho6
    have HR6 := Lib.hid (HO5.out.ext hb6)
    have HB6 : Hid (Below w.heap.size w w6) := Lib.hid (below_call HB5.out hb6)
    clear ho6 hb6 HO5 HB5 HX5
    go_wp2_with (first | (at_builtin; refine stop_in ?_) | go_in)
    unfold Stop
    refine wpList_appB _ (by rfl) _ _ (by rfl) w.heap.size _ _ (by rfl) HR6.out _ _ _ (by rfl) HO6.out.rb (by simp [hdr_length, tailB_length]; omega) HB6.out.size ?_
    intro v7 w7 ho7 hb7
    obtain ⟨a7, n7, c7, rfl⟩ := ho7.shape3
    have HO7 := Lib.hid ho7
    have HB7 : Hid (Below w.heap.size w w7) := Lib.hid (HB6.out.trans hb7)
    clear ho7 hb7
    go_wp2
    go_ret2
    exact HEND.out _ _ HO7.out HB7.out
  · have hl' : (8192 : Int) < m.length := by omega
    go_enter Tryd.func37, Tryd.ntmps37
    go_wp2
    go_ret2
    exact ⟨.slice none 0 0, by rw [if_neg hl]; rfl, by rw [if_neg hl]; exact OB.nil _ _, Below.refl _ _⟩
end Go.Proofs.YtfeonfihlleoeaaDoor
