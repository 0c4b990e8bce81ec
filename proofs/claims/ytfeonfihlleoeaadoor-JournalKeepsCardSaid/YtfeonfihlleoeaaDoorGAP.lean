/- The walk of frame.Sum. The walks of frame.seal, frame.Make. -/
import Derived.Test.YtfeonfihlleoeaaDoorGAF
import Derived.Test.YtfeonfihlleoeaaDoorGAB
import Derived.Test.YtfeonfihlleoeaaDoorChecked
import Derived.Test.YtfeonfihlleoeaaDoorPut
import Derived.Test.YtfeonfihlleoeaaDoorGAE
namespace Go.Proofs.YtfeonfihlleoeaaDoor
open Go.RowKit

theorem reg_succ (l : List UInt8) (k : Nat) (h : k < l.length) : Crc.reg (BitVec.allOnes 32) (l.take (k + 1)) = Crc.s4 (Crc.s4 (Crc.reg (BitVec.allOnes 32) (l.take k) ^^^ BitVec.ofNat 32 l[k].toNat)) := by
  rw [List.take_succ_eq_append_getElem h]
  unfold Crc.reg
  rw [List.foldl_append]
  rfl
set_option maxRecDepth 100000 in
set_option maxHeartbeats 800000 in
theorem sum_row (A : Nat → Prop) (v : Value) (l : List UInt8) (w : World) (hl : l.length ≤ 1000000) (hv : RB A w v l) (hT : TabW w) :
    Calls Tryd.prog 80 #[v] w fun e w' => e = .returned (.int .u32 ((Crc.sum l).toNat : Int)) ∧ w' = w := by
  obtain ⟨-, hv⟩ := hv
  rcases hv with ⟨⟨a0, rfl⟩, h0⟩ | ⟨b, off, cap, rfl, hbl, -, hcap, hx⟩
  · obtain rfl : l = [] := List.eq_nil_of_length_eq_zero h0
    go_enter Tryd.func80, Tryd.ntmps80
    go_wp2
    refine wp_loop_once ?_
    go_wp2
    go_ret
    exact ⟨by congr 2, rfl⟩
  · go_enter Tryd.func80, Tryd.ntmps80
    go_wp2
    go_loopw [3, 8] (fun r i wr => wr = w ∧ ∃ k : Nat, k ≤ l.length ∧ i = .int .i64 k ∧ r = .int .u32 ((Crc.reg (BitVec.allOnes 32) (l.take k)).toNat : Int)) (fun _ i _ => l.length - (intOf i).toNat)
    case atStart => exact ⟨rfl, 0, Nat.zero_le _, rfl, rfl⟩
    case round =>
      obtain ⟨rfl, k, hk, rfl, rfl⟩ := hrel
      by_cases hlt : k < l.length
      · have hc : wr.cell? ⟨b, off + k, none⟩ = some (.int .u8 (l[k].toNat : Int)) := (hx k (by omega)).trans (bv_at hlt)
        clear hx
        have hs := reg_succ l k hlt
        generalize Crc.reg (BitVec.allOnes 32) (l.take k) = r at *
        generalize l[k] = c at *
        have h8 := c.toNat_lt
        have e0 : bits .xor .u32 (r.toNat : Int) (c.toNat : Int) = ((r ^^^ BitVec.ofNat 32 c.toNat).toNat : Int) := by
          have hcv : (c.toNat : Int) = ((BitVec.ofNat 32 c.toNat).toNat : Int) := by rw [BitVec.toNat_ofNat, Nat.mod_eq_of_lt (by omega)]
          conv => lhs; rw [hcv]
          exact bits_xor_u32 _ _
        generalize r ^^^ BitVec.ofNat 32 c.toNat = R at *
        have e1 := and15_u32 R
        have e2 := nib_u32 R
        have m1 : R.toNat % 16 < 16 := Nat.mod_lt _ (by decide)
        have x1 := hT _ m1
        generalize Crc.s4 R = S at *
        have f1 := and15_u32 S
        have f2 := nib_u32 S
        have m2 : S.toNat % 16 < 16 := Nat.mod_lt _ (by decide)
        have x2 := hT _ m2
        generalize Crc.s4 S = T at *
        generalize R.toNat % 16 = i1 at *
        generalize S.toNat % 16 = i2 at *
        generalize Crc.tab.getD i1 0 = y1 at *
        generalize Crc.tab.getD i2 0 = y2 at *
        go_wp2
        go_roundw
        case rel => exact ⟨trivial, k + 1, by omega, by go_num, by rw [hs]⟩
        case measure => simp [intOf]; omega
      · obtain rfl : k = l.length := by omega
        rw [List.take_length]
        have hs : (Crc.sum l).toNat = (~~~ (Crc.reg (BitVec.allOnes 32) l)).toNat := rfl
        generalize Crc.reg (BitVec.allOnes 32) l = R at *
        go_wp2
        go_ret
        refine ⟨?_, rfl⟩
        show Ending.returned (Value.int .u32 (bits .xor .u32 4294967295 (R.toNat : Int))) = _
        rw [comp_u32, BitVec.toNat_not]
end Go.Proofs.YtfeonfihlleoeaaDoor
namespace Go.Proofs.YtfeonfihlleoeaaDoor
open Go.RowKit

theorem cells_new4 (w : World) (a b c d : Value) (t : TypeId) : ∀ (j : Nat) (u : Value), [a, b, c, d][j]? = some u → (w.alloc (.cells #[a, b, c, d] t)).cell? ((⟨w.heap.size, 0, none⟩ : Addr).add j) = some u := cells_new w [a, b, c, d] t
theorem le4_vals (s : Nat) (hs : s < 4294967296) : (le4 s).map bv = [.int .u8 ((s : Int) % 256), .int .u8 ((s : Int) / 256 % 256), .int .u8 ((s : Int) / 65536 % 256), .int .u8 ((s : Int) / 16777216)] := by
  simp [le4, bv]
  omega
set_option maxRecDepth 100000 in
set_option maxHeartbeats 800000 in
theorem tail_any (A : Nat → Prop) (base : Nat) (v x : Value) (l m : List UInt8) (w : World) (hv : OB base w v l) (hx : RB A w x m) (hT : TabW w) (hbase : base ≤ w.heap.size) (hl : l.length ≤ 1000000) (hm : m.length ≤ 1000000) :
    Calls Tryd.prog 55 #[v, x] w fun e w' => ∃ v', e = .returned v' ∧ OB base w' v' (l ++ tailB m) ∧ Below base w w' := by
  obtain ⟨i0, hi, hz0, hz1, hz2⟩ := info_parts infoByte
  have HV := Lib.hid hv
  have HX := Lib.hid hx
  have HT := Lib.hid hT
  clear hv hx hT
  go_enter Tryd.func55, Tryd.ntmps55
  go_wp2_with fail
  refine (sum_row A _ m _ hm HX.out HT.out).mono ?_
  rintro e w1 ⟨rfl, rfl⟩
  have hs0 : (Crc.sum m).toNat < 4294967296 := (Crc.sum m).isLt
  have HL : Hid (tailB m = le4 (Crc.sum m).toNat) := rfl
  generalize (Crc.sum m).toNat = s at *
  have HC := Lib.hid (le4_vals s (by omega))
  go_wp2_with (first | (at_builtin; refine wpList_append_own _ rfl _ _ 22 rfl base 5 i0 (.int .u8 0) 1 1 Tryd.underlying22 hi hz0 hz1 hz2 rfl (by decide) _ _ _ rfl (HV.out.alloc _) ⟨w1.heap.size, 0, none⟩ 4 4 [.int .u8 ((s : Int) % 256), .int .u8 ((s : Int) / 256 % 256), .int .u8 ((s : Int) / 65536 % 256), .int .u8 ((s : Int) / 16777216)] rfl rfl (cells_new4 w1 _ _ _ _ _) ?c1 ?c2 ?c3 ?c4 ?_) | go_in)
  case c1 => simp [Value.oneCell']
  case c2 => unfold maxLen; omega
  case c3 => omega
  case c4 => simp; omega
  intro v2 w2 ho hg hn
  have HO : Hid (OB base w2 v2 (l ++ tailB m)) := OB.cast ho (by rw [HL.out]; simp [le4_length]) (by rw [HL.out, List.map_append, HC.out])
  have hb2 : Below base w1 w2 := ((Below.refl _ w1).mono hbase |>.alloc (by omega) _).grown hg (by simp; omega) fun j hj => (HV.out.lt j hj).1
  clear ho hg hn
  go_wp2
  go_ret
  exact ⟨_, rfl, HO.out, hb2⟩

theorem cells_new2 (w : World) (a b : Value) (t : TypeId) : ∀ (j : Nat) (u : Value), [a, b][j]? = some u → (w.alloc (.cells #[a, b] t)).cell? ((⟨w.heap.size, 0, none⟩ : Addr).add j) = some u := cells_new w [a, b] t
theorem rb_new2 (w : World) (a b : UInt8) (t : TypeId) (cap : Nat) (hc : 2 ≤ cap) : RB (fun b => w.heap.size ≤ b) (w.alloc (.cells #[bv a, bv b] t)) (.slice (some ⟨w.heap.size, 0, none⟩) 2 cap) [a, b] := by
  refine ⟨by simp, .inr ⟨w.heap.size, 0, cap, rfl, by simp, Nat.le_refl _, hc, fun j hj => ?_⟩⟩
  rw [Nat.zero_add, World.cell?_alloc_new]
  simp
set_option maxRecDepth 100000 in
set_option maxHeartbeats 1600000 in
theorem make_any (A : Nat → Prop) (k : Nat) (x : Value) (m : List UInt8) (w : World) (hk : k < 256) (hx : RB A w x m) (hT : TabW w) (hg0 : 1 < w.heap.size) (hm : m.length ≤ 8192) :
    Calls Tryd.prog 33 #[.int .i64 k, x] w fun e w' => ∃ v', e = .returned (.tuple #[v', .int .i64 0]) ∧ OB w.heap.size w' v' (frm k m) ∧ Below w.heap.size w w' := by
  obtain ⟨i0, hi, hz0, hz1, hz2⟩ := info_parts infoByte
  obtain ⟨xa, xc, rfl⟩ := hx.shape
  have HX := Lib.hid hx
  have HT := Lib.hid hT
  have HG : Hid (1 < w.heap.size) := hg0
  have hb8 : bv (UInt8.ofNat k) = .int .u8 (k : Int) := by simp [bv, Nat.mod_eq_of_lt hk]
  have HB8 := Lib.hid hb8
  clear hx hT hg0 hb8
  go_enter Tryd.func33, Tryd.ntmps33
  go_wp2_with fail
  rw [← HB8.out]
  refine (num_any 2 m.length (by omega) (by omega) (by omega) _ _ [90, UInt8.ofNat k] _ (rb_new2 w 90 (UInt8.ofNat k) _ 2 (by omega)) (by simp)).mono ?_
  rintro e w1 ⟨v1, rfl, ho, hb1⟩
  have HO1 : Hid (OB w.heap.size w1 v1 (hdr k m.length)) := OB.base_le ho (by simp)
  have hbw1 : Below w.heap.size w w1 := ((Below.refl _ w).alloc (Nat.le_refl _) _).trans (hb1.mono (by simp))
  have HT1 := Lib.hid (tab_below HT.out hbw1 HG.out)
  have hs1 := hbw1.size
  clear ho hb1
  go_wp2_with fail
  refine (tail_any _ w.heap.size _ _ _ (hdr k m.length) _ HO1.out HO1.out.rb HT1.out hs1 (by rw [hdr_length]; omega) (by rw [hdr_length]; omega)).mono ?_
  rintro e w2 ⟨v2, rfl, ho, hb2⟩
  have HO2 := Lib.hid ho
  have hbw2 := hbw1.trans hb2
  have hs2 := hbw2.size
  have HT2 := Lib.hid (tab_below HT.out hbw2 HG.out)
  have hl2 : Hid ((hdr k m.length ++ tailB (hdr k m.length)).length = 8) := by
    show _ = _
    simp [hdr_length, tailB_length]
  clear ho hb2 hbw1 hs1
  go_wp2_with (first | (at_builtin; refine wpList_append_sl rfl _ _ 22 rfl w.heap.size 5 i0 (.int .u8 0) 1 1 Tryd.underlying22 hi hz0 hz1 hz2 rfl (by decide) _ _ _ rfl HO2.out A (.slice xa m.length xc) m.length (m.map bv) rfl ?c1 (one_bytes m) ?c2 ?c3 ?c4 ?_) | (go_at_call 55; fail) | go_in)
  case c1 => exact SlA.ext HX.out hbw2
  case c2 => rw [hl2.out]; unfold maxLen; omega
  case c3 => rw [hl2.out]; omega
  case c4 => omega
  intro v3 w3 ho hg
  have HO3 : Hid (OB w.heap.size w3 v3 (hdr k m.length ++ tailB (hdr k m.length) ++ m)) := OB.cast ho (by simp; omega) (by simp)
  have hb3 : Below w.heap.size w w3 := hbw2.grown hg hs2 fun j hj => (HO2.out.lt j hj).1
  have hs3 := hb3.size
  have HT3 := Lib.hid (tab_below HT.out hb3 HG.out)
  have hl3 : Hid ((hdr k m.length ++ tailB (hdr k m.length) ++ m).length ≤ 1000000) := by
    show _ ≤ _
    rw [List.length_append, hl2.out]
    omega
  have HX3 : Hid (RB A w3 (.slice xa m.length xc) m) := SlA.ext HX.out hb3
  clear ho hg hbw2 hs2
  go_wp2_with fail
  refine (tail_any _ w.heap.size _ _ _ m _ HO3.out HX3.out HT3.out hs3 hl3.out (by omega)).mono ?_
  rintro e w4 ⟨v4, rfl, ho, hb4⟩
  have HO4 := Lib.hid ho
  clear ho
  go_wp2
  go_ret2
  exact ⟨_, rfl, HO4.out, hb3.trans hb4⟩

set_option maxRecDepth 100000 in
theorem make_long (A : Nat → Prop) (k : Nat) (x : Value) (m : List UInt8) (w : World) (hk : k < 256) (hx : RB A w x m) (hm : 8192 < m.length) :
    Calls Tryd.prog 33 #[.int .i64 k, x] w fun e w' => e = .returned (.tuple #[.slice none 0 0, .int .i64 2]) ∧ w = w' := by
  obtain ⟨xa, xc, rfl⟩ := hx.shape
  clear hx
  go_enter Tryd.func33, Tryd.ntmps33
  go_wp2
  go_ret2
  exact ⟨rfl, rfl⟩
end Go.Proofs.YtfeonfihlleoeaaDoor
