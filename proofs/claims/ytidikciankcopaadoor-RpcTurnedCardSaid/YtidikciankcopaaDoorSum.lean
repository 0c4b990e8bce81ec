/- The walk of frame.Sum. -/
import Derived.Test.YtidikciankcopaaDoorTab
import Derived.Test.YtidikciankcopaaDoorSla
import Derived.Test.YtidikciankcopaaDoorChecked
namespace Go.Proofs.YtidikciankcopaaDoor
open Go.RowKit

theorem reg_succ (l : List UInt8) (k : Nat) (h : k < l.length) : Crc.reg (BitVec.allOnes 32) (l.take (k + 1)) = Crc.s4 (Crc.s4 (Crc.reg (BitVec.allOnes 32) (l.take k) ^^^ BitVec.ofNat 32 l[k].toNat)) := by
  rw [List.take_succ_eq_append_getElem h]
  unfold Crc.reg
  rw [List.foldl_append]
  rfl
set_option maxRecDepth 100000 in
set_option maxHeartbeats 800000 in
theorem sum_row (A : Nat → Prop) (v : Value) (l : List UInt8) (w : World) (hl : l.length ≤ 1000000) (hv : RB A w v l) (hT : TabW w) :
    Calls Tryd.prog 67 #[v] w fun e w' => e = .returned (.int .u32 ((Crc.sum l).toNat : Int)) ∧ w' = w := by
  obtain ⟨-, hv⟩ := hv
  rcases hv with ⟨⟨a0, rfl⟩, h0⟩ | ⟨b, off, cap, rfl, hbl, -, hcap, hx⟩
  · obtain rfl : l = [] := List.eq_nil_of_length_eq_zero h0
    go_enter Tryd.func67, Tryd.ntmps67
    go_wp2
    refine wp_loop_once ?_
    go_wp2
    go_ret
    exact ⟨by congr 2, rfl⟩
  · go_enter Tryd.func67, Tryd.ntmps67
    go_wp2
    go_loopw [3, 8] (fun r i wr => wr = w ∧ ∃ k : Nat, k ≤ l.length ∧ i = .int .i64 k ∧ r = .int .u32 ((Crc.reg (BitVec.allOnes 32) (l.take k)).toNat : Int)) (fun _ i _ => l.length - (intOf i).toNat)
    case atStart => exact ⟨rfl, 0, Nat.zero_le _, rfl, rfl⟩
    case round =>
      obtain ⟨rfl, k, hk, rfl, rfl⟩ := hrel
      by_cases hlt : k < l.length
      · have hc : wr.cell? ⟨b, off + k, none⟩ = some (.int .u8 (l[k].toNat : Int)) := (hx k (by omega)).trans (bv_at hlt)
        clear hx
        have hs := reg_succ l k hlt
        generalize Crc.reg (BitVec.allOnes 32) (l.take k) = r at *
        generalize l[k] = c at *
        have h8 := c.toNat_lt
        have e0 : bits .xor .u32 (r.toNat : Int) (c.toNat : Int) = ((r ^^^ BitVec.ofNat 32 c.toNat).toNat : Int) := by
          have hcv : (c.toNat : Int) = ((BitVec.ofNat 32 c.toNat).toNat : Int) := by rw [BitVec.toNat_ofNat, Nat.mod_eq_of_lt (by omega)]
          conv => lhs; rw [hcv]
          exact bits_xor_u32 _ _
        generalize r ^^^ BitVec.ofNat 32 c.toNat = R at *
        have e1 := and15_u32 R
        have e2 := nib_u32 R
        have m1 : R.toNat % 16 < 16 := Nat.mod_lt _ (by decide)
        have x1 := hT _ m1
        generalize Crc.s4 R = S at *
        have f1 := and15_u32 S
        have f2 := nib_u32 S
        have m2 : S.toNat % 16 < 16 := Nat.mod_lt _ (by decide)
        have x2 := hT _ m2
        generalize Crc.s4 S = T at *
        generalize R.toNat % 16 = i1 at *
        generalize S.toNat % 16 = i2 at *
        generalize Crc.tab.getD i1 0 = y1 at *
        generalize Crc.tab.getD i2 0 = y2 at *
        go_wp2
        go_roundw
        case rel => exact ⟨trivial, k + 1, by omega, by go_num, by rw [hs]⟩
        case measure => simp [intOf]; omega
      · obtain rfl : k = l.length := by omega
        rw [List.take_length]
        have hs : (Crc.sum l).toNat = (~~~ (Crc.reg (BitVec.allOnes 32) l)).toNat := rfl
        generalize Crc.reg (BitVec.allOnes 32) l = R at *
        go_wp2
        go_ret
        refine ⟨?_, rfl⟩
        show Ending.returned (Value.int .u32 (bits .xor .u32 4294967295 (R.toNat : Int))) = _
        rw [comp_u32, BitVec.toNat_not]
end Go.Proofs.YtidikciankcopaaDoor
