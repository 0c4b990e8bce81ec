/- The walk of terrazzoref08.Do, whole. -/
import Derived.Test.YtgdilkhaopnhaaaGreatDoorRefM8
import Derived.Test.YtgdilkhaopnhaaaGreatDoorRefN8
import Derived.Test.YtgdilkhaopnhaaaGreatDoorRefO8
import Derived.Test.YtgdilkhaopnhaaaGreatDoorRefQ8
namespace Go.Proofs.YtgdilkhaopnhaaaGreatDoor
open Go.RowKit Go.WideShapes

theorem rdo_good (A B : Nat → Prop) (v : Value) (o : ObD) (th : Bool) (k off n : Int) (nm : ByteArray) (oa : Option Addr) (oc : Nat) (d : List UInt8) (w : World)
    (hv : ObV A w v o) (hm : mayB o = true) (h1 : 1 ≤ k) (h2 : k ≤ 14) (hd : RB B w (.slice oa d.length oc) d) (hl : d.length ≤ 50000) :
    Calls Tryz.prog 28 #[v, .bool th, opV k off n nm oa d.length oc] w (DoRR (doG (if th then o else ObD.none) th ⟨k, off, n, nm, d⟩) w) := by
  obtain rfl | rfl | rfl | rfl | rfl | rfl | rfl | rfl | rfl | rfl | rfl | rfl | rfl | rfl : k = 1 ∨ k = 2 ∨ k = 3 ∨ k = 4 ∨ k = 5 ∨ k = 6 ∨ k = 7 ∨ k = 8 ∨ k = 9 ∨ k = 10 ∨ k = 11 ∨ k = 12 ∨ k = 13 ∨ k = 14 := by omega
  all_goals cases th
  · exact rdo_1_false A B v o off n nm oa oc d w hv hm hd hl
  · exact rdo_1_true A B v o off n nm oa oc d w hv hm hd hl
  · exact rdo_2_false A B v o off n nm oa oc d w hv hm hd hl
  · exact rdo_2_true A B v o off n nm oa oc d w hv hm hd hl
  · exact rdo_3_false A B v o off n nm oa oc d w hv hm hd hl
  · exact rdo_3_true A B v o off n nm oa oc d w hv hm hd hl
  · exact rdo_4_false A B v o off n nm oa oc d w hv hm hd hl
  · exact rdo_4_true A B v o off n nm oa oc d w hv hm hd hl
  · exact rdo_5_false A B v o off n nm oa oc d w hv hm hd hl
  · exact rdo_5_true A B v o off n nm oa oc d w hv hm hd hl
  · exact rdo_6_false A B v o off n nm oa oc d w hv hm hd hl
  · exact rdo_6_true A B v o off n nm oa oc d w hv hm hd hl
  · exact rdo_7_false A B v o off n nm oa oc d w hv hm hd hl
  · exact rdo_7_true A B v o off n nm oa oc d w hv hm hd hl
  · exact rdo_8_false A B v o off n nm oa oc d w hv hm hd hl
  · exact rdo_8_true A B v o off n nm oa oc d w hv hm hd hl
  · exact rdo_9_false A B v o off n nm oa oc d w hv hm hd hl
  · exact rdo_9_true A B v o off n nm oa oc d w hv hm hd hl
  · exact rdo_10_false A B v o off n nm oa oc d w hv hm hd hl
  · exact rdo_10_true A B v o off n nm oa oc d w hv hm hd hl
  · exact rdo_11_false A B v o off n nm oa oc d w hv hm hd hl
  · exact rdo_11_true A B v o off n nm oa oc d w hv hm hd hl
  · exact rdo_12_false A B v o off n nm oa oc d w hv hm hd hl
  · exact rdo_12_true A B v o off n nm oa oc d w hv hm hd hl
  · exact rdo_13_false A B v o off n nm oa oc d w hv hm hd hl
  · exact rdo_13_true A B v o off n nm oa oc d w hv hm hd hl
  · exact rdo_14_false A B v o off n nm oa oc d w hv hm hd hl
  · exact rdo_14_true A B v o off n nm oa oc d w hv hm hd hl
theorem rdo_any (A B : Nat → Prop) (v : Value) (o : ObD) (th : Bool) (k off n : Int) (nm : ByteArray) (oa : Option Addr) (oc : Nat) (d : List UInt8) (w : World)
    (hv : ObV A w v o) (ho : o.okl) (hd : RB B w (.slice oa d.length oc) d) (hl : d.length ≤ 50000) :
    Calls Tryz.prog 28 #[v, .bool th, opV k off n nm oa d.length oc] w (DoRR (doB o th ⟨k, off, n, nm, d⟩) w) := by
  cases hm : mayB o with
  | false => exact rdo_bad A v o th k off n nm oa oc d w hv ho (.inl hm)
  | true =>
    by_cases h1 : 1 ≤ k
    · by_cases h2 : k ≤ 14
      · rw [doB_good hm h1 h2]
        exact rdo_good A B v o th k off n nm oa oc d w hv hm h1 h2 hd hl
      · exact rdo_bad A v o th k off n nm oa oc d w hv ho (.inr (.inr h2))
    · exact rdo_bad A v o th k off n nm oa oc d w hv ho (.inr (.inl h1))
end Go.Proofs.YtgdilkhaopnhaaaGreatDoor
