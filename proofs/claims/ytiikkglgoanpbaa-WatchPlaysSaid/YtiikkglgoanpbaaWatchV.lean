/- The walk of awake. -/
import Derived.Test.YtiikkglgoanpbaaWatchU
import Derived.Test.YtiikkglgoanpbaaInts
import Derived.Test.YtiikkglgoanpbaaAfter
namespace Go.Proofs.Ytiikkglgoanpbaa
open Go.RowKit Go.Maps Go.WideShapes

def bdA (s s' : Nat) (l : List Int) : Brd := (((newB s).put 0 [5]).put 0 [2, 5]).note s' 10 l
theorem bdA_keep (s s' : Nat) : (bdA s s' [2]).keep ((bdA s s' [2]).ns.filter fun n => !overB 17 n) = bdA s s' [2] := rfl
theorem bdA_over (s s' : Nat) : (bdA s s' [2]).ns.filter (overB 17) = [] := rfl
theorem bdA_ack (s s' : Nat) : (bdA s s' [2]).ack 1 2 = bdA s s' [] := rfl
theorem bdA_is (s s' : Nat) : (bdA s s' [2]).ackB 1 2 = true := rfl
theorem bdA_over2 (s s' : Nat) : (bdA s s' []).ns.filter (overB 17) = [⟨1, 10, s' + 1, s', []⟩] := rfl
theorem bdA_keep2 (s s' : Nat) : ((bdA s s' []).keep ((bdA s s' []).ns.filter fun n => !overB 17 n)).ns = [] := rfl

theorem owns_fr {w w' : World} {base size n : Nat} {e : TypeId} {v : Value} {xs : List Value} {S : Nat → Prop} (h : w.ownsRow base e size v n xs) (hf : Fr S w w') (hS : ∀ k, base ≤ k → ¬ S k) : w'.ownsRow base e size v n xs := by
  refine ⟨h.1, h.2.imp id ?_⟩
  rintro ⟨g, cap, cur, rfl, hb, hg, hr⟩
  exact ⟨g, cap, cur, rfl, hb, (hf.block g (lt_of_block hg) (hS g hb)).trans hg, hr⟩
theorem sl_one (w : World) (x : Int) (t : TypeId) : Sl (w.alloc (.cells #[.int .i64 x] t)) 1 (.slice (some ⟨w.heap.size, 0, none⟩) 1 1) 1 ([x].map (Value.int .i64)) := by
  refine ⟨rfl, .inr ⟨w.heap.size, 0, 1, rfl, by simp, by omega, fun j hj => ?_⟩⟩
  obtain rfl : j = 0 := by omega
  simp

theorem mem_bdA {s s' k : Nat} {l : List Int} (h : k ∈ (bdA s s' l).fp) : (s ≤ k ∧ k < s + 6) ∨ k = s' ∨ k = s' + 1 := by
  simp [bdA, Brd.note, Brd.put, newB, Brd.fp] at h
  omega
theorem mem_new {s k : Nat} {l l' : List Int} (h : k ∈ ((((newB s).put 0 l)).put 0 l').fp) : s ≤ k ∧ k < s + 6 := by
  simp [Brd.put, newB, Brd.fp] at h
  omega

set_option maxRecDepth 100000 in
set_option maxHeartbeats 1600000 in
theorem awake_any (w : World) : Calls Try.prog 8 #[] w fun e w' => e = .returned (.bool true) ∧ Below w.heap.size w w' := by
  go_enter Try.func8, Try.ntmps8
  go_wp2_with fail
  refine (new_any _).mono ?_
  rintro e w1 ⟨rfl, hB1, hb1⟩
  have H1 := Lib.hid hB1
  clear hB1
  go_wp2_with fail
  refine (watch_any _ _ _ _ H1.out (by intro i hi; simp [newB])).mono ?_
  rintro e w2 ⟨rfl, hB2, hf2⟩
  rw [show mayW 0 5 = true from rfl]
  have H2 : Hid (IsB w2 ((newB w.heap.size).put 0 [5])) := hB2
  have HF2 := Lib.hid hf2
  clear hB2 hf2
  go_wp2_with fail
  refine (watch_any _ _ _ _ H2.out (by intro i hi; simp [newB, Brd.put]; split <;> simp)).mono ?_
  rintro e w3 ⟨rfl, hB3, hf3⟩
  rw [show mayW 0 2 = true from rfl]
  have H3 : Hid (IsB w3 (((newB w.heap.size).put 0 [5]).put 0 [2, 5])) := hB3
  have HF3 := Lib.hid hf3
  clear hB3 hf3
  go_wp2_with fail
  refine (notify_yes _ 0 5 10 _ H3.out (by omega) (okI_of (by omega) (by omega)) (by simp [newB, Brd.put]) (by simp [newB, Brd.put]) (by simp [newB, Brd.put]) (by simp [newB, Brd.put]) (by simp [newB, Brd.put])).mono ?_
  rintro e w4 ⟨v4, rfl, hv4, hn4, hB4, hf4⟩
  rw [show (((newB w.heap.size).put 0 [5]).put 0 [2, 5]).last + 1 = 1 from rfl]
  have H4 : Hid (IsB w4 (bdA w.heap.size w3.heap.size [2])) := hB4
  have V4 : Hid (w4.ownsRow (w3.heap.size + 2) 3 1 v4 1 [.int .i64 2]) := hv4
  have HF4 := Lib.hid hf4
  clear hB4 hv4 hf4 hn4
  obtain ⟨a4, cp4, rfl⟩ := owns_shape V4.out
  go_wp2_with fail
  refine (over_any _ 17 _ H4.out (by omega) (by omega) (by simp [newB, Brd.put, Brd.note, bdA]) (by simp [newB, Brd.put, Brd.note, bdA])).mono ?_
  rintro e w5 ⟨v5, rfl, hv5, hB5, hf5⟩
  rw [bdA_keep] at hB5
  rw [bdA_over] at hv5
  have H5 := Lib.hid hB5
  have V5 : Hid (w5.ownsRow w4.heap.size 3 1 v5 0 []) := hv5
  have HF5 := Lib.hid hf5
  clear hB5 hv5 hf5
  obtain ⟨a5, cp5, rfl⟩ := owns_shape V5.out
  go_wp2_with fail
  refine (ack_any _ 1 2 _ H5.out (okI_of (by omega) (by omega)) (okI_of (by omega) (by omega))).mono ?_
  rintro e w6 ⟨rfl, hB6, hf6⟩
  rw [bdA_is]
  rw [bdA_ack] at hB6
  have H6 := Lib.hid hB6
  have HF6 := Lib.hid hf6
  clear hB6 hf6
  go_wp2_with fail
  refine (over_any _ 17 _ H6.out (by omega) (by omega) (by simp [newB, Brd.put, Brd.note, bdA]) (by simp [newB, Brd.put, Brd.note, bdA])).mono ?_
  rintro e w7 ⟨v7, rfl, hv7, hB7, hf7⟩
  rw [bdA_over2] at hv7
  have H7 := Lib.hid hB7
  have V7 : Hid (w7.ownsRow w6.heap.size 3 1 v7 1 [.int .i64 1]) := hv7
  have HF7 := Lib.hid hf7
  clear hB7 hv7 hf7
  obtain ⟨a7, cp7, rfl⟩ := owns_shape V7.out
  go_wp2_with fail
  have S4 : Hid (Sl w7 1 (.slice a4 1 cp4) 1 ([2].map (Value.int .i64))) := by
    have q : w.heap.size + 5 < w3.heap.size := H3.out.lt _ (by simp [Brd.put, newB, Brd.fp])
    have ns : ∀ l k, w3.heap.size + 2 ≤ k → k ∉ (bdA w.heap.size w3.heap.size l).fp := fun l k hk hm => by have := mem_bdA hm; omega
    exact Sl.of_owns (owns_fr (owns_fr (owns_fr V4.out HF5.out (ns _)) HF6.out (ns _)) HF7.out (ns _))
  have S7 : Hid (Sl w7 1 (.slice a7 1 cp7) 1 ([1].map (Value.int .i64))) := Sl.of_owns V7.out
  refine (ints_same _ _ [2] 1 _ rfl (by omega) (S4.out.mono ((Below.refl _ _).alloc (Nat.le_refl _) _)) (sl_one _ _ _)).mono ?_
  rintro e w8 ⟨rfl, hb8⟩
  go_wp2_with fail
  refine (ints_same _ _ [1] 1 _ rfl (by omega) ((S7.out.mono (((Below.refl _ _).alloc (Nat.le_refl _) _).trans (hb8.mono (by simp)))).mono ((Below.refl _ _).alloc (Nat.le_refl _) _)) (sl_one _ _ _)).mono ?_
  rintro e w9 ⟨rfl, hb9⟩
  go_wp2_with fail
  have hb79 : Below w7.heap.size w7 w9 := (((Below.refl _ w7).alloc (Nat.le_refl _) _).trans (hb8.mono (by simp))).trans (((Below.refl _ w8).alloc (Nat.le_refl _) _ |>.mono (by have := hb8.size; simp at this; omega)).trans (hb9.mono (by have := hb8.size; simp at this ⊢; omega)))
  refine (open_any _ w9 (H7.out.ext hb79)).mono ?_
  rintro e w10 ⟨rfl, rfl⟩
  rw [bdA_keep2]
  have hfin : Hid (Below w.heap.size w w9) := by
    have s1 := hb1.size
    have b2 : Below w.heap.size w1 w2 := HF2.out.below hb1.size (fun k hk hm => by simp [newB, Brd.fp] at hm; omega)
    have b3 : Below w.heap.size w2 w3 := HF3.out.below (Nat.le_trans s1 b2.size) (fun k hk hm => by simp [newB, Brd.fp, Brd.put] at hm; omega)
    have b4 : Below w.heap.size w3 w4 := HF4.out.below (Nat.le_trans (Nat.le_trans s1 b2.size) b3.size) (fun k hk hm => by have := mem_new hm; omega)
    have q3 : w.heap.size ≤ w3.heap.size := Nat.le_trans (Nat.le_trans s1 b2.size) b3.size
    have nl : ∀ l k, k < w.heap.size → k ∉ (bdA w.heap.size w3.heap.size l).fp := fun l k hk hm => by have := mem_bdA hm; omega
    have b5 : Below w.heap.size w4 w5 := HF5.out.below (Nat.le_trans q3 b4.size) (nl _)
    have b6 : Below w.heap.size w5 w6 := HF6.out.below (Nat.le_trans (Nat.le_trans q3 b4.size) b5.size) (nl _)
    have b7 : Below w.heap.size w6 w7 := HF7.out.below (Nat.le_trans (Nat.le_trans (Nat.le_trans q3 b4.size) b5.size) b6.size) (nl _)
    have q7 : w.heap.size ≤ w7.heap.size := Nat.le_trans (Nat.le_trans (Nat.le_trans (Nat.le_trans q3 b4.size) b5.size) b6.size) b7.size
    exact ((((((hb1.trans b2).trans b3).trans b4).trans b5).trans b6).trans b7).trans (hb79.mono q7)
  go_wp2
  go_ret
  exact ⟨rfl, hfin.out⟩
end Go.Proofs.Ytiikkglgoanpbaa
