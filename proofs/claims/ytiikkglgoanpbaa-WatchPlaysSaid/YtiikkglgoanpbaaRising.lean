/- slices.Sorted(maps.Keys(m)) at maps with integer keys, by the shelf's contracts laid at this dump. (The walk follows the guide's worked example for integer keys.) -/
import Derived.Test.YtiikkglgoanpbaaBoard
import Derived.Test.YtiikkglgoanpbaaLaid14
namespace Go.Proofs.Ytiikkglgoanpbaa
open Go.RowKit Go.Maps Go.Sort Go.Shelf Go.WideShapes

theorem sorted_of_perm {l ss : List Int} (h : l.Pairwise (· < ·)) (hp : ss.Perm l) : ss.mergeSort (fun x y => decide (x ≤ y)) = l := by
  refine List.Perm.eq_of_pairwise (le := fun a b : Int => a ≤ b) (fun a b _ _ h1 h2 => by omega) ?_ ?_ ((List.mergeSort_perm _ _).trans hp)
  · have := List.pairwise_mergeSort (le := fun x y : Int => decide (x ≤ y)) (by simp; omega) (by simp; omega) ss
    simpa using this
  · exact h.imp (fun h => by omega)
theorem keys_mdat (l : IV) : intKeys (mdat l) = l.map (·.1) := by
  simp only [mdat, intKeys, List.map_map]
  exact List.map_congr_left fun p _ => rfl

theorem sortsA (m : Nat) : AnyZI.SortsIn Try.prog Try.sortedA_ren Fence.wide m :=
  ⟨fun blk off cap ss W hH hblk hsz => callsIn_wide.2 (AnyM.slices_Sort_int Try.sortA blk off cap ss W hH hblk hsz),
   fun p cap W => callsIn_wide.2 (AnyM.slices_Sort_int_none Try.sortA p cap W)⟩

set_option maxHeartbeats 1000000 in
theorem risingA (b : Nat) (l : IV) (w : World) (hm : MI w b l) (hmax : l.length ≤ 100000) :
    Calls Try.prog 29 #[.map (some b)] w fun e w' => ∃ v : Value, e = .returned v ∧ w'.ownsRow w.heap.size 3 1 v l.length ((l.map (·.1)).map (Value.int .i64)) ∧ (v = .slice none 0 0 ↔ l = []) ∧ Below w.heap.size w w' := by
  refine (callsIn_wide (n := 6)).1 ?_
  have hown := hm.own
  have hup : (l.map (·.1)).Pairwise (· < ·) := List.pairwise_map.2 hm.up
  have hbl := hm.lt
  have hsz0 : Maps.size (mdat l) ≤ maxLen := by rw [mdat_size]; unfold maxLen; omega
  have hbytes : Maps.size (mdat l) * 8 ≤ 140737488355328 := by rw [mdat_size]; omega
  have hseq : SeqGives Fence.wide 2 Try.prog 39 #[.pointer (some ⟨w.heap.size, 0, none⟩)] encZ (fun ss => ss.Perm (intKeys (mdat l))) (Maps.size (mdat l)) (w.alloc (.cells #[.map (some b)] 54)) :=
    AnyZI.keys_gives (ρ := Try.keysA_ren) { Try.keysA with } Fence.wide _ trivial rfl (by omega) w.heap.size b l.length (mdat l) _ (by simp) (by simp) (by
      obtain ⟨es, clock, hb, Ft, hs, hD⟩ := hown
      exact ⟨es, clock, (Below.heap_alloc _ _ b hbl).trans hb, Ft, hs, hD⟩)
  have cK : ∀ mb W, CallsIn Fence.wide 5 Try.prog 35 #[.map mb] W fun e w' => e = .returned (.func (.func 39) #[] #[.pointer (some ⟨W.heap.size, 0, none⟩)]) ∧ w' = W.alloc (.cells #[.map mb] 54) := fun mb W => AnyZI.keys_in Try.keysA Fence.wide 5 trivial rfl mb W
  have cS := AnyZI.sorted_in Try.sortedA Fence.wide 5 trivial trivial trivial trivial rfl (by omega) (sortsA _) (enters_of Try.func38 (by kernel_rfl) rfl) 39 #[.pointer (some ⟨w.heap.size, 0, none⟩)] trivial (enters_of Try.func39 (by kernel_rfl) rfl) _ _ hsz0 hbytes _ hseq
  change CallsIn _ _ Try.prog 34 _ _ _ at cS
  have HUP := Lib.hid hup
  clear hup hown hm hsz0 hbytes hseq hmax
  have hfK : Fence.wide.fn 35 := trivial
  have hfS : Fence.wide.fn 34 := trivial
  refine callsIn_of_wp Try.func29 rfl trivial ?_ rfl
  simp only [Try.ntmps29, List.size_toArray, List.length_cons, List.length_nil, Nat.reduceAdd, Nat.reduceSub, Array.replicate_succ, Array.replicate_zero, List.push_toArray, List.append_toArray, List.nil_append, List.cons_append]
  gi_wp2_with (first | (gi_at_call 35; refine (cK _ _).mono ?_; rintro e w' ⟨rfl, rfl⟩) | (gi_at_call 34; refine cS.mono ?_; rintro e w' ⟨v, ss, rfl, hS, hrow, hnil, hb⟩))
  go_ret
  rw [keys_mdat] at hS
  have hlen : ss.length = l.length := by have := hS.length_eq; simpa using this
  rw [sorted_of_perm HUP.out hS, hlen] at hrow
  refine ⟨v, rfl, ownsRow_base_a hrow (by simp), ?_, ((Below.refl _ w).alloc (Nat.le_refl _) _).trans (hb.mono (by simp))⟩
  rw [hnil, ← List.length_eq_zero_iff, hlen, List.length_eq_zero_iff]

set_option maxHeartbeats 1000000 in
theorem risingB (b : Nat) (l : IV) (w : World) (hm : MI w b l) (hmax : l.length ≤ 100000) :
    Calls Try.prog 30 #[.map (some b)] w fun e w' => ∃ v : Value, e = .returned v ∧ w'.ownsRow w.heap.size 3 1 v l.length ((l.map (·.1)).map (Value.int .i64)) ∧ (v = .slice none 0 0 ↔ l = []) ∧ Below w.heap.size w w' := by
  refine (callsIn_wide (n := 6)).1 ?_
  have hown := hm.own
  have hup : (l.map (·.1)).Pairwise (· < ·) := List.pairwise_map.2 hm.up
  have hbl := hm.lt
  have hsz0 : Maps.size (mdat l) ≤ maxLen := by rw [mdat_size]; unfold maxLen; omega
  have hbytes : Maps.size (mdat l) * 8 ≤ 140737488355328 := by rw [mdat_size]; omega
  have hseq : SeqGives Fence.wide 2 Try.prog 40 #[.pointer (some ⟨w.heap.size, 0, none⟩)] encZ (fun ss => ss.Perm (intKeys (mdat l))) (Maps.size (mdat l)) (w.alloc (.cells #[.map (some b)] 53)) :=
    AnyZI.keys_gives (ρ := Try.keysB_ren) { Try.keysB with } Fence.wide _ trivial rfl (by omega) w.heap.size b l.length (mdat l) _ (by simp) (by simp) (by
      obtain ⟨es, clock, hb, Ft, hs, hD⟩ := hown
      exact ⟨es, clock, (Below.heap_alloc _ _ b hbl).trans hb, Ft, hs, hD⟩)
  have cK : ∀ mb W, CallsIn Fence.wide 5 Try.prog 36 #[.map mb] W fun e w' => e = .returned (.func (.func 40) #[] #[.pointer (some ⟨W.heap.size, 0, none⟩)]) ∧ w' = W.alloc (.cells #[.map mb] 53) := fun mb W => AnyZI.keys_in Try.keysB Fence.wide 5 trivial rfl mb W
  have cS := AnyZI.sorted_in Try.sortedA Fence.wide 5 trivial trivial trivial trivial rfl (by omega) (sortsA _) (enters_of Try.func38 (by kernel_rfl) rfl) 40 #[.pointer (some ⟨w.heap.size, 0, none⟩)] trivial (enters_of Try.func40 (by kernel_rfl) rfl) _ _ hsz0 hbytes _ hseq
  change CallsIn _ _ Try.prog 34 _ _ _ at cS
  have HUP := Lib.hid hup
  clear hup hown hm hsz0 hbytes hseq hmax
  have hfK : Fence.wide.fn 36 := trivial
  have hfS : Fence.wide.fn 34 := trivial
  refine callsIn_of_wp Try.func30 rfl trivial ?_ rfl
  simp only [Try.ntmps30, List.size_toArray, List.length_cons, List.length_nil, Nat.reduceAdd, Nat.reduceSub, Array.replicate_succ, Array.replicate_zero, List.push_toArray, List.append_toArray, List.nil_append, List.cons_append]
  gi_wp2_with (first | (gi_at_call 36; refine (cK _ _).mono ?_; rintro e w' ⟨rfl, rfl⟩) | (gi_at_call 34; refine cS.mono ?_; rintro e w' ⟨v, ss, rfl, hS, hrow, hnil, hb⟩))
  go_ret
  rw [keys_mdat] at hS
  have hlen : ss.length = l.length := by have := hS.length_eq; simpa using this
  rw [sorted_of_perm HUP.out hS, hlen] at hrow
  refine ⟨v, rfl, ownsRow_base_a hrow (by simp), ?_, ((Below.refl _ w).alloc (Nat.le_refl _) _).trans (hb.mono (by simp))⟩
  rw [hnil, ← List.length_eq_zero_iff, hlen, List.length_eq_zero_iff]
end Go.Proofs.Ytiikkglgoanpbaa
