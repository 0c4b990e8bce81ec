/- The board of package watch in memory, and the walks of New, Watch, Open. -/
import Derived.Test.YtiikkglgoanpbaaMapI
import Derived.Test.YtiikkglgoanpbaaChecked
namespace Go.Proofs.Ytiikkglgoanpbaa
open Go.RowKit Go.Maps Go.WideShapes Go.ChangeMaps

theorem heap_alloc_new' (w : World) (o : Obj) {n : Nat} (h : n = w.heap.size) : (w.alloc o).heap[n]? = some o := by subst h; exact heap_alloc_new w o

theorem turned_fr {w w' : World} {b : Nat} (h : w.mapTurned w' b) : Fr (fun k => k = b) w w' := by
  have := h.grown
  exact ⟨this.os, this.tape, this.output, this.size, fun k hk hn => this.block k hk (by simpa using hn)⟩
theorem turned_block {w w' : World} {b k : Nat} (h : w.mapTurned w' b) (hk : k ≠ b) : w'.heap[k]? = w.heap[k]? := by
  obtain ⟨es, c, es', c', hb, rfl⟩ := h
  exact heap_setBlock_other hb _ hk
theorem turned_size {w w' : World} {b : Nat} (h : w.mapTurned w' b) : w'.heap.size = w.heap.size := by
  obtain ⟨es, c, es', c', hb, rfl⟩ := h
  simp [setBlock]

def setV (l : List Int) : IV := l.map fun k => (k, .bool true)
structure Nt where
  id : Int
  at_ : Int
  blk : Nat
  mb : Nat
  miss : List Int
def ntV (ns : List Nt) : IV := ns.map fun n => (n.id, .pointer (some ⟨n.blk, 0, none⟩))
structure Brd where
  pb : Nat
  wm : Nat → Nat
  wl : Nat → List Int
  nb : Nat
  ns : List Nt
  last : Int
def Brd.fp (B : Brd) : List Nat := B.pb :: B.nb :: B.wm 0 :: B.wm 1 :: B.wm 2 :: B.wm 3 :: B.ns.flatMap fun n => [n.blk, n.mb]
abbrev Brd.cells (B : Brd) : Array Value := #[.map (some (B.wm 0)), .map (some (B.wm 1)), .map (some (B.wm 2)), .map (some (B.wm 3)), .map (some B.nb), .int .i64 B.last]
abbrev MI (w : World) (b : Nat) (l : IV) : Prop := MapI Try.prog 3 w b l
structure IsB (w : World) (B : Brd) : Prop where
  self : w.heap[B.pb]? = some (.cells B.cells 57 (0, 0))
  watch : ∀ i, i < 4 → MI w (B.wm i) (setV (B.wl i))
  nots : MI w B.nb (ntV B.ns)
  each : ∀ n ∈ B.ns, w.heap[n.blk]? = some (.cells #[.int .i64 n.at_, .map (some n.mb)] 62 (0, 0)) ∧ MI w n.mb (setV n.miss)
  nodup : B.fp.Nodup

theorem IsB.lt {w : World} {B : Brd} (h : IsB w B) : ∀ b ∈ B.fp, b < w.heap.size := by
  intro b hb
  simp only [Brd.fp, List.mem_cons, List.mem_flatMap] at hb
  rcases hb with rfl | rfl | rfl | rfl | rfl | rfl | ⟨n, hn, hb⟩
  · exact lt_of_block h.self
  · exact h.nots.lt
  · exact (h.watch 0 (by omega)).lt
  · exact (h.watch 1 (by omega)).lt
  · exact (h.watch 2 (by omega)).lt
  · exact (h.watch 3 (by omega)).lt
  · simp at hb
    rcases hb with rfl | rfl
    · exact lt_of_block (h.each n hn).1
    · exact (h.each n hn).2.lt
/-- what turns no block of the board leaves it -/
theorem IsB.keep {w w' : World} {B : Brd} (h : IsB w B) (hk : ∀ b ∈ B.fp, w'.heap[b]? = w.heap[b]?) : IsB w' B := by
  refine ⟨(hk _ (by simp [Brd.fp])).trans h.self, fun i hi => (h.watch i hi).block (hk _ ?_), h.nots.block (hk _ (by simp [Brd.fp])), fun n hn => ⟨(hk _ ?_).trans (h.each n hn).1, (h.each n hn).2.block (hk _ ?_)⟩, h.nodup⟩
  · obtain rfl | rfl | rfl | rfl : i = 0 ∨ i = 1 ∨ i = 2 ∨ i = 3 := by omega
    all_goals simp [Brd.fp]
  · simp only [Brd.fp, List.mem_cons, List.mem_flatMap]
    exact .inr (.inr (.inr (.inr (.inr (.inr ⟨n, hn, by simp⟩)))))
  · simp only [Brd.fp, List.mem_cons, List.mem_flatMap]
    exact .inr (.inr (.inr (.inr (.inr (.inr ⟨n, hn, by simp⟩)))))
theorem IsB.ext {w w' : World} {B : Brd} (h : IsB w B) (hb : Below w.heap.size w w') : IsB w' B := h.keep fun b hm => hb.block b (h.lt b hm)

/-- A new board: blocks s (notices), s + 1 (itself), s + 2 .. s + 5 (watchers). -/
def newB (s : Nat) : Brd := ⟨s + 1, fun i => s + 2 + i, fun _ => [], s, [], 0⟩

def arr4 (s k : Nat) : Array Value := #[.map (if 0 < k then some (s + 2) else none), .map (if 1 < k then some (s + 3) else none), .map (if 2 < k then some (s + 4) else none), .map (if 3 < k then some (s + 5) else none), .map (some s), .int .i64 0]

set_option maxHeartbeats 1600000 in
theorem new_any (w : World) : Calls Try.prog 9 #[] w fun e w' => e = .returned (.pointer (some ⟨w.heap.size + 1, 0, none⟩)) ∧ IsB w' (newB w.heap.size) ∧ Below w.heap.size w w' := by
  have hmm := @run_makeMap Try.prog
  go_enter Try.func9, Try.ntmps9
  go_wp2
  go_loopw [6] (fun i wr => ∃ k : Nat, k ≤ 4 ∧ i = .int .i64 k ∧ wr.heap[w.heap.size + 1]? = some (.cells (arr4 w.heap.size k) 57 (0, 0)) ∧ wr.heap.size = w.heap.size + 2 + k ∧ MI wr w.heap.size [] ∧ (∀ j, j < k → MI wr (w.heap.size + 2 + j) []) ∧ Below w.heap.size w wr) (fun i _ => 4 - (intOf i).toNat)
  case atStart =>
    refine ⟨0, by omega, rfl, heap_alloc_new' _ _ (by simp), by simp, ?_, fun j hj => by omega, ?_⟩
    · exact (MapI.made w).block (Below.heap_alloc _ _ _ (by simp))
    · ((repeat' (first | exact Below.refl _ _ | refine below_drewN ?_ _ | refine Below.drew ?_ | refine Below.alloc ?_ ?_ _ | refine Below.trans ?_ (Below.mono (by assumption) ?_))); all_goals (first | exact Nat.le_refl _ | exact Below.size (by assumption) | omega | (simp; done) | (simp; omega)))
  case round =>
    obtain ⟨k, hk, rfl, hb, hs, hm, hj, hbr⟩ := hrel
    have HM := Lib.hid hm
    have HJ := Lib.hid hj
    have HS := Lib.hid hs
    have HB := Lib.hid hb
    have hlt := lt_of_block hb
    have hf : wr.frozen? ⟨w.heap.size + 1, k, none⟩ = false := by simp [World.frozen?, hb]
    have hc : k < 4 → wr.cell? ⟨w.heap.size + 1, k, none⟩ = some (.map none) := by
      intro h
      simp only [World.cell?, hb]
      obtain rfl | rfl | rfl | rfl : k = 0 ∨ k = 1 ∨ k = 2 ∨ k = 3 := by omega
      all_goals simp [arr4]
    clear hm hj hb hs
    by_cases h4 : k < 4
    · have hc := hc h4
      go_wp2
      go_roundw
      case rel =>
        have e := HS.out
        refine ⟨k + 1, by omega, by go_num, ?_, ?_, ?_, ?_, ?_⟩
        · have h2 := heap_setCell_same wr (w.heap.size + 1) k (arr4 w.heap.size k) 57 (.map (some wr.heap.size)) HB.out
          rw [show (arr4 w.heap.size k).setIfInBounds k (.map (some wr.heap.size)) = arr4 w.heap.size (k + 1) from by
            rw [e]
            obtain rfl | rfl | rfl | rfl : k = 0 ∨ k = 1 ∨ k = 2 ∨ k = 3 := by omega
            all_goals simp [arr4]] at h2
          exact (Below.heap_alloc _ _ _ (by simpa using hlt)).trans h2
        · simp; omega
        · refine HM.out.block ?_
          rw [Below.heap_alloc _ _ _ (by simp; omega)]
          exact Below.heap_setCell _ _ _ _ (by simp)
        · intro j hj
          rcases Nat.lt_or_ge j k with g | g
          · refine (HJ.out j g).block ?_
            rw [Below.heap_alloc _ _ _ (by simp; omega)]
            exact Below.heap_setCell _ _ _ _ (by simp; omega)
          · have := MapI.made (P := Try.prog) (K := 3) (wr.setCell ⟨w.heap.size + 1, k, none⟩ (.map (some wr.heap.size)))
            rw [show (wr.setCell ⟨w.heap.size + 1, k, none⟩ (.map (some wr.heap.size))).heap.size = w.heap.size + 2 + j by simp; omega] at this
            exact this
        · exact (hbr.setCell (by simp) _).alloc (by simp; omega) _
      case measure => simp [intOf]; omega
    · have hk4 : k = 4 := by omega
      rw [hk4] at HB HJ
      have fin : IsB wr (newB w.heap.size) := by
        refine ⟨?_, ?_, HM.out, fun n hn => by simp [newB] at hn, ?_⟩
        · have := HB.out
          simpa [arr4, newB, Brd.cells] using this
        · intro i hi
          exact HJ.out i hi
        · simp [Brd.fp, newB]; omega
      have FIN := Lib.hid fin
      clear fin hk4 hc
      go_wp2
      go_ret
      exact ⟨rfl, FIN.out, hbr⟩
end Go.Proofs.Ytiikkglgoanpbaa
