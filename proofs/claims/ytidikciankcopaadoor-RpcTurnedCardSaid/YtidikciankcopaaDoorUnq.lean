/- The walk of rpc.UnpackRequest: what is refused; a request without a transaction. -/
import Derived.Test.YtidikciankcopaaDoorOpen
namespace Go.Proofs.YtidikciankcopaaDoor
open Go.RowKit Go.WideShapes

/-- what UnpackRequest leaves where it refuses -/
def UnqNo (x : Nat) (w : World) (e : Ending) (w' : World) : Prop := e = .returned (.tuple #[rqV RqD.none (.slice none 0 0), .int .i64 (x : Nat)]) ∧ Below w.heap.size w w'
set_option maxRecDepth 100000 in
set_option maxHeartbeats 1600000 in
theorem unq_bad (A : Nat → Prop) (v : Value) (l : List UInt8) (x : Nat) (w : World) (hx : RB A w v l) (hl : l.length ≤ 100000) (hT : TabW w) (hg0 : 0 < w.heap.size)
    (hn : ((nextB l).e = x ∧ x ≠ 0) ∨ ((nextB l).e = 0 ∧ 0 < (nextB l).rest.length ∧ x = 11)) : Calls Tryd.prog 20 #[v] w (UnqNo x w) := by
  obtain ⟨xa, xc, rfl⟩ := hx.shape
  have hb0 : ∀ o, Below w.heap.size w (w.alloc o) := fun o => (Below.refl _ w).alloc (Nat.le_refl _) o
  have hcl : ∀ o, Calls Tryd.prog 35 #[.slice xa l.length xc, .int .i64 (1 : Nat)] (w.alloc o) fun e w' => e = .returned (.tuple #[.pointer none, .int .i64 (x : Nat)]) ∧ Below (w.heap.size + 1) (w.alloc o) w' := fun o => by
    have hx' : RB A (w.alloc o) (.slice xa l.length xc) l := hx.ext (hb0 o)
    rcases hn with ⟨rfl, h0⟩ | ⟨h0, h1, rfl⟩
    · refine (opn_bad A _ l 1 (w.alloc o) hx' hl (tab_below hT (hb0 o) hg0) (by rw [World.size_alloc]; omega) h0).mono ?_
      rintro e w' ⟨rfl, hb⟩
      exact ⟨rfl, by simpa using hb⟩
    · refine (opn_long A _ l 1 (w.alloc o) hx' hl (tab_below hT (hb0 o) hg0) (by rw [World.size_alloc]; omega) h0 h1).mono ?_
      rintro e w' ⟨rfl, hb⟩
      exact ⟨rfl, by simpa using hb⟩
  have hxne : ((x : Int) != 0) = true := by
    rcases hn with ⟨_, h⟩ | ⟨_, _, rfl⟩
    · simp; omega
    · rfl
  have HCL := Lib.hid hcl
  clear hcl hx hT hg0 hn hb0
  go_enter Tryd.func20, Tryd.ntmps20
  go_wp2_with fail
  refine (HCL.out _).mono ?_
  rintro e w1 ⟨rfl, hb1⟩
  have B0 := (hb1.block w.heap.size (by omega)).trans (heap_alloc_new w _)
  have hs1 := hb1.size
  simp only [World.size_alloc] at hs1
  have hlt : w.heap.size < w1.heap.size := by omega
  have hbw : Below w.heap.size w w1 := ((Below.refl _ w).alloc (Nat.le_refl _) _).trans (hb1.mono (by omega))
  clear hb1
  obtain ⟨x0, f0⟩ := blk_cell (i := 0) B0
  obtain ⟨x1, f1⟩ := blk_cell (i := 1) B0
  obtain ⟨x2, f2⟩ := blk_cell (i := 2) B0
  obtain ⟨x3, f3⟩ := blk_cell (i := 3) B0
  obtain ⟨x4, f4⟩ := blk_cell (i := 4) B0
  obtain ⟨x5, f5⟩ := blk_cell (i := 5) B0
  obtain ⟨x6, f6⟩ := blk_cell (i := 6) B0
  obtain ⟨x7, f7⟩ := blk_cell (i := 7) B0
  obtain ⟨x8, f8⟩ := blk_cell (i := 8) B0
  simp at x0 x1 x2 x3 x4 x5 x6 x7 x8
  have HB0 := Lib.hid B0
  clear B0
  go_wp2
  (try simp only [Exit.inBlock, Exit.then])
  refine bodyPost_ret (results_cell_tmp_row rfl _ _ w.heap.size 30 _ (0, 0) _ rfl (set9_blk HB0.out) Tryd.underlying30 rfl (by kernel_rfl)) rfl ?_
  exact ⟨rfl, below9 hbw (Nat.le_refl _)⟩
end Go.Proofs.YtidikciankcopaaDoor
