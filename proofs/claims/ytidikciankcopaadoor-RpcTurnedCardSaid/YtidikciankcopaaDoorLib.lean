/- Small laws on worlds, frames and rows of cells that all walks of this seat use. No program is named. -/
import Derived.WalkKit
import Derived.ProofKit
import Derived.Deep.QuietTactic
import Derived.BigQuiet
import Derived.Lib.Hide
import Derived.WalkSmall
import Derived.WalkSpells
import Derived.WalkLawsBesides
namespace Go.Proofs.YtidikciankcopaaDoor
open Go.RowKit

theorem bcell {W w1 : World} (hb : Below W.heap.size W w1) : (∀ b o, b < W.heap.size → w1.cell? ⟨b, o, none⟩ = W.cell? ⟨b, o, none⟩) ∧ (∀ b o, b < W.heap.size → w1.frozen? ⟨b, o, none⟩ = W.frozen? ⟨b, o, none⟩) :=
  ⟨fun b o h => hb.cell (p := ⟨b, o, none⟩) h, fun b o h => hb.frozen (p := ⟨b, o, none⟩) h⟩

theorem ret_int {k : IntKind} {a b : Int} (h : a = b) : Ending.returned (.int k a) = .returned (.int k b) := by rw [h]
theorem ret_bool {a b : Bool} (h : a = b) : Ending.returned (.bool a) = .returned (.bool b) := by rw [h]
theorem ret_int2 {k k' : IntKind} {a b a' b' : Int} (h : a = b) (h' : a' = b') : Ending.returned (.tuple #[.int k a, .int k' a']) = .returned (.tuple #[.int k b, .int k' b']) := by rw [h, h']

/-! Bounds of quotients, rests and products -/
theorem div_b {a b M : Int} (h0 : 0 ≤ a) (h1 : a ≤ M) (hb : 1 ≤ b) : 0 ≤ a / b ∧ a / b ≤ M :=
  ⟨Int.ediv_nonneg h0 (by omega), Int.le_trans (Int.ediv_le_self b h0) h1⟩
theorem mod_b {a b : Int} (hb : 1 ≤ b) : 0 ≤ a % b ∧ a % b < b :=
  ⟨Int.emod_nonneg _ (by omega), Int.emod_lt_of_pos _ (by omega)⟩
theorem mul_b {a b M N : Int} (h0 : 0 ≤ a) (h1 : a ≤ M) (k0 : 0 ≤ b) (k1 : b ≤ N) : 0 ≤ a * b ∧ a * b ≤ M * N :=
  ⟨Int.mul_nonneg h0 k0, Int.mul_le_mul h1 k1 k0 (by omega)⟩
theorem qr_of {a b r : Int} (h0 : 0 ≤ r) (h1 : r < b) : (a * b + r) / b = a ∧ (a * b + r) % b = r := by
  have hb : b ≠ 0 := by omega
  refine ⟨?_, ?_⟩
  · rw [Int.add_comm, Int.add_mul_ediv_right _ _ hb, Int.ediv_eq_zero_of_lt h0 h1]; omega
  · rw [Int.add_comm, Int.add_mul_emod_self_right]; exact Int.emod_eq_of_lt h0 h1
theorem qr_sum (a b : Int) : a / b * b + a % b = a := by rw [Int.mul_comm]; exact Int.mul_ediv_add_emod a b

/-! A frame: below the heap's old size, only the blocks of S may have turned. -/
structure Fr (S : Nat → Prop) (w w' : World) : Prop where
  os : w'.os = w.os
  tape : w'.tape = w.tape
  output : w'.output = w.output
  size : w.heap.size ≤ w'.heap.size
  block : ∀ k, k < w.heap.size → ¬ S k → w'.heap[k]? = w.heap[k]?

namespace Fr
variable {S T : Nat → Prop} {w w' w'' : World}
theorem refl (S : Nat → Prop) (w : World) : Fr S w w := ⟨rfl, rfl, rfl, Nat.le_refl _, fun _ _ _ => rfl⟩
theorem weaken (h : Fr S w w') (hs : ∀ k, k < w.heap.size → S k → T k) : Fr T w w' := ⟨h.os, h.tape, h.output, h.size, fun k hk hn => h.block k hk fun hS => hn (hs k hk hS)⟩
theorem trans (h : Fr S w w') (k : Fr T w' w'') (hs : ∀ k, k < w.heap.size → T k → S k) : Fr S w w'' :=
  ⟨k.os.trans h.os, k.tape.trans h.tape, k.output.trans h.output, Nat.le_trans h.size k.size, fun i hi hn => (k.block i (Nat.lt_of_lt_of_le hi h.size) fun hT => hn (hs i hi hT)).trans (h.block i hi hn)⟩
theorem of_below {B : Nat} (h : Below B w w') : Fr (fun k => B ≤ k) w w' := ⟨h.os, h.tape, h.output, h.size, fun k _ hn => h.block k (by omega)⟩
theorem below {B : Nat} (h : Fr S w w') (hB : B ≤ w.heap.size) (hs : ∀ k, k < B → ¬ S k) : Below B w w' := ⟨h.os, h.tape, h.output, h.size, fun k hk => h.block k (by omega) (hs k hk)⟩
theorem ext (h : Below w.heap.size w w') : Fr S w w' := ⟨h.os, h.tape, h.output, h.size, fun k hk _ => h.block k hk⟩
theorem to_ext (h : Fr S w w') (hs : ∀ k, k < w.heap.size → ¬ S k) : Below w.heap.size w w' := ⟨h.os, h.tape, h.output, h.size, fun k hk => h.block k hk (hs k hk)⟩
theorem drew (h : Fr S w w') : Fr S w w'.drew := ⟨h.os, h.tape, h.output, h.size, h.block⟩
theorem drewN (h : Fr S w w') (n : Nat) : Fr S w (w'.drewN n) := ⟨h.os, h.tape, h.output, h.size, h.block⟩
theorem alloc (h : Fr S w w') (o : Obj) : Fr S w (w'.alloc o) :=
  ⟨h.os, h.tape, h.output, Nat.le_trans h.size (by simp), fun k hk hn => (Below.heap_alloc _ _ _ (Nat.lt_of_lt_of_le hk h.size)).trans (h.block k hk hn)⟩
theorem setCell (h : Fr S w w') {a : Addr} (ha : a.block < w.heap.size → S a.block) (v : Value) : Fr S w (w'.setCell a v) :=
  ⟨h.os, h.tape, h.output, by simpa [World.setCell] using h.size, fun k hk hn => (Below.heap_setCell _ _ _ _ (fun e => by subst e; exact hn (ha hk))).trans (h.block k hk hn)⟩
theorem grown {row : Option Nat} (h : Fr S w w') (hg : w'.grownBy w'' row) (hr : ∀ k, k < w.heap.size → some k = row → S k) : Fr S w w'' :=
  ⟨hg.os.trans h.os, hg.tape.trans h.tape, hg.output.trans h.output, Nat.le_trans h.size hg.size, fun k hk hn => (hg.block k (Nat.lt_of_lt_of_le hk h.size) fun e => hn (hr k hk e)).trans (h.block k hk hn)⟩
theorem cell (h : Fr S w w') {p : Addr} (hp : p.block < w.heap.size) (hn : ¬ S p.block) : w'.cell? p = w.cell? p := World.cell?_of_block (h.block _ hp hn)
theorem frozen (h : Fr S w w') {p : Addr} (hp : p.block < w.heap.size) (hn : ¬ S p.block) : w'.frozen? p = w.frozen? p := World.frozen?_of_block (h.block _ hp hn)
end Fr

theorem ownsRow_drewN {w : World} {base size n : Nat} {e : TypeId} {v : Value} {xs : List Value} (h : w.ownsRow base e size v n xs) (k : Nat) : (w.drewN k).ownsRow base e size v n xs := h
theorem owns_shape {w : World} {base size n : Nat} {e : TypeId} {v : Value} {xs : List Value} (h : w.ownsRow base e size v n xs) : ∃ a c, v = .slice a n c := by
  rcases h.2 with ⟨rfl, rfl⟩ | ⟨g, cap, cur, rfl, _⟩
  · exact ⟨_, _, rfl⟩
  · exact ⟨_, _, rfl⟩
theorem owns_ext {w w' : World} {base size n : Nat} {e : TypeId} {v : Value} {xs : List Value} (h : w.ownsRow base e size v n xs) (hb : Below w.heap.size w w') : w'.ownsRow base e size v n xs := by
  refine ⟨h.1, h.2.imp id ?_⟩
  rintro ⟨g, cap, cur, rfl, h1, h2, h3⟩
  exact ⟨g, cap, cur, rfl, h1, by rw [hb.block g (Array.getElem?_eq_some_iff.1 h2).1]; exact h2, h3⟩
theorem add_lit' (b j : Nat) : (⟨b, 0, none⟩ : Addr).add j = ⟨b, j, none⟩ := by unfold Addr.add; split <;> simp_all
theorem cells_new (w : World) (cs : List Value) (t : TypeId) : ∀ (j : Nat) (u : Value), cs[j]? = some u → (w.alloc (.cells cs.toArray t)).cell? ((⟨w.heap.size, 0, none⟩ : Addr).add j) = some u := by
  intro j u h
  rw [add_lit', World.cell?_alloc_new]
  simpa using h
theorem cells_newN (w : World) (cs : List Value) (t : TypeId) (n : Nat) : ∀ (j : Nat) (u : Value), cs[j]? = some u → ((w.alloc (.cells cs.toArray t)).drewN n).cell? ((⟨w.heap.size, 0, none⟩ : Addr).add j) = some u := cells_new w cs t

/-! A slice value that reads as a list of cells ('size' cells an element, n elements). -/
def Sl (w : World) (size : Nat) (v : Value) (n : Nat) (xs : List Value) : Prop :=
  xs.length = n * size ∧ ((v = .slice none 0 0 ∧ n = 0) ∨ ∃ b off cap, v = .slice (some ⟨b, off, none⟩) n cap ∧ b < w.heap.size ∧ n ≤ cap ∧ ∀ j, j < n * size → w.cell? ⟨b, off + j, none⟩ = xs[j]?)

theorem Sl.nil (w : World) (size : Nat) : Sl w size (.slice none 0 0) 0 [] := ⟨by simp, .inl ⟨rfl, rfl⟩⟩
theorem Sl.mono {w w' : World} {size n : Nat} {v : Value} {xs : List Value} (h : Sl w size v n xs) (hb : Below w.heap.size w w') : Sl w' size v n xs := by
  obtain ⟨h1, h2⟩ := h
  refine ⟨h1, h2.imp id ?_⟩
  rintro ⟨b, off, cap, rfl, hlt, hc, hx⟩
  exact ⟨b, off, cap, rfl, Nat.lt_of_lt_of_le hlt hb.size, hc, fun j hj => (hb.cell (p := ⟨b, off + j, none⟩) hlt).trans (hx j hj)⟩
theorem Sl.of_owns {w : World} {base size n : Nat} {e : TypeId} {v : Value} {xs : List Value} (h : w.ownsRow base e size v n xs) : Sl w size v n xs := by
  refine ⟨h.1, h.2.imp id ?_⟩
  rintro ⟨g, cap, cur, rfl, hb, hg, hn, hm, hs, ht⟩
  refine ⟨g, 0, cap, rfl, (Array.getElem?_eq_some_iff.1 hg).1, hn, fun j hj => ?_⟩
  have := World.ownsRow.cellAt (w := w) (base := base) (e := e) (size := size) (g := g) (cap := cap) (n := n) (xs := xs) ⟨h.1, .inr ⟨g, cap, cur, rfl, hb, hg, hn, hm, hs, ht⟩⟩ j hj
  simpa using this
end Go.Proofs.YtidikciankcopaaDoor
