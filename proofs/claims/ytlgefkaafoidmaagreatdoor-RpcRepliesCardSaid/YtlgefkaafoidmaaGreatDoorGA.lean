/- Small laws on worlds, frames and rows of cells that all walks of this seat use. No program is named. A region that draws its order, whose operations read what stays and whose callees only make memory: one walk in the order of the text. No program is named. How structured data lie in memory: readings of cells as data, through the blocks of a set alone; rows of such data. No program is named. Slices that are read through the blocks of a set alone; append onto a row of the call's own from any such slice; rows of rows. No program is named. The walk of slices.Clone at rows of bytes. Numbers as bytes of fixed width, most significant first; both ways. No program is named. The walk of wire.put: a number's bytes behind all; wire.Num, wire.Blob. -/
import Derived.WalkKit
import Derived.ProofKit
import Derived.Deep.QuietTactic
import Derived.BigQuiet
import Derived.Lib.Hide
import Derived.WalkSmall
import Derived.WalkSpells
import Derived.WalkLawsBesides
import Derived.Deep.RegionHeld3
import Derived.Laws.AppendOwnNone
import Derived.Maps.AppendAt
import Derived.ArgAppend
import Derived.Lib.SliceRun
import Derived.Test.YtlgefkaafoidmaaGreatDoorChecked
namespace Go.Proofs.YtlgefkaafoidmaaGreatDoor
open Go.RowKit

theorem bcell {W w1 : World} (hb : Below W.heap.size W w1) : (∀ b o, b < W.heap.size → w1.cell? ⟨b, o, none⟩ = W.cell? ⟨b, o, none⟩) ∧ (∀ b o, b < W.heap.size → w1.frozen? ⟨b, o, none⟩ = W.frozen? ⟨b, o, none⟩) :=
  ⟨fun b o h => hb.cell (p := ⟨b, o, none⟩) h, fun b o h => hb.frozen (p := ⟨b, o, none⟩) h⟩

theorem ret_int {k : IntKind} {a b : Int} (h : a = b) : Ending.returned (.int k a) = .returned (.int k b) := by rw [h]
theorem ret_bool {a b : Bool} (h : a = b) : Ending.returned (.bool a) = .returned (.bool b) := by rw [h]
theorem ret_int2 {k k' : IntKind} {a b a' b' : Int} (h : a = b) (h' : a' = b') : Ending.returned (.tuple #[.int k a, .int k' a']) = .returned (.tuple #[.int k b, .int k' b']) := by rw [h, h']

/-! Bounds of quotients, rests and products -/
theorem div_b {a b M : Int} (h0 : 0 ≤ a) (h1 : a ≤ M) (hb : 1 ≤ b) : 0 ≤ a / b ∧ a / b ≤ M :=
  ⟨Int.ediv_nonneg h0 (by omega), Int.le_trans (Int.ediv_le_self b h0) h1⟩
theorem mod_b {a b : Int} (hb : 1 ≤ b) : 0 ≤ a % b ∧ a % b < b :=
  ⟨Int.emod_nonneg _ (by omega), Int.emod_lt_of_pos _ (by omega)⟩
theorem mul_b {a b M N : Int} (h0 : 0 ≤ a) (h1 : a ≤ M) (k0 : 0 ≤ b) (k1 : b ≤ N) : 0 ≤ a * b ∧ a * b ≤ M * N :=
  ⟨Int.mul_nonneg h0 k0, Int.mul_le_mul h1 k1 k0 (by omega)⟩
theorem qr_of {a b r : Int} (h0 : 0 ≤ r) (h1 : r < b) : (a * b + r) / b = a ∧ (a * b + r) % b = r := by
  have hb : b ≠ 0 := by omega
  refine ⟨?_, ?_⟩
  · rw [Int.add_comm, Int.add_mul_ediv_right _ _ hb, Int.ediv_eq_zero_of_lt h0 h1]; omega
  · rw [Int.add_comm, Int.add_mul_emod_self_right]; exact Int.emod_eq_of_lt h0 h1
theorem qr_sum (a b : Int) : a / b * b + a % b = a := by rw [Int.mul_comm]; exact Int.mul_ediv_add_emod a b

/-! A frame: below the heap's old size, only the blocks of S may have turned. -/
structure Fr (S : Nat → Prop) (w w' : World) : Prop where
  os : w'.os = w.os
  tape : w'.tape = w.tape
  output : w'.output = w.output
  size : w.heap.size ≤ w'.heap.size
  block : ∀ k, k < w.heap.size → ¬ S k → w'.heap[k]? = w.heap[k]?

namespace Fr
variable {S T : Nat → Prop} {w w' w'' : World}
theorem refl (S : Nat → Prop) (w : World) : Fr S w w := ⟨rfl, rfl, rfl, Nat.le_refl _, fun _ _ _ => rfl⟩
theorem weaken (h : Fr S w w') (hs : ∀ k, k < w.heap.size → S k → T k) : Fr T w w' := ⟨h.os, h.tape, h.output, h.size, fun k hk hn => h.block k hk fun hS => hn (hs k hk hS)⟩
theorem trans (h : Fr S w w') (k : Fr T w' w'') (hs : ∀ k, k < w.heap.size → T k → S k) : Fr S w w'' :=
  ⟨k.os.trans h.os, k.tape.trans h.tape, k.output.trans h.output, Nat.le_trans h.size k.size, fun i hi hn => (k.block i (Nat.lt_of_lt_of_le hi h.size) fun hT => hn (hs i hi hT)).trans (h.block i hi hn)⟩
theorem of_below {B : Nat} (h : Below B w w') : Fr (fun k => B ≤ k) w w' := ⟨h.os, h.tape, h.output, h.size, fun k _ hn => h.block k (by omega)⟩
theorem below {B : Nat} (h : Fr S w w') (hB : B ≤ w.heap.size) (hs : ∀ k, k < B → ¬ S k) : Below B w w' := ⟨h.os, h.tape, h.output, h.size, fun k hk => h.block k (by omega) (hs k hk)⟩
theorem ext (h : Below w.heap.size w w') : Fr S w w' := ⟨h.os, h.tape, h.output, h.size, fun k hk _ => h.block k hk⟩
theorem to_ext (h : Fr S w w') (hs : ∀ k, k < w.heap.size → ¬ S k) : Below w.heap.size w w' := ⟨h.os, h.tape, h.output, h.size, fun k hk => h.block k hk (hs k hk)⟩
theorem drew (h : Fr S w w') : Fr S w w'.drew := ⟨h.os, h.tape, h.output, h.size, h.block⟩
theorem drewN (h : Fr S w w') (n : Nat) : Fr S w (w'.drewN n) := ⟨h.os, h.tape, h.output, h.size, h.block⟩
theorem alloc (h : Fr S w w') (o : Obj) : Fr S w (w'.alloc o) :=
  ⟨h.os, h.tape, h.output, Nat.le_trans h.size (by simp), fun k hk hn => (Below.heap_alloc _ _ _ (Nat.lt_of_lt_of_le hk h.size)).trans (h.block k hk hn)⟩
theorem setCell (h : Fr S w w') {a : Addr} (ha : a.block < w.heap.size → S a.block) (v : Value) : Fr S w (w'.setCell a v) :=
  ⟨h.os, h.tape, h.output, by simpa [World.setCell] using h.size, fun k hk hn => (Below.heap_setCell _ _ _ _ (fun e => by subst e; exact hn (ha hk))).trans (h.block k hk hn)⟩
theorem grown {row : Option Nat} (h : Fr S w w') (hg : w'.grownBy w'' row) (hr : ∀ k, k < w.heap.size → some k = row → S k) : Fr S w w'' :=
  ⟨hg.os.trans h.os, hg.tape.trans h.tape, hg.output.trans h.output, Nat.le_trans h.size hg.size, fun k hk hn => (hg.block k (Nat.lt_of_lt_of_le hk h.size) fun e => hn (hr k hk e)).trans (h.block k hk hn)⟩
theorem cell (h : Fr S w w') {p : Addr} (hp : p.block < w.heap.size) (hn : ¬ S p.block) : w'.cell? p = w.cell? p := World.cell?_of_block (h.block _ hp hn)
theorem frozen (h : Fr S w w') {p : Addr} (hp : p.block < w.heap.size) (hn : ¬ S p.block) : w'.frozen? p = w.frozen? p := World.frozen?_of_block (h.block _ hp hn)
end Fr

theorem ownsRow_drewN {w : World} {base size n : Nat} {e : TypeId} {v : Value} {xs : List Value} (h : w.ownsRow base e size v n xs) (k : Nat) : (w.drewN k).ownsRow base e size v n xs := h
theorem owns_shape {w : World} {base size n : Nat} {e : TypeId} {v : Value} {xs : List Value} (h : w.ownsRow base e size v n xs) : ∃ a c, v = .slice a n c := by
  rcases h.2 with ⟨rfl, rfl⟩ | ⟨g, cap, cur, rfl, _⟩
  · exact ⟨_, _, rfl⟩
  · exact ⟨_, _, rfl⟩
theorem owns_ext {w w' : World} {base size n : Nat} {e : TypeId} {v : Value} {xs : List Value} (h : w.ownsRow base e size v n xs) (hb : Below w.heap.size w w') : w'.ownsRow base e size v n xs := by
  refine ⟨h.1, h.2.imp id ?_⟩
  rintro ⟨g, cap, cur, rfl, h1, h2, h3⟩
  exact ⟨g, cap, cur, rfl, h1, by rw [hb.block g (Array.getElem?_eq_some_iff.1 h2).1]; exact h2, h3⟩
theorem add_lit' (b j : Nat) : (⟨b, 0, none⟩ : Addr).add j = ⟨b, j, none⟩ := by unfold Addr.add; split <;> simp_all
theorem cells_new (w : World) (cs : List Value) (t : TypeId) : ∀ (j : Nat) (u : Value), cs[j]? = some u → (w.alloc (.cells cs.toArray t)).cell? ((⟨w.heap.size, 0, none⟩ : Addr).add j) = some u := by
  intro j u h
  rw [add_lit', World.cell?_alloc_new]
  simpa using h
theorem cells_newN (w : World) (cs : List Value) (t : TypeId) (n : Nat) : ∀ (j : Nat) (u : Value), cs[j]? = some u → ((w.alloc (.cells cs.toArray t)).drewN n).cell? ((⟨w.heap.size, 0, none⟩ : Addr).add j) = some u := cells_new w cs t

/-! A slice value that reads as a list of cells ('size' cells an element, n elements). -/
def Sl (w : World) (size : Nat) (v : Value) (n : Nat) (xs : List Value) : Prop :=
  xs.length = n * size ∧ ((v = .slice none 0 0 ∧ n = 0) ∨ ∃ b off cap, v = .slice (some ⟨b, off, none⟩) n cap ∧ b < w.heap.size ∧ n ≤ cap ∧ ∀ j, j < n * size → w.cell? ⟨b, off + j, none⟩ = xs[j]?)

theorem Sl.nil (w : World) (size : Nat) : Sl w size (.slice none 0 0) 0 [] := ⟨by simp, .inl ⟨rfl, rfl⟩⟩
theorem Sl.mono {w w' : World} {size n : Nat} {v : Value} {xs : List Value} (h : Sl w size v n xs) (hb : Below w.heap.size w w') : Sl w' size v n xs := by
  obtain ⟨h1, h2⟩ := h
  refine ⟨h1, h2.imp id ?_⟩
  rintro ⟨b, off, cap, rfl, hlt, hc, hx⟩
  exact ⟨b, off, cap, rfl, Nat.lt_of_lt_of_le hlt hb.size, hc, fun j hj => (hb.cell (p := ⟨b, off + j, none⟩) hlt).trans (hx j hj)⟩
theorem Sl.of_owns {w : World} {base size n : Nat} {e : TypeId} {v : Value} {xs : List Value} (h : w.ownsRow base e size v n xs) : Sl w size v n xs := by
  refine ⟨h.1, h.2.imp id ?_⟩
  rintro ⟨g, cap, cur, rfl, hb, hg, hn, hm, hs, ht⟩
  refine ⟨g, 0, cap, rfl, (Array.getElem?_eq_some_iff.1 hg).1, hn, fun j hj => ?_⟩
  have := World.ownsRow.cellAt (w := w) (base := base) (e := e) (size := size) (g := g) (cap := cap) (n := n) (xs := xs) ⟨h.1, .inr ⟨g, cap, cur, rfl, hb, hg, hn, hm, hs, ht⟩⟩ j hj
  simpa using this
end Go.Proofs.YtlgefkaafoidmaaGreatDoor
namespace Go.Proofs.YtlgefkaafoidmaaGreatDoor
open Go.RowKit

theorem cellExt {w w' : World} (hb : Below w.heap.size w w') {a : Addr} {v : Value} (h : w.cell? a = some v) : w'.cell? a = some v :=
  (hb.cell (World.block_lt_of_cell? w a h)).trans h

/-- a world that has grown out of W -/
structure After (W : World) where
  w : World
  h : Below W.heap.size W w

def After.one (W : World) : After W := ⟨{ W with drawn := W.drawn + 1 }, ⟨rfl, rfl, rfl, Nat.le_refl _, fun _ _ => rfl⟩⟩

instance After.some (W : World) : Nonempty (After W) := ⟨After.one W⟩

theorem wp_region_after {P : Program} {id : Nat} {Q : Exit → Act → World → Prop} {a : Act} {w : World} {l : List Oper} (hm : P.follows .mixedOrders = true) (hB : Region.lexB .any l.toArray = true)
    (h : wpQuiet P l.toArray (fun w' => ∃ n : After w, w' = n.w) (fun a' => ∀ w', (∃ n : After w, w' = n.w) → Q .normal a' w') l a) : (Code.region id l.toArray true).wp P Q a w :=
  wp_region_quiet (C := fun w' => ∃ n : After w, w' = n.w) hm hB ⟨After.one w, rfl⟩ (by simpa using h)

theorem calls_after {P : Program} {f : FuncId} {args : Array Value} {W : World} {n : After W} {v : Value}
    (h : Calls P f args n.w fun e w' => e = .returned v ∧ Below n.w.heap.size n.w w') : Calls P f args n.w fun e w'' => e = .returned v ∧ ∃ m : After W, w'' = m.w :=
  h.mono fun _ w' ⟨he, hb⟩ => ⟨he, ⟨w', n.h.trans (hb.mono n.h.size)⟩, rfl⟩
theorem after_cell {W : World} {a : Addr} {v : Value} (h : W.cell? a = some v) (n : After W) : n.w.cell? a = some v := cellExt n.h h
end Go.Proofs.YtlgefkaafoidmaaGreatDoor
namespace Go.Proofs.YtlgefkaafoidmaaGreatDoor
open Go.RowKit

/-- of the blocks of A nothing has turned -/
structure Same (A : Nat → Prop) (w w' : World) : Prop where
  size : w.heap.size ≤ w'.heap.size
  block : ∀ b, A b → b < w.heap.size → w'.heap[b]? = w.heap[b]?
namespace Same
variable {A A' : Nat → Prop} {w w' w'' : World}
theorem refl (A : Nat → Prop) (w : World) : Same A w w := ⟨Nat.le_refl _, fun _ _ _ => rfl⟩
theorem trans (h : Same A w w') (k : Same A w' w'') : Same A w w'' := ⟨Nat.le_trans h.size k.size, fun b hb hl => (k.block b hb (Nat.lt_of_lt_of_le hl h.size)).trans (h.block b hb hl)⟩
theorem of_ext (h : Below w.heap.size w w') : Same A w w' := ⟨h.size, fun b _ hl => h.block b hl⟩
theorem of_fr {S : Nat → Prop} (h : Fr S w w') (hs : ∀ b, A b → b < w.heap.size → ¬ S b) : Same A w w' := ⟨h.size, fun b hb hl => h.block b hl (hs b hb hl)⟩
theorem of_below {B : Nat} (h : Below B w w') (hs : ∀ b, A b → b < B) : Same A w w' := ⟨h.size, fun b hb _ => h.block b (hs b hb)⟩
theorem of_grown {row : Option Nat} (h : w.grownBy w' row) (hs : ∀ b, A b → some b ≠ row) : Same A w w' := ⟨h.size, fun b hb hl => h.block b hl (hs b hb)⟩
theorem weak (h : Same A w w') (hs : ∀ b, A' b → A b) : Same A' w w' := ⟨h.size, fun b hb hl => h.block b (hs b hb) hl⟩
theorem drew (h : Same A w w') : Same A w w'.drew := ⟨h.size, h.block⟩
theorem alloc (h : Same A w w') (o : Obj) : Same A w (w'.alloc o) := ⟨Nat.le_trans h.size (by simp), fun b hb hl => (Below.heap_alloc _ _ _ (Nat.lt_of_lt_of_le hl h.size)).trans (h.block b hb hl)⟩
theorem setCell (h : Same A w w') {a : Addr} (ha : ¬ A a.block) (v : Value) : Same A w (w'.setCell a v) := ⟨by simpa [World.setCell] using h.size, fun b hb hl => (Below.heap_setCell _ _ _ _ (fun e => by subst e; exact ha hb)).trans (h.block b hb hl)⟩
theorem cell (h : Same A w w') {p : Addr} (hp : A p.block) (hl : p.block < w.heap.size) : w'.cell? p = w.cell? p := World.cell?_of_block (h.block _ hp hl)
end Same

structure Enc (α : Type) where
  size : Nat
  rd : (Nat → Prop) → World → List Value → α → Prop
  len : ∀ {A w cs x}, rd A w cs x → cs.length = size
  one : ∀ {A w cs x}, rd A w cs x → ∀ u ∈ cs, u.oneCell' = true
  mono : ∀ {A w w' cs x}, rd A w cs x → Same A w w' → rd A w' cs x
  weak : ∀ {A A' w cs x}, rd A w cs x → (∀ b, b < w.heap.size → A b → A' b) → rd A' w cs x

/-- a slice value that reads as a list of data -/
structure SlE {α : Type} (E : Enc α) (A : Nat → Prop) (w : World) (v : Value) (l : List α) : Prop where
  mk ::
  ex : ∃ cs : List (List Value), cs.length = l.length ∧ (∀ (i : Nat) (x : α) (c : List Value), l[i]? = some x → cs[i]? = some c → E.rd A w c x) ∧ cs.flatten.length = l.length * E.size ∧
    (((∃ a, v = .slice a 0 0) ∧ l = []) ∨ ∃ b off cap, v = .slice (some ⟨b, off, none⟩) l.length cap ∧ l.length ≤ cap ∧ A b ∧ b < w.heap.size ∧ ∀ j, j < l.length * E.size → w.cell? ⟨b, off + j, none⟩ = cs.flatten[j]?)

def Enc.int (k : IntKind) : Enc Int where
  size := 1
  rd := fun _ _ cs x => cs = [.int k x]
  len := fun h => by rw [h]; rfl
  one := fun h u hu => by rw [h] at hu; simp at hu; subst hu; rfl
  mono := fun h _ => h
  weak := fun h _ => h

theorem SlE.mono {α : Type} {E : Enc α} {A : Nat → Prop} {w w' : World} {v : Value} {l : List α} (h : SlE E A w v l) (hs : Same A w w') : SlE E A w' v l := by
  obtain ⟨cs, h1, h2, h3, h4⟩ := h.ex
  refine ⟨cs, h1, fun i x c hx hc => E.mono (h2 i x c hx hc) hs, h3, h4.imp id ?_⟩
  rintro ⟨b, off, cap, rfl, hc, hA, hl, hx⟩
  exact ⟨b, off, cap, rfl, hc, hA, Nat.lt_of_lt_of_le hl hs.size, fun j hj => (hs.cell (p := ⟨b, off + j, none⟩) hA hl).trans (hx j hj)⟩
theorem SlE.weak {α : Type} {E : Enc α} {A A' : Nat → Prop} {w : World} {v : Value} {l : List α} (h : SlE E A w v l) (hs : ∀ b, b < w.heap.size → A b → A' b) : SlE E A' w v l := by
  obtain ⟨cs, h1, h2, h3, h4⟩ := h.ex
  refine ⟨cs, h1, fun i x c hx hc => E.weak (h2 i x c hx hc) hs, h3, h4.imp id ?_⟩
  rintro ⟨b, off, cap, rfl, hc, hA, hl, hx⟩
  exact ⟨b, off, cap, rfl, hc, hs b hl hA, hl, hx⟩
theorem SlE.shape {α : Type} {E : Enc α} {A : Nat → Prop} {w : World} {v : Value} {l : List α} (h : SlE E A w v l) : ∃ a c, v = .slice a l.length c := by
  obtain ⟨cs, h1, h2, h3, ⟨⟨a, rfl⟩, rfl⟩ | ⟨b, off, cap, rfl, _⟩⟩ := h.ex
  · exact ⟨_, _, rfl⟩
  · exact ⟨_, _, rfl⟩
theorem SlE.nil {α : Type} (E : Enc α) (A : Nat → Prop) (w : World) : SlE E A w (.slice none 0 0) [] := ⟨[], rfl, fun i x c hx => by simp at hx, by simp, .inl ⟨⟨_, rfl⟩, rfl⟩⟩
/-- element i's cells -/
theorem SlE.at {α : Type} {E : Enc α} {A : Nat → Prop} {w : World} {v : Value} {l : List α} (h : SlE E A w v l) {i : Nat} {x : α} (hi : l[i]? = some x) :
    ∃ b off cap c, v = .slice (some ⟨b, off, none⟩) l.length cap ∧ b < w.heap.size ∧ A b ∧ E.rd A w c x ∧ ∀ j, j < E.size → w.cell? ⟨b, off + (i * E.size + j), none⟩ = c[j]? := by
  obtain ⟨cs, h1, h2, h3, ⟨⟨a, rfl⟩, rfl⟩ | ⟨b, off, cap, rfl, hc, hA, hl, hx⟩⟩ := h.ex
  · simp at hi
  · have hlt := (List.getElem?_eq_some_iff.1 hi).1
    have hci : cs[i]? = some cs[i] := by simp [h1, hlt]
    have hr := h2 i x _ hi hci
    refine ⟨b, off, cap, cs[i], rfl, hl, hA, hr, fun j hj => ?_⟩
    have hle : i * E.size + j < l.length * E.size := by
      have : (i + 1) * E.size ≤ l.length * E.size := Nat.mul_le_mul_right _ hlt
      rw [Nat.add_mul] at this
      omega
    rw [hx _ hle]
    have key : ∀ (m : List (List Value)) (i : Nat) (hi : i < m.length), (∀ c ∈ m, c.length = E.size) → ∀ j, j < E.size → m.flatten[i * E.size + j]? = m[i][j]? := by
      intro m
      induction m with
      | nil => intro i hi; simp at hi
      | cons c m ih =>
        intro i hi hall j hj
        have hc := hall c (by simp)
        cases i with
        | zero => simp [List.getElem?_append_left (by rw [hc]; exact hj)]
        | succ i =>
          have := ih i (by simpa using hi) (fun c hc => hall c (by simp [hc])) j hj
          rw [List.flatten_cons, List.getElem?_append_right (by rw [hc, Nat.add_mul]; omega), hc]
          rw [show (i + 1) * E.size + j - E.size = i * E.size + j by rw [Nat.add_mul]; omega]
          simpa using this
    refine key cs i (by rw [h1]; exact hlt) ?_ j hj
    intro c hc
    obtain ⟨k, hk, rfl⟩ := List.getElem_of_mem hc
    exact E.len (h2 k _ _ (by simp [h1 ▸ hk] : l[k]? = some l[k]) (by simp [hk]))
def Enc.slice {α : Type} (E : Enc α) : Enc (List α) where
  size := 1
  rd := fun A w cs l => ∃ v, cs = [v] ∧ SlE E A w v l
  len := fun ⟨v, h, _⟩ => by rw [h]; rfl
  one := fun ⟨v, h, hs⟩ u hu => by
    rw [h] at hu; simp at hu; subst hu
    obtain ⟨a, c, rfl⟩ := hs.shape
    rfl
  mono := fun ⟨v, h, hs⟩ hm => ⟨v, h, hs.mono hm⟩
  weak := fun ⟨v, h, hs⟩ hm => ⟨v, h, hs.weak hm⟩
end Go.Proofs.YtlgefkaafoidmaaGreatDoor
namespace Go.Proofs.YtlgefkaafoidmaaGreatDoor
open Go.RowKit Go.WideShapes

def SlA (A : Nat → Prop) (w : World) (size : Nat) (v : Value) (n : Nat) (xs : List Value) : Prop :=
  xs.length = n * size ∧ (((∃ a, v = .slice a 0 0) ∧ n = 0) ∨ ∃ b off cap, v = .slice (some ⟨b, off, none⟩) n cap ∧ b < w.heap.size ∧ A b ∧ n ≤ cap ∧ ∀ j, j < n * size → w.cell? ⟨b, off + j, none⟩ = xs[j]?)
def UpA (A : Nat → Prop) (w : World) (b : Nat) : Prop := A b ∨ w.heap.size ≤ b
section
variable {A A' : Nat → Prop} {w w' : World} {size n : Nat} {v : Value} {xs : List Value}
theorem SlA.mono (h : SlA A w size v n xs) (hs : Same A w w') : SlA A w' size v n xs := by
  obtain ⟨h1, h2⟩ := h
  refine ⟨h1, h2.imp id ?_⟩
  rintro ⟨b, off, cap, rfl, hl, hA, hc, hx⟩
  exact ⟨b, off, cap, rfl, Nat.lt_of_lt_of_le hl hs.size, hA, hc, fun j hj => (hs.cell (p := ⟨b, off + j, none⟩) hA hl).trans (hx j hj)⟩
theorem SlA.ext (h : SlA A w size v n xs) (hb : Below w.heap.size w w') : SlA A w' size v n xs := h.mono (Same.of_ext hb)
theorem SlA.weak (h : SlA A w size v n xs) (hA : ∀ b, A b → A' b) : SlA A' w size v n xs := by
  obtain ⟨h1, h2⟩ := h
  refine ⟨h1, h2.imp id ?_⟩
  rintro ⟨b, off, cap, rfl, hl, hb, hc, hx⟩
  exact ⟨b, off, cap, rfl, hl, hA b hb, hc, hx⟩
theorem SlA.shape (h : SlA A w size v n xs) : ∃ a c, v = .slice a n c := by
  rcases h.2 with ⟨⟨a, rfl⟩, rfl⟩ | ⟨b, off, cap, rfl, _⟩
  · exact ⟨_, _, rfl⟩
  · exact ⟨_, _, rfl⟩
theorem SlA.zero (A : Nat → Prop) (w : World) (size : Nat) (a : Option Addr) : SlA A w size (.slice a 0 0) 0 [] := ⟨by simp, .inl ⟨⟨a, rfl⟩, rfl⟩⟩
theorem SlA.nil (A : Nat → Prop) (w : World) (size : Nat) : SlA A w size (.slice none 0 0) 0 [] := SlA.zero A w size none
theorem SlA.none_ {m c : Nat} (h : SlA A w size (.slice none m c) n xs) : m = 0 ∧ n = 0 ∧ c = 0 := by
  rcases h.2 with ⟨⟨a, e⟩, rfl⟩ | ⟨b, off, cap, e, _⟩
  · simp only [Value.slice.injEq] at e
    exact ⟨e.2.1, rfl, e.2.2⟩
  · simp at e
theorem SlA.src {p : Addr} {m c : Nat} (h : SlA A w size (.slice (some p) m c) n xs) : m = n ∧ n ≤ c ∧ ∀ j u, xs[j]? = some u → w.cell? (p.add j) = some u := by
  obtain ⟨h1, h2⟩ := h
  rcases h2 with ⟨⟨a, e⟩, rfl⟩ | ⟨b, off, cap, e, hl, hA, hc, hx⟩
  · simp only [Value.slice.injEq] at e
    refine ⟨e.2.1, Nat.zero_le _, fun j u hj => ?_⟩
    obtain rfl : xs = [] := List.eq_nil_of_length_eq_zero (by simpa using h1)
    simp at hj
  · simp only [Value.slice.injEq, Option.some.injEq] at e
    obtain ⟨rfl, rfl, rfl⟩ := e
    refine ⟨rfl, hc, fun j u hj => ?_⟩
    have hjl : j < m * size := by rw [← h1]; exact (List.getElem?_eq_some_iff.1 hj).1
    rw [add_plain, hx j hjl, hj]
theorem SlA.of_owns {base : Nat} {e : TypeId} (h : w.ownsRow base e size v n xs) : SlA (fun b => base ≤ b) w size v n xs := by
  refine ⟨h.1, h.2.imp (fun ⟨h1, h2⟩ => ⟨⟨_, h1⟩, h2⟩) ?_⟩
  rintro ⟨g, cap, cur, rfl, hb, hg, hn, hm, hs, ht⟩
  refine ⟨g, 0, cap, rfl, (Array.getElem?_eq_some_iff.1 hg).1, hb, hn, fun j hj => ?_⟩
  have := World.ownsRow.cellAt (w := w) (base := base) (e := e) (size := size) (g := g) (cap := cap) (n := n) (xs := xs) ⟨h.1, .inr ⟨g, cap, cur, rfl, hb, hg, hn, hm, hs, ht⟩⟩ j hj
  simpa using this
theorem SlA.at {a : Option Addr} {c : Nat} (h : SlA A w size (.slice a n c) n xs) (hn : 0 < n) : ∃ b off, a = some ⟨b, off, none⟩ ∧ b < w.heap.size ∧ A b ∧ n ≤ c ∧ ∀ j, j < n * size → w.cell? ⟨b, off + j, none⟩ = xs[j]? := by
  rcases h.2 with ⟨_, rfl⟩ | ⟨b, off, cap, e, r⟩
  · omega
  · simp only [Value.slice.injEq] at e
    obtain ⟨rfl, _, rfl⟩ := e
    exact ⟨b, off, rfl, r⟩
end

section
variable {P : Program} {w : World} {ops : Array Oper} {rest : List Oper} {o : Oper} {a : Act} {Q : Exit → Act → World → Prop}
/-- 'append(out, src...)': out of the call's own, src any row that reads as cells -/
theorem wpList_append_sl (hgd : o.guard = none) (s x : Operand) (t : TypeId) (ho : o.op = .call { callee := .builtin .append, args := #[s, x], argTypes := #[t, t] })
    (base : Nat) (e : TypeId) (i : TypeInfo) (z : Value) (size bytes : Nat) (ht : P.underlying t = some (.slice e)) (hi : P.info? e = some i) (hz : i.zero = some z)
    (hsize : i.size = size) (hby : i.bytes = bytes) (hzs : z.cells.size = size) (hsz : 0 < size)
    (v : Value) (n : Nat) (xs : List Value) (hs : a.eval s = v) (hown : w.ownsRow base e size v n xs)
    (A : Nat → Prop) (sv : Value) (m : Nat) (news : List Value) (hx : a.eval x = sv) (hsl : SlA A w size sv m news) (h1 : ∀ u ∈ news, u.oneCell' = true)
    (h63 : n + m ≤ maxLen) (hbytes : (n + m) * bytes ≤ 140737488355328) (hbase : base ≤ w.heap.size)
    (h : ∀ v' w', w'.ownsRow base e size v' (n + m) (xs ++ news) → w.grownBy w' v.ownBlock → wpList P ops Q rest (a.put o.dst v') w') : wpList P ops Q (o :: rest) a w := by
  rcases hsl.2 with ⟨⟨a0, rfl⟩, rfl⟩ | ⟨b, off, cap, rfl, hl, hA, hc, hcell⟩
  · have hn : news = [] := List.length_eq_zero_iff.1 (by simpa using hsl.1)
    subst hn
    cases a0 with
    | none => exact wpList_append_own_none hgd s x t ho base e i size ht hi v n xs hs hown hx (h v w (by simpa using hown) (World.grownBy.refl w _))
    | some p => exact wpList_append_own w hgd s x t ho base e i z size bytes ht hi hz hsize hby hzs hsz v n xs hs hown p 0 0 [] hx (by simp) (fun j u hj => by simp at hj) h1 h63 hbytes hbase fun v' w' h2 h3 _ => h v' w' h2 h3
  · refine wpList_append_own w hgd s x t ho base e i z size bytes ht hi hz hsize hby hzs hsz v n xs hs hown ⟨b, off, none⟩ m cap news hx hsl.1 (fun j u hj => ?_) h1 h63 hbytes hbase fun v' w' h2 h3 _ => h v' w' h2 h3
    have hjl : j < m * size := by rw [← hsl.1]; exact (List.getElem?_eq_some_iff.1 hj).1
    rw [add_plain, hcell j hjl, hj]
end

theorem cellB {w w' : World} {n : Nat} (hb : Below n w w') {a : Addr} {v : Value} (hn : a.block < n) (h : w.cell? a = some v) : w'.cell? a = some v := (hb.cell hn).trans h
theorem blk_cell {w : World} {g i : Nat} {t : TypeId} {cs : Array Value} (h : w.heap[g]? = some (.cells cs t (0, 0))) : w.cell? ⟨g, i, none⟩ = cs[i]? ∧ w.frozen? ⟨g, i, none⟩ = false := by
  simp [World.cell?, World.frozen?, h]
section
variable {A A' : Nat → Prop} {w w' : World} {size n : Nat} {v : Value} {xs : List Value}
/-- what is read lies in the heap -/
theorem SlA.cut (h : SlA A w size v n xs) : SlA (fun b => A b ∧ b < w.heap.size) w size v n xs := by
  obtain ⟨h1, h2⟩ := h
  refine ⟨h1, h2.imp id ?_⟩
  rintro ⟨b, off, cap, rfl, hl, hA, hc, hx⟩
  exact ⟨b, off, cap, rfl, hl, ⟨hA, hl⟩, hc, hx⟩
end
theorem own_ne {w : World} {b1 b2 s1 s2 n1 n2 : Nat} {e1 e2 : TypeId} {v1 v2 : Value} {x1 x2 : List Value} (h1 : w.ownsRow b1 e1 s1 v1 n1 x1) (h2 : w.ownsRow b2 e2 s2 v2 n2 x2) (hne : e1 ≠ e2) : v1.ownBlock = none ∨ v1.ownBlock ≠ v2.ownBlock := by
  rcases h1.2 with ⟨rfl, _⟩ | ⟨g1, c1, u1, rfl, _, hg1, _⟩
  · exact .inl rfl
  · refine .inr fun e => ?_
    rcases h2.2 with ⟨rfl, _⟩ | ⟨g2, c2, u2, rfl, _, hg2, _⟩
    · simp [Value.ownBlock] at e
    · simp only [Value.ownBlock, Option.some.injEq] at e
      subst e
      rw [hg1] at hg2
      simp only [Option.some.injEq, Obj.cells.injEq] at hg2
      exact hne hg2.2.1
theorem hbw3_of {B : Nat} {w w1 w2 : World} (h1 : Below B w w1) (h2 : Below B w w2) (hs : w1.heap.size ≤ w2.heap.size) : Below B w1 w2 :=
  ⟨h2.os.trans h1.os.symm, h2.tape.trans h1.tape.symm, h2.output.trans h1.output.symm, hs, fun k hk => (h2.block k hk).trans (h1.block k hk).symm⟩
/-- the row 'out' of the call's own stands apart from the blocks of S -/
structure Gro (base : Nat) (S : Nat → Prop) (wr : World) (out : Value) : Prop where
  lo : ∀ b, S b → base ≤ b ∧ b < wr.heap.size
  off : ∀ g, out.ownBlock = some g → ¬ S g
def More (S : Nat → Prop) (wr w2 : World) (b : Nat) : Prop := S b ∨ wr.heap.size ≤ b ∧ b < w2.heap.size
theorem Gro.nil (base : Nat) (wr : World) : Gro base (fun _ => False) wr (.slice none 0 0) := ⟨fun _ h => h.elim, fun _ _ h => h⟩
theorem nest_step {base n size : Nat} {S : Nat → Prop} {wr w2 w3 : World} {out out' : Value} {e : TypeId} {xs : List Value} {o : Obj} (hG : Gro base S wr out) (hown : wr.ownsRow base e size out n xs) (hbase : base ≤ wr.heap.size) (hb2 : Below wr.heap.size wr w2)
    (hg : (w2.alloc o).grownBy w3 out.ownBlock) (hat : out'.ownBlock = out.ownBlock ∨ out'.ownBlock = some (w2.heap.size + 1)) :
    Gro base (More S wr w2) w3 out' ∧ Same (More S wr w2) w2 w3 ∧ Below base wr w3 := by
  have hs2 := hb2.size
  have hs3 := hg.size
  simp only [World.size_alloc] at hs3
  have hrow : ∀ g, out.ownBlock = some g → base ≤ g ∧ g < wr.heap.size := fun g hg => hown.lt g hg
  refine ⟨⟨fun b hb => ?_, fun g hg' => ?_⟩, ?_, ?_⟩
  · rcases hb with hb | ⟨h1, h2⟩
    · have := hG.lo b hb; omega
    · omega
  · rcases hat with e1 | e1
    · rw [e1] at hg'
      have h1 := hrow g hg'
      rintro (h | h)
      · exact hG.off g hg' h
      · omega
    · rw [e1] at hg'
      simp only [Option.some.injEq] at hg'
      rintro (h | h)
      · have := hG.lo g h; omega
      · omega
  · refine ⟨by omega, fun b hb hl => ?_⟩
    have h1 : some b ≠ out.ownBlock := fun e1 => by
      have h2 := hrow b e1.symm
      rcases hb with h | h
      · exact hG.off b e1.symm h
      · omega
    rw [hg.block b (by simp; omega) h1, Below.heap_alloc _ _ _ hl]
  · refine ((hb2.mono hbase).alloc (by omega) o).grown hg (by simp; omega) fun g hg' => ?_
    exact (hrow g hg').1
theorem More.old (S : Nat → Prop) (wr w2 : World) : ∀ b, S b → More S wr w2 b := fun _ h => .inl h
theorem More.new (S : Nat → Prop) (wr w2 : World) : ∀ b, (wr.heap.size ≤ b ∧ b < w2.heap.size) → More S wr w2 b := fun _ h => .inr h
theorem blk_keep {base k : Nat} {w w' : World} (hb : Below base w w') (hk : k < base) {o : Obj} (h : w.heap[k]? = some o) : w'.heap[k]? = some o := (hb.block k hk).trans h


/-! Rows of bytes -/
def bv (b : UInt8) : Value := .int .u8 b.toNat
def RB (A : Nat → Prop) (w : World) (v : Value) (l : List UInt8) : Prop := SlA A w 1 v l.length (l.map bv)
theorem one_bytes (l : List UInt8) : ∀ u ∈ l.map bv, u.oneCell' = true := by
  intro u hu
  obtain ⟨x, _, rfl⟩ := List.mem_map.1 hu
  rfl
theorem bv_at {l : List UInt8} {k : Nat} (h : k < l.length) : (l.map bv)[k]? = some (bv l[k]) := by simp [h]
end Go.Proofs.YtlgefkaafoidmaaGreatDoor
namespace Go.Proofs.YtlgefkaafoidmaaGreatDoor
open Go.RowKit

/-- a row of bytes of the call's own -/
def OB (base : Nat) (w : World) (v : Value) (l : List UInt8) : Prop := w.ownsRow base 5 1 v l.length (l.map bv)
/-- what a call that hands back new bytes leaves -/
def NewB (w : World) (l : List UInt8) (e : Ending) (w' : World) : Prop := ∃ v : Value, e = .returned v ∧ OB w.heap.size w' v l ∧ Below w.heap.size w w'
theorem OB.rb {base : Nat} {w : World} {v : Value} {l : List UInt8} (h : OB base w v l) : RB (fun b => base ≤ b) w v l := SlA.of_owns h
theorem OB.ext {base : Nat} {w w' : World} {v : Value} {l : List UInt8} (h : OB base w v l) (hb : Below w.heap.size w w') : OB base w' v l := owns_ext h hb
theorem infoByte : (Tryz.prog.info? 5).map (fun i => (i.zero, i.size, i.bytes)) = some (some (.int .u8 0), 1, 1) := by kernel_rfl
theorem RB.shape {A : Nat → Prop} {w : World} {v : Value} {l : List UInt8} (h : RB A w v l) : ∃ a c, v = .slice a l.length c := SlA.shape h
theorem RB.ext {A : Nat → Prop} {w w' : World} {v : Value} {l : List UInt8} (h : RB A w v l) (hb : Below w.heap.size w w') : RB A w' v l := SlA.ext h hb
theorem RB.zero (A : Nat → Prop) (w : World) (a : Option Addr) : RB A w (.slice a 0 0) [] := SlA.zero A w 1 a
theorem RB.nil (A : Nat → Prop) (w : World) : RB A w (.slice none 0 0) [] := SlA.nil A w 1
theorem OB.nil (base : Nat) (w : World) : OB base w (.slice none 0 0) [] := World.ownsRow_nil _ _ _ _
theorem OB.base_le {base base' : Nat} {w : World} {v : Value} {l : List UInt8} (h : OB base w v l) (hb : base' ≤ base) : OB base' w v l := by
  refine ⟨h.1, h.2.imp id ?_⟩
  rintro ⟨g, cap, cur, h0, h1, h2⟩
  exact ⟨g, cap, cur, h0, Nat.le_trans hb h1, h2⟩
theorem OB.cast {base : Nat} {w : World} {v : Value} {n : Nat} {xs : List Value} {l : List UInt8} (h : w.ownsRow base 5 1 v n xs) (hn : n = l.length) (hx : xs = l.map bv) : OB base w v l := by
  subst hn hx; exact h

set_option maxRecDepth 100000 in
set_option maxHeartbeats 800000 in
theorem cloneB_none (w : World) : Calls Tryz.prog 79 #[.slice none 0 0] w fun e w' => e = .returned (.slice none 0 0) ∧ w' = w := by
  go_enter Tryz.func79, Tryz.ntmps79
  have he := fun w : World => Go.Lib.run_eql_slice_nil (P := Tryz.prog) w 27 5 none 0 0 0 0 Tryz.underlying27
  go_wp2
  go_ret
  exact ⟨rfl, rfl⟩
set_option maxRecDepth 100000 in
set_option maxHeartbeats 800000 in
theorem cloneB_any (A : Nat → Prop) (v : Value) (l : List UInt8) (w : World) (hl : l.length ≤ 1000000) (hv : RB A w v l) :
    Calls Tryz.prog 79 #[v] w (NewB w l) := by
  obtain ⟨a, cap, rfl⟩ := hv.shape
  rcases a with _ | p
  · obtain ⟨-, h0, rfl⟩ := SlA.none_ hv
    obtain rfl : l = [] := List.eq_nil_of_length_eq_zero h0
    refine (cloneB_none w).mono ?_
    rintro e w' ⟨rfl, rfl⟩
    exact ⟨_, rfl, OB.nil _ _, Below.refl _ _⟩
  · have hcap := (SlA.src hv).2.1
    have HV := Lib.hid hv
    clear hv
    obtain ⟨i0, hi, hz0, hz1, hz2⟩ := info_parts infoByte
    have he := fun w : World => Go.Lib.run_eql_slice_nil (P := Tryz.prog) w 27 5 (some p) l.length cap 0 0 Tryz.underlying27
    go_enter Tryz.func79, Tryz.ntmps79
    go_wp2_with (first | (at_builtin; refine wpList_append_sl rfl _ _ 27 rfl w.heap.size 5 i0 (.int .u8 0) 1 1 Tryz.underlying27 hi hz0 hz1 hz2 rfl (by decide) _ 0 [] rfl (World.ownsRow_made w #[] 0 (Nat.le_refl _) (by decide) rfl) A (.slice (some p) l.length cap) l.length (l.map bv) rfl ?c1 (one_bytes l) ?c2 ?c3 ?c4 ?_) | go_in)
    case c1 => exact SlA.ext HV.out ((Below.refl _ _).alloc (Nat.le_refl _) _)
    case c2 => unfold maxLen; omega
    case c3 => omega
    case c4 => simp
    intro v1 w1 ho hg
    go_wp2
    go_ret
    refine ⟨v1, rfl, OB.cast ho (by simp) (by simp), ((Below.refl _ w).alloc (Nat.le_refl _) _).grown hg (by simp) fun j hj => ?_⟩
    simp [Value.ownBlock] at hj
    omega
end Go.Proofs.YtlgefkaafoidmaaGreatDoor
namespace Go.Proofs.YtlgefkaafoidmaaGreatDoor

/-- a number's w last bytes -/
def be : Nat → Nat → List UInt8
  | 0, _ => []
  | w + 1, n => be w (n / 256) ++ [UInt8.ofNat n]
/-- the number that bytes say -/
def nb (l : List UInt8) : Nat := l.foldl (fun a b => a * 256 + b.toNat) 0
theorem be_length (w n : Nat) : (be w n).length = w := by
  induction w generalizing n with
  | zero => rfl
  | succ w ih => simp [be, ih]
theorem nb_snoc (l : List UInt8) (b : UInt8) : nb (l ++ [b]) = nb l * 256 + b.toNat := by simp [nb]
theorem nb_nil : nb [] = 0 := rfl
theorem byte_of (n : Nat) : (UInt8.ofNat n).toNat = n % 256 := by simp
theorem rev_ind {P : List UInt8 → Prop} (h0 : P []) (h1 : ∀ l b, P l → P (l ++ [b])) : ∀ l, P l := by
  have key : ∀ (n : Nat) (l : List UInt8), l.length = n → P l := by
    intro n
    induction n with
    | zero => intro l h; rw [List.length_eq_zero_iff.1 h]; exact h0
    | succ n ih =>
      intro l h
      have hne : l ≠ [] := by intro e; subst e; simp at h
      rw [← List.dropLast_concat_getLast hne]
      exact h1 _ _ (ih _ (by simp [h]))
  exact fun l => key _ l rfl
theorem nb_be (w n : Nat) : nb (be w n) = n % 256 ^ w := by
  induction w generalizing n with
  | zero => simp [be, nb, Nat.mod_one]
  | succ w ih =>
    rw [be, nb_snoc, ih, byte_of, Nat.pow_succ, Nat.mul_comm (256 ^ w) 256, Nat.mod_mul]
    omega
theorem nb_lt (l : List UInt8) : nb l < 256 ^ l.length := by
  refine rev_ind (P := fun l => nb l < 256 ^ l.length) (by simp [nb]) (fun l b ih => ?_) l
  · show nb (l ++ [b]) < 256 ^ (l ++ [b]).length
    rw [nb_snoc, List.length_append, List.length_singleton, Nat.pow_succ]
    have := b.toNat_lt
    have h2 : (nb l + 1) * 256 ≤ 256 ^ l.length * 256 := Nat.mul_le_mul_right _ ih
    omega
theorem be_nb (l : List UInt8) : be l.length (nb l) = l := by
  refine rev_ind (P := fun l => be l.length (nb l) = l) rfl (fun l b ih => ?_) l
  · show be (l ++ [b]).length (nb (l ++ [b])) = l ++ [b]
    rw [List.length_append, List.length_singleton, be, nb_snoc]
    have hb := b.toNat_lt
    have h1 : (nb l * 256 + b.toNat) / 256 = nb l := by omega
    have h2 : UInt8.ofNat (nb l * 256 + b.toNat) = b := by
      apply UInt8.toNat_inj.1
      rw [byte_of]
      omega
    rw [h1, h2, ih]
/-- byte i of w -/
theorem be_at (w n i : Nat) (h : i < w) : (be w n)[i]'(by rw [be_length]; exact h) = UInt8.ofNat (n / 256 ^ (w - 1 - i)) := by
  induction w generalizing n with
  | zero => omega
  | succ w ih =>
    simp only [be]
    rcases Nat.lt_or_ge i w with g | g
    · rw [List.getElem_append_left (by rw [be_length]; exact g), ih (n / 256) g, Nat.div_div_eq_div_mul]
      have : 256 * 256 ^ (w - 1 - i) = 256 ^ (w + 1 - 1 - i) := by
        rw [show w + 1 - 1 - i = (w - 1 - i) + 1 by omega, Nat.pow_succ, Nat.mul_comm]
      rw [this]
    · obtain rfl : i = w := by omega
      rw [List.getElem_append_right (by rw [be_length]; exact Nat.le_refl _)]
      simp [be_length]
theorem be_take_succ (w n k : Nat) (h : k < w) : (be w n).take (k + 1) = (be w n).take k ++ [UInt8.ofNat (n / 256 ^ (w - 1 - k))] := by
  rw [List.take_succ_eq_append_getElem (by rw [be_length]; exact h), be_at w n k h]
end Go.Proofs.YtlgefkaafoidmaaGreatDoor
namespace Go.Proofs.YtlgefkaafoidmaaGreatDoor
open Go.RowKit

set_option maxRecDepth 100000 in
theorem wide_any (W : Nat) (h1 : 1 ≤ W) (h7 : W ≤ 7) (w : World) : Calls Tryz.prog 59 #[.int .i64 W] w fun e w' => e = .returned (.int .i64 W) ∧ w = w' := by
  have e1 : max (W : Int) 1 = W := by omega
  have e2 : min (W : Int) 7 = W := by omega
  go_enter Tryz.func59, Tryz.ntmps59
  go_wp2
  go_ret
  exact ⟨rfl, rfl⟩
theorem shr_byte (n j : Nat) : ((UInt8.ofNat (n / 256 ^ j)).toNat : Int) = (n : Int) / 2 ^ (8 * j) % 256 := by
  have e : (2 : Int) ^ (8 * j) = ((256 ^ j : Nat) : Int) := by rw [Int.pow_mul, Int.natCast_pow]; rfl
  rw [byte_of, e]
  omega
theorem top_of (W n : Nat) (h1 : 1 ≤ W) (h7 : W ≤ 7) (hn : n < 256 ^ W) : ∃ Z : Int, wrap64 (2 ^ (8 * W)) = Z ∧ (n : Int) < Z ∧ Z ≤ 72057594037927936 := by
  obtain rfl | rfl | rfl | rfl | rfl | rfl | rfl : W = 1 ∨ W = 2 ∨ W = 3 ∨ W = 4 ∨ W = 5 ∨ W = 6 ∨ W = 7 := by omega
  all_goals
    refine ⟨_, rfl, ?_⟩
    simp only [Nat.reducePow, Nat.reduceMul, Int.reducePow] at hn ⊢
    unfold wrap64
    omega
set_option maxRecDepth 100000 in
set_option maxHeartbeats 1600000 in
theorem put_any (W n : Nat) (h1 : 1 ≤ W) (h7 : W ≤ 7) (hn : n < 256 ^ W) (base : Nat) (v : Value) (l : List UInt8) (w : World) (hv : OB base w v l) (hbase : base ≤ w.heap.size) (hl : l.length ≤ 1000000) :
    Calls Tryz.prog 87 #[v, .int .i64 W, .int .i64 n] w fun e w' => ∃ v', e = .returned v' ∧ OB base w' v' (l ++ be W n) ∧ Below base w w' := by
  obtain ⟨i0, hi, hz0, hz1, hz2⟩ := info_parts infoByte
  have HV := Lib.hid hv
  obtain ⟨Z, hZ, hnZ, hZb⟩ := top_of W n h1 h7 hn
  clear hv hn
  go_enter Tryz.func87, Tryz.ntmps87
  go_wp2_with fail
  refine (wide_any W h1 h7 _).mono ?_
  rintro e w1 ⟨rfl, rfl⟩
  go_wp2_with fail
  clear hZ hnZ hZb
  go_loopw [0, 20] (fun u q wr => ∃ k : Nat, k ≤ W ∧ q = .int .i64 k ∧ OB base wr u (l ++ (be W n).take k) ∧ Below base w wr) (fun _ q _ => W - (intOf q).toNat)
  case atStart => exact ⟨0, by omega, rfl, by simpa using HV.out, Below.refl _ _⟩
  case round =>
    obtain ⟨k, hk, rfl, ho, hb⟩ := hrel
    have HO := Lib.hid ho
    clear ho
    have hlen : (l ++ (be W n).take k).length = l.length + k := by simp [be_length]; omega
    have HLN := Lib.hid hlen
    have hs := hb.size
    by_cases hlt : k < W
    · clear hlen
      have HK := Lib.hid (be_take_succ W n k hlt)
      have HB := Lib.hid (shr_byte n (W - 1 - k))
      go_wp2_with (first | (at_builtin; refine wpList_append_own _ rfl _ _ 27 rfl base 5 i0 (.int .u8 0) 1 1 Tryz.underlying27 hi hz0 hz1 hz2 rfl (by decide) _ _ _ rfl (HO.out.alloc _) ⟨wr.heap.size, 0, none⟩ 1 1 [.int .u8 ((n : Int) / 2 ^ (8 * (W - 1 - k)) % 256)] rfl rfl (cells_new wr [.int .u8 ((n : Int) / 2 ^ (8 * (W - 1 - k)) % 256)] _) ?c1 ?c2 ?c3 ?c4 ?_) | go_in)
      case c1 => simp [Value.oneCell']
      case c2 => have := HLN.out; unfold maxLen; omega
      case c3 => have := HLN.out; omega
      case c4 => simp; omega
      intro v1 w1 ho hg hn
      have HO1 : Hid (OB base w1 v1 (l ++ (be W n).take (k + 1))) := by
        refine OB.cast ho (by rw [HK.out]; simp; omega) (by rw [HK.out]; simp [bv, ← HB.out])
      have hb1 : Below base w w1 := (hb.alloc (by omega) _).grown hg (by simp; omega) fun j hj => (HO.out.lt j hj).1
      clear ho hg hn
      go_wp2
      go_roundw
      case rel => exact ⟨k + 1, by omega, by go_num, HO1.out, hb1⟩
      case measure => simp [intOf]; omega
    · obtain rfl : k = W := by omega
      have HT : Hid ((be k n).take k = be k n) := by
        show List.take k (be k n) = be k n
        exact List.take_of_length_le (by rw [be_length]; exact Nat.le_refl _)
      go_wp2
      go_ret
      have := HO.out
      rw [HT.out] at this
      exact ⟨_, rfl, this, hb⟩

set_option maxRecDepth 100000 in
theorem num_any (W n : Nat) (h1 : 1 ≤ W) (h7 : W ≤ 7) (hn : n < 256 ^ W) (A : Nat → Prop) (v : Value) (l : List UInt8) (w : World) (hv : RB A w v l) (hl : l.length ≤ 1000000) :
    Calls Tryz.prog 70 #[v, .int .i64 W, .int .i64 n] w (NewB w (l ++ be W n)) := by
  have HV := Lib.hid hv
  have HN := Lib.hid hn
  clear hv hn
  go_enter Tryz.func70, Tryz.ntmps70
  go_wp2_with fail
  refine (cloneB_any A _ l _ hl HV.out).mono ?_
  rintro e w1 ⟨v1, rfl, ho, hb1⟩
  have HO := Lib.hid ho
  clear ho
  go_wp2_with fail
  refine (put_any W n h1 h7 HN.out w.heap.size _ l _ HO.out hb1.size hl).mono ?_
  rintro e w2 ⟨v2, rfl, ho, hb2⟩
  have HO2 := Lib.hid ho
  clear ho
  go_wp2
  go_ret
  exact ⟨_, rfl, HO2.out, hb1.trans hb2⟩
theorem RB.cutAll {A : Nat → Prop} {w : World} {a : Option Addr} {c : Nat} {l : List UInt8} (h : RB A w (.slice a l.length c) l) : l.length ≤ c := by
  rcases h.2 with ⟨e, h0⟩ | ⟨b, off, cap, e, hb, hA, hc, _⟩
  · omega
  · simp only [Value.slice.injEq] at e
    omega
set_option maxRecDepth 100000 in
set_option maxHeartbeats 800000 in
theorem blob_any (A B : Nat → Prop) (v x : Value) (l m : List UInt8) (w : World) (hv : RB A w v l) (hx : RB B w x m) (hl : l.length ≤ 500000) (hm : m.length ≤ 65535) :
    Calls Tryz.prog 71 #[v, x] w (NewB w (l ++ be 2 m.length ++ m)) := by
  obtain ⟨i0, hi, hz0, hz1, hz2⟩ := info_parts infoByte
  have HV := Lib.hid hv
  obtain ⟨xa, xc, rfl⟩ := hx.shape
  have hxc := hx.cutAll
  have HX := Lib.hid hx
  have hmn : min (m.length : Int) 65535 = m.length := by omega
  clear hv hx
  go_enter Tryz.func71, Tryz.ntmps71
  go_wp2_with fail
  refine (cloneB_any A _ l _ (by omega) HV.out).mono ?_
  rintro e w1 ⟨v1, rfl, ho, hb1⟩
  have HO := Lib.hid ho
  clear ho
  go_wp2_with fail
  refine (put_any 2 m.length (by omega) (by omega) (by omega) w.heap.size _ l _ HO.out hb1.size (by omega)).mono ?_
  rintro e w2 ⟨v2, rfl, ho, hb2⟩
  have HO2 := Lib.hid ho
  have hb12 := hb1.trans hb2
  have hsz := hb12.size
  clear ho
  go_wp2_with (first | (at_builtin; refine wpList_append_sl rfl _ _ 27 rfl w.heap.size 5 i0 (.int .u8 0) 1 1 Tryz.underlying27 hi hz0 hz1 hz2 rfl (by decide) _ _ _ rfl HO2.out B (.slice xa m.length xc) m.length (m.map bv) rfl ?c1 (one_bytes m) ?c2 ?c3 ?c4 ?_) | go_in)
  case c1 => exact SlA.ext HX.out hb12
  case c2 => simp [be_length]; unfold maxLen; omega
  case c3 => simp [be_length]; omega
  case c4 => omega
  intro v3 w3 ho hg
  have HO3 : Hid (OB w.heap.size w3 v3 (l ++ be 2 m.length ++ m)) := OB.cast ho (by simp; omega) (by simp)
  have hb3 : Below w.heap.size w w3 := hb12.grown hg hsz fun j hj => (HO2.out.lt j hj).1
  clear ho hg
  go_wp2
  go_ret
  exact ⟨_, rfl, HO3.out, hb3⟩
end Go.Proofs.YtlgefkaafoidmaaGreatDoor
