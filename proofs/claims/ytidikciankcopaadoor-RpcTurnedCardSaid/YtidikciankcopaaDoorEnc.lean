/- How structured data lie in memory: readings of cells as data, through the blocks of a set alone; rows of such data. No program is named. -/
import Derived.Test.YtidikciankcopaaDoorAfter
namespace Go.Proofs.YtidikciankcopaaDoor
open Go.RowKit

/-- of the blocks of A nothing has turned -/
structure Same (A : Nat → Prop) (w w' : World) : Prop where
  size : w.heap.size ≤ w'.heap.size
  block : ∀ b, A b → b < w.heap.size → w'.heap[b]? = w.heap[b]?
namespace Same
variable {A A' : Nat → Prop} {w w' w'' : World}
theorem refl (A : Nat → Prop) (w : World) : Same A w w := ⟨Nat.le_refl _, fun _ _ _ => rfl⟩
theorem trans (h : Same A w w') (k : Same A w' w'') : Same A w w'' := ⟨Nat.le_trans h.size k.size, fun b hb hl => (k.block b hb (Nat.lt_of_lt_of_le hl h.size)).trans (h.block b hb hl)⟩
theorem of_ext (h : Below w.heap.size w w') : Same A w w' := ⟨h.size, fun b _ hl => h.block b hl⟩
theorem of_fr {S : Nat → Prop} (h : Fr S w w') (hs : ∀ b, A b → b < w.heap.size → ¬ S b) : Same A w w' := ⟨h.size, fun b hb hl => h.block b hl (hs b hb hl)⟩
theorem of_below {B : Nat} (h : Below B w w') (hs : ∀ b, A b → b < B) : Same A w w' := ⟨h.size, fun b hb _ => h.block b (hs b hb)⟩
theorem of_grown {row : Option Nat} (h : w.grownBy w' row) (hs : ∀ b, A b → some b ≠ row) : Same A w w' := ⟨h.size, fun b hb hl => h.block b hl (hs b hb)⟩
theorem weak (h : Same A w w') (hs : ∀ b, A' b → A b) : Same A' w w' := ⟨h.size, fun b hb hl => h.block b (hs b hb) hl⟩
theorem drew (h : Same A w w') : Same A w w'.drew := ⟨h.size, h.block⟩
theorem alloc (h : Same A w w') (o : Obj) : Same A w (w'.alloc o) := ⟨Nat.le_trans h.size (by simp), fun b hb hl => (Below.heap_alloc _ _ _ (Nat.lt_of_lt_of_le hl h.size)).trans (h.block b hb hl)⟩
theorem setCell (h : Same A w w') {a : Addr} (ha : ¬ A a.block) (v : Value) : Same A w (w'.setCell a v) := ⟨by simpa [World.setCell] using h.size, fun b hb hl => (Below.heap_setCell _ _ _ _ (fun e => by subst e; exact ha hb)).trans (h.block b hb hl)⟩
theorem cell (h : Same A w w') {p : Addr} (hp : A p.block) (hl : p.block < w.heap.size) : w'.cell? p = w.cell? p := World.cell?_of_block (h.block _ hp hl)
end Same

structure Enc (α : Type) where
  size : Nat
  rd : (Nat → Prop) → World → List Value → α → Prop
  len : ∀ {A w cs x}, rd A w cs x → cs.length = size
  one : ∀ {A w cs x}, rd A w cs x → ∀ u ∈ cs, u.oneCell' = true
  mono : ∀ {A w w' cs x}, rd A w cs x → Same A w w' → rd A w' cs x
  weak : ∀ {A A' w cs x}, rd A w cs x → (∀ b, b < w.heap.size → A b → A' b) → rd A' w cs x

/-- a slice value that reads as a list of data -/
structure SlE {α : Type} (E : Enc α) (A : Nat → Prop) (w : World) (v : Value) (l : List α) : Prop where
  mk ::
  ex : ∃ cs : List (List Value), cs.length = l.length ∧ (∀ (i : Nat) (x : α) (c : List Value), l[i]? = some x → cs[i]? = some c → E.rd A w c x) ∧ cs.flatten.length = l.length * E.size ∧
    (((∃ a, v = .slice a 0 0) ∧ l = []) ∨ ∃ b off cap, v = .slice (some ⟨b, off, none⟩) l.length cap ∧ l.length ≤ cap ∧ A b ∧ b < w.heap.size ∧ ∀ j, j < l.length * E.size → w.cell? ⟨b, off + j, none⟩ = cs.flatten[j]?)

def Enc.int (k : IntKind) : Enc Int where
  size := 1
  rd := fun _ _ cs x => cs = [.int k x]
  len := fun h => by rw [h]; rfl
  one := fun h u hu => by rw [h] at hu; simp at hu; subst hu; rfl
  mono := fun h _ => h
  weak := fun h _ => h

theorem SlE.mono {α : Type} {E : Enc α} {A : Nat → Prop} {w w' : World} {v : Value} {l : List α} (h : SlE E A w v l) (hs : Same A w w') : SlE E A w' v l := by
  obtain ⟨cs, h1, h2, h3, h4⟩ := h.ex
  refine ⟨cs, h1, fun i x c hx hc => E.mono (h2 i x c hx hc) hs, h3, h4.imp id ?_⟩
  rintro ⟨b, off, cap, rfl, hc, hA, hl, hx⟩
  exact ⟨b, off, cap, rfl, hc, hA, Nat.lt_of_lt_of_le hl hs.size, fun j hj => (hs.cell (p := ⟨b, off + j, none⟩) hA hl).trans (hx j hj)⟩
theorem SlE.weak {α : Type} {E : Enc α} {A A' : Nat → Prop} {w : World} {v : Value} {l : List α} (h : SlE E A w v l) (hs : ∀ b, b < w.heap.size → A b → A' b) : SlE E A' w v l := by
  obtain ⟨cs, h1, h2, h3, h4⟩ := h.ex
  refine ⟨cs, h1, fun i x c hx hc => E.weak (h2 i x c hx hc) hs, h3, h4.imp id ?_⟩
  rintro ⟨b, off, cap, rfl, hc, hA, hl, hx⟩
  exact ⟨b, off, cap, rfl, hc, hs b hl hA, hl, hx⟩
theorem SlE.shape {α : Type} {E : Enc α} {A : Nat → Prop} {w : World} {v : Value} {l : List α} (h : SlE E A w v l) : ∃ a c, v = .slice a l.length c := by
  obtain ⟨cs, h1, h2, h3, ⟨⟨a, rfl⟩, rfl⟩ | ⟨b, off, cap, rfl, _⟩⟩ := h.ex
  · exact ⟨_, _, rfl⟩
  · exact ⟨_, _, rfl⟩
theorem SlE.nil {α : Type} (E : Enc α) (A : Nat → Prop) (w : World) : SlE E A w (.slice none 0 0) [] := ⟨[], rfl, fun i x c hx => by simp at hx, by simp, .inl ⟨⟨_, rfl⟩, rfl⟩⟩
/-- element i's cells -/
theorem SlE.at {α : Type} {E : Enc α} {A : Nat → Prop} {w : World} {v : Value} {l : List α} (h : SlE E A w v l) {i : Nat} {x : α} (hi : l[i]? = some x) :
    ∃ b off cap c, v = .slice (some ⟨b, off, none⟩) l.length cap ∧ b < w.heap.size ∧ A b ∧ E.rd A w c x ∧ ∀ j, j < E.size → w.cell? ⟨b, off + (i * E.size + j), none⟩ = c[j]? := by
  obtain ⟨cs, h1, h2, h3, ⟨⟨a, rfl⟩, rfl⟩ | ⟨b, off, cap, rfl, hc, hA, hl, hx⟩⟩ := h.ex
  · simp at hi
  · have hlt := (List.getElem?_eq_some_iff.1 hi).1
    have hci : cs[i]? = some cs[i] := by simp [h1, hlt]
    have hr := h2 i x _ hi hci
    refine ⟨b, off, cap, cs[i], rfl, hl, hA, hr, fun j hj => ?_⟩
    have hle : i * E.size + j < l.length * E.size := by
      have : (i + 1) * E.size ≤ l.length * E.size := Nat.mul_le_mul_right _ hlt
      rw [Nat.add_mul] at this
      omega
    rw [hx _ hle]
    have key : ∀ (m : List (List Value)) (i : Nat) (hi : i < m.length), (∀ c ∈ m, c.length = E.size) → ∀ j, j < E.size → m.flatten[i * E.size + j]? = m[i][j]? := by
      intro m
      induction m with
      | nil => intro i hi; simp at hi
      | cons c m ih =>
        intro i hi hall j hj
        have hc := hall c (by simp)
        cases i with
        | zero => simp [List.getElem?_append_left (by rw [hc]; exact hj)]
        | succ i =>
          have := ih i (by simpa using hi) (fun c hc => hall c (by simp [hc])) j hj
          rw [List.flatten_cons, List.getElem?_append_right (by rw [hc, Nat.add_mul]; omega), hc]
          rw [show (i + 1) * E.size + j - E.size = i * E.size + j by rw [Nat.add_mul]; omega]
          simpa using this
    refine key cs i (by rw [h1]; exact hlt) ?_ j hj
    intro c hc
    obtain ⟨k, hk, rfl⟩ := List.getElem_of_mem hc
    exact E.len (h2 k _ _ (by simp [h1 ▸ hk] : l[k]? = some l[k]) (by simp [hk]))
def Enc.slice {α : Type} (E : Enc α) : Enc (List α) where
  size := 1
  rd := fun A w cs l => ∃ v, cs = [v] ∧ SlE E A w v l
  len := fun ⟨v, h, _⟩ => by rw [h]; rfl
  one := fun ⟨v, h, hs⟩ u hu => by
    rw [h] at hu; simp at hu; subst hu
    obtain ⟨a, c, rfl⟩ := hs.shape
    rfl
  mono := fun ⟨v, h, hs⟩ hm => ⟨v, h, hs.mono hm⟩
  weak := fun ⟨v, h, hs⟩ hm => ⟨v, h, hs.weak hm⟩
end Go.Proofs.YtidikciankcopaaDoor
