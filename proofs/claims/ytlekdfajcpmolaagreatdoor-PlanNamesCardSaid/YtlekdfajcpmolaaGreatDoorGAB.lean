/- How structured data lie in memory: readings of cells as data, through the blocks of a set alone; rows of such data. No program is named. Slices that are read through the blocks of a set alone; append onto a row of the call's own from any such slice; rows of rows. No program is named. The walk of slices.Clone at rows of bytes. Ops, transactions, requests, keys, objects, replies as plain data, and how they lie in memory. -/
import Derived.Test.YtlekdfajcpmolaaGreatDoorGAA
import Derived.Laws.AppendOwnNone
import Derived.Maps.AppendAt
import Derived.ArgAppend
import Derived.Lib.SliceRun
import Derived.Test.YtlekdfajcpmolaaGreatDoorChecked
namespace Go.Proofs.YtlekdfajcpmolaaGreatDoor
open Go.RowKit

/-- of the blocks of A nothing has turned -/
structure Same (A : Nat → Prop) (w w' : World) : Prop where
  size : w.heap.size ≤ w'.heap.size
  block : ∀ b, A b → b < w.heap.size → w'.heap[b]? = w.heap[b]?
namespace Same
variable {A A' : Nat → Prop} {w w' w'' : World}
theorem refl (A : Nat → Prop) (w : World) : Same A w w := ⟨Nat.le_refl _, fun _ _ _ => rfl⟩
theorem trans (h : Same A w w') (k : Same A w' w'') : Same A w w'' := ⟨Nat.le_trans h.size k.size, fun b hb hl => (k.block b hb (Nat.lt_of_lt_of_le hl h.size)).trans (h.block b hb hl)⟩
theorem of_ext (h : Below w.heap.size w w') : Same A w w' := ⟨h.size, fun b _ hl => h.block b hl⟩
theorem of_below {B : Nat} (h : Below B w w') (hs : ∀ b, A b → b < B) : Same A w w' := ⟨h.size, fun b hb _ => h.block b (hs b hb)⟩
theorem weak (h : Same A w w') (hs : ∀ b, A' b → A b) : Same A' w w' := ⟨h.size, fun b hb hl => h.block b (hs b hb) hl⟩
theorem drew (h : Same A w w') : Same A w w'.drew := ⟨h.size, h.block⟩
theorem alloc (h : Same A w w') (o : Obj) : Same A w (w'.alloc o) := ⟨Nat.le_trans h.size (by simp), fun b hb hl => (Below.heap_alloc _ _ _ (Nat.lt_of_lt_of_le hl h.size)).trans (h.block b hb hl)⟩
theorem setCell (h : Same A w w') {a : Addr} (ha : ¬ A a.block) (v : Value) : Same A w (w'.setCell a v) := ⟨by simpa [World.setCell] using h.size, fun b hb hl => (Below.heap_setCell _ _ _ _ (fun e => by subst e; exact ha hb)).trans (h.block b hb hl)⟩
theorem cell (h : Same A w w') {p : Addr} (hp : A p.block) (hl : p.block < w.heap.size) : w'.cell? p = w.cell? p := World.cell?_of_block (h.block _ hp hl)
end Same

structure Enc (α : Type) where
  size : Nat
  rd : (Nat → Prop) → World → List Value → α → Prop
  len : ∀ {A w cs x}, rd A w cs x → cs.length = size
  one : ∀ {A w cs x}, rd A w cs x → ∀ u ∈ cs, u.oneCell' = true
  mono : ∀ {A w w' cs x}, rd A w cs x → Same A w w' → rd A w' cs x
  weak : ∀ {A A' w cs x}, rd A w cs x → (∀ b, b < w.heap.size → A b → A' b) → rd A' w cs x

/-- a slice value that reads as a list of data -/
structure SlE {α : Type} (E : Enc α) (A : Nat → Prop) (w : World) (v : Value) (l : List α) : Prop where
  mk ::
  ex : ∃ cs : List (List Value), cs.length = l.length ∧ (∀ (i : Nat) (x : α) (c : List Value), l[i]? = some x → cs[i]? = some c → E.rd A w c x) ∧ cs.flatten.length = l.length * E.size ∧
    (((∃ a, v = .slice a 0 0) ∧ l = []) ∨ ∃ b off cap, v = .slice (some ⟨b, off, none⟩) l.length cap ∧ l.length ≤ cap ∧ A b ∧ b < w.heap.size ∧ ∀ j, j < l.length * E.size → w.cell? ⟨b, off + j, none⟩ = cs.flatten[j]?)

def Enc.int (k : IntKind) : Enc Int where
  size := 1
  rd := fun _ _ cs x => cs = [.int k x]
  len := fun h => by rw [h]; rfl
  one := fun h u hu => by rw [h] at hu; simp at hu; subst hu; rfl
  mono := fun h _ => h
  weak := fun h _ => h

theorem SlE.mono {α : Type} {E : Enc α} {A : Nat → Prop} {w w' : World} {v : Value} {l : List α} (h : SlE E A w v l) (hs : Same A w w') : SlE E A w' v l := by
  obtain ⟨cs, h1, h2, h3, h4⟩ := h.ex
  refine ⟨cs, h1, fun i x c hx hc => E.mono (h2 i x c hx hc) hs, h3, h4.imp id ?_⟩
  rintro ⟨b, off, cap, rfl, hc, hA, hl, hx⟩
  exact ⟨b, off, cap, rfl, hc, hA, Nat.lt_of_lt_of_le hl hs.size, fun j hj => (hs.cell (p := ⟨b, off + j, none⟩) hA hl).trans (hx j hj)⟩
theorem SlE.weak {α : Type} {E : Enc α} {A A' : Nat → Prop} {w : World} {v : Value} {l : List α} (h : SlE E A w v l) (hs : ∀ b, b < w.heap.size → A b → A' b) : SlE E A' w v l := by
  obtain ⟨cs, h1, h2, h3, h4⟩ := h.ex
  refine ⟨cs, h1, fun i x c hx hc => E.weak (h2 i x c hx hc) hs, h3, h4.imp id ?_⟩
  rintro ⟨b, off, cap, rfl, hc, hA, hl, hx⟩
  exact ⟨b, off, cap, rfl, hc, hs b hl hA, hl, hx⟩
theorem SlE.shape {α : Type} {E : Enc α} {A : Nat → Prop} {w : World} {v : Value} {l : List α} (h : SlE E A w v l) : ∃ a c, v = .slice a l.length c := by
  obtain ⟨cs, h1, h2, h3, ⟨⟨a, rfl⟩, rfl⟩ | ⟨b, off, cap, rfl, _⟩⟩ := h.ex
  · exact ⟨_, _, rfl⟩
  · exact ⟨_, _, rfl⟩
theorem SlE.nil {α : Type} (E : Enc α) (A : Nat → Prop) (w : World) : SlE E A w (.slice none 0 0) [] := ⟨[], rfl, fun i x c hx => by simp at hx, by simp, .inl ⟨⟨_, rfl⟩, rfl⟩⟩
/-- element i's cells -/
theorem SlE.at {α : Type} {E : Enc α} {A : Nat → Prop} {w : World} {v : Value} {l : List α} (h : SlE E A w v l) {i : Nat} {x : α} (hi : l[i]? = some x) :
    ∃ b off cap c, v = .slice (some ⟨b, off, none⟩) l.length cap ∧ b < w.heap.size ∧ A b ∧ E.rd A w c x ∧ ∀ j, j < E.size → w.cell? ⟨b, off + (i * E.size + j), none⟩ = c[j]? := by
  obtain ⟨cs, h1, h2, h3, ⟨⟨a, rfl⟩, rfl⟩ | ⟨b, off, cap, rfl, hc, hA, hl, hx⟩⟩ := h.ex
  · simp at hi
  · have hlt := (List.getElem?_eq_some_iff.1 hi).1
    have hci : cs[i]? = some cs[i] := by simp [h1, hlt]
    have hr := h2 i x _ hi hci
    refine ⟨b, off, cap, cs[i], rfl, hl, hA, hr, fun j hj => ?_⟩
    have hle : i * E.size + j < l.length * E.size := by
      have : (i + 1) * E.size ≤ l.length * E.size := Nat.mul_le_mul_right _ hlt
      rw [Nat.add_mul] at this
      omega
    rw [hx _ hle]
    have key : ∀ (m : List (List Value)) (i : Nat) (hi : i < m.length), (∀ c ∈ m, c.length = E.size) → ∀ j, j < E.size → m.flatten[i * E.size + j]? = m[i][j]? := by
      intro m
      induction m with
      | nil => intro i hi; simp at hi
      | cons c m ih =>
        intro i hi hall j hj
        have hc := hall c (by simp)
        cases i with
        | zero => simp [List.getElem?_append_left (by rw [hc]; exact hj)]
        | succ i =>
          have := ih i (by simpa using hi) (fun c hc => hall c (by simp [hc])) j hj
          rw [List.flatten_cons, List.getElem?_append_right (by rw [hc, Nat.add_mul]; omega), hc]
          rw [show (i + 1) * E.size + j - E.size = i * E.size + j by rw [Nat.add_mul]; omega]
          simpa using this
    refine key cs i (by rw [h1]; exact hlt) ?_ j hj
    intro c hc
    obtain ⟨k, hk, rfl⟩ := List.getElem_of_mem hc
    exact E.len (h2 k _ _ (by simp [h1 ▸ hk] : l[k]? = some l[k]) (by simp [hk]))
def Enc.slice {α : Type} (E : Enc α) : Enc (List α) where
  size := 1
  rd := fun A w cs l => ∃ v, cs = [v] ∧ SlE E A w v l
  len := fun ⟨v, h, _⟩ => by rw [h]; rfl
  one := fun ⟨v, h, hs⟩ u hu => by
    rw [h] at hu; simp at hu; subst hu
    obtain ⟨a, c, rfl⟩ := hs.shape
    rfl
  mono := fun ⟨v, h, hs⟩ hm => ⟨v, h, hs.mono hm⟩
  weak := fun ⟨v, h, hs⟩ hm => ⟨v, h, hs.weak hm⟩
end Go.Proofs.YtlekdfajcpmolaaGreatDoor
namespace Go.Proofs.YtlekdfajcpmolaaGreatDoor
open Go.RowKit Go.WideShapes

def SlA (A : Nat → Prop) (w : World) (size : Nat) (v : Value) (n : Nat) (xs : List Value) : Prop :=
  xs.length = n * size ∧ (((∃ a, v = .slice a 0 0) ∧ n = 0) ∨ ∃ b off cap, v = .slice (some ⟨b, off, none⟩) n cap ∧ b < w.heap.size ∧ A b ∧ n ≤ cap ∧ ∀ j, j < n * size → w.cell? ⟨b, off + j, none⟩ = xs[j]?)
def UpA (A : Nat → Prop) (w : World) (b : Nat) : Prop := A b ∨ w.heap.size ≤ b
section
variable {A A' : Nat → Prop} {w w' : World} {size n : Nat} {v : Value} {xs : List Value}
theorem SlA.mono (h : SlA A w size v n xs) (hs : Same A w w') : SlA A w' size v n xs := by
  obtain ⟨h1, h2⟩ := h
  refine ⟨h1, h2.imp id ?_⟩
  rintro ⟨b, off, cap, rfl, hl, hA, hc, hx⟩
  exact ⟨b, off, cap, rfl, Nat.lt_of_lt_of_le hl hs.size, hA, hc, fun j hj => (hs.cell (p := ⟨b, off + j, none⟩) hA hl).trans (hx j hj)⟩
theorem SlA.ext (h : SlA A w size v n xs) (hb : Below w.heap.size w w') : SlA A w' size v n xs := h.mono (Same.of_ext hb)
theorem SlA.weak (h : SlA A w size v n xs) (hA : ∀ b, A b → A' b) : SlA A' w size v n xs := by
  obtain ⟨h1, h2⟩ := h
  refine ⟨h1, h2.imp id ?_⟩
  rintro ⟨b, off, cap, rfl, hl, hb, hc, hx⟩
  exact ⟨b, off, cap, rfl, hl, hA b hb, hc, hx⟩
theorem SlA.shape (h : SlA A w size v n xs) : ∃ a c, v = .slice a n c := by
  rcases h.2 with ⟨⟨a, rfl⟩, rfl⟩ | ⟨b, off, cap, rfl, _⟩
  · exact ⟨_, _, rfl⟩
  · exact ⟨_, _, rfl⟩
theorem SlA.zero (A : Nat → Prop) (w : World) (size : Nat) (a : Option Addr) : SlA A w size (.slice a 0 0) 0 [] := ⟨by simp, .inl ⟨⟨a, rfl⟩, rfl⟩⟩
theorem SlA.nil (A : Nat → Prop) (w : World) (size : Nat) : SlA A w size (.slice none 0 0) 0 [] := SlA.zero A w size none
theorem SlA.none_ {m c : Nat} (h : SlA A w size (.slice none m c) n xs) : m = 0 ∧ n = 0 ∧ c = 0 := by
  rcases h.2 with ⟨⟨a, e⟩, rfl⟩ | ⟨b, off, cap, e, _⟩
  · simp only [Value.slice.injEq] at e
    exact ⟨e.2.1, rfl, e.2.2⟩
  · simp at e
theorem SlA.src {p : Addr} {m c : Nat} (h : SlA A w size (.slice (some p) m c) n xs) : m = n ∧ n ≤ c ∧ ∀ j u, xs[j]? = some u → w.cell? (p.add j) = some u := by
  obtain ⟨h1, h2⟩ := h
  rcases h2 with ⟨⟨a, e⟩, rfl⟩ | ⟨b, off, cap, e, hl, hA, hc, hx⟩
  · simp only [Value.slice.injEq] at e
    refine ⟨e.2.1, Nat.zero_le _, fun j u hj => ?_⟩
    obtain rfl : xs = [] := List.eq_nil_of_length_eq_zero (by simpa using h1)
    simp at hj
  · simp only [Value.slice.injEq, Option.some.injEq] at e
    obtain ⟨rfl, rfl, rfl⟩ := e
    refine ⟨rfl, hc, fun j u hj => ?_⟩
    have hjl : j < m * size := by rw [← h1]; exact (List.getElem?_eq_some_iff.1 hj).1
    rw [WideShapes.add_plain, hx j hjl, hj]
theorem SlA.of_owns {base : Nat} {e : TypeId} (h : w.ownsRow base e size v n xs) : SlA (fun b => base ≤ b) w size v n xs := by
  refine ⟨h.1, h.2.imp (fun ⟨h1, h2⟩ => ⟨⟨_, h1⟩, h2⟩) ?_⟩
  rintro ⟨g, cap, cur, rfl, hb, hg, hn, hm, hs, ht⟩
  refine ⟨g, 0, cap, rfl, (Array.getElem?_eq_some_iff.1 hg).1, hb, hn, fun j hj => ?_⟩
  have := World.ownsRow.cellAt (w := w) (base := base) (e := e) (size := size) (g := g) (cap := cap) (n := n) (xs := xs) ⟨h.1, .inr ⟨g, cap, cur, rfl, hb, hg, hn, hm, hs, ht⟩⟩ j hj
  simpa using this
theorem SlA.at {a : Option Addr} {c : Nat} (h : SlA A w size (.slice a n c) n xs) (hn : 0 < n) : ∃ b off, a = some ⟨b, off, none⟩ ∧ b < w.heap.size ∧ A b ∧ n ≤ c ∧ ∀ j, j < n * size → w.cell? ⟨b, off + j, none⟩ = xs[j]? := by
  rcases h.2 with ⟨_, rfl⟩ | ⟨b, off, cap, e, r⟩
  · omega
  · simp only [Value.slice.injEq] at e
    obtain ⟨rfl, _, rfl⟩ := e
    exact ⟨b, off, rfl, r⟩
end

section
variable {P : Program} {w : World} {ops : Array Oper} {rest : List Oper} {o : Oper} {a : Act} {Q : Exit → Act → World → Prop}
/-- 'append(out, src...)': out of the call's own, src any row that reads as cells -/
theorem wpList_append_sl (hgd : o.guard = none) (s x : Operand) (t : TypeId) (ho : o.op = .call { callee := .builtin .append, args := #[s, x], argTypes := #[t, t] })
    (base : Nat) (e : TypeId) (i : TypeInfo) (z : Value) (size bytes : Nat) (ht : P.underlying t = some (.slice e)) (hi : P.info? e = some i) (hz : i.zero = some z)
    (hsize : i.size = size) (hby : i.bytes = bytes) (hzs : z.cells.size = size) (hsz : 0 < size)
    (v : Value) (n : Nat) (xs : List Value) (hs : a.eval s = v) (hown : w.ownsRow base e size v n xs)
    (A : Nat → Prop) (sv : Value) (m : Nat) (news : List Value) (hx : a.eval x = sv) (hsl : SlA A w size sv m news) (h1 : ∀ u ∈ news, u.oneCell' = true)
    (h63 : n + m ≤ maxLen) (hbytes : (n + m) * bytes ≤ 140737488355328) (hbase : base ≤ w.heap.size)
    (h : ∀ v' w', w'.ownsRow base e size v' (n + m) (xs ++ news) → w.grownBy w' v.ownBlock → wpList P ops Q rest (a.put o.dst v') w') : wpList P ops Q (o :: rest) a w := by
  rcases hsl.2 with ⟨⟨a0, rfl⟩, rfl⟩ | ⟨b, off, cap, rfl, hl, hA, hc, hcell⟩
  · have hn : news = [] := List.length_eq_zero_iff.1 (by simpa using hsl.1)
    subst hn
    cases a0 with
    | none => exact wpList_append_own_none hgd s x t ho base e i size ht hi v n xs hs hown hx (h v w (by simpa using hown) (World.grownBy.refl w _))
    | some p => exact wpList_append_own w hgd s x t ho base e i z size bytes ht hi hz hsize hby hzs hsz v n xs hs hown p 0 0 [] hx (by simp) (fun j u hj => by simp at hj) h1 h63 hbytes hbase fun v' w' h2 h3 _ => h v' w' h2 h3
  · refine wpList_append_own w hgd s x t ho base e i z size bytes ht hi hz hsize hby hzs hsz v n xs hs hown ⟨b, off, none⟩ m cap news hx hsl.1 (fun j u hj => ?_) h1 h63 hbytes hbase fun v' w' h2 h3 _ => h v' w' h2 h3
    have hjl : j < m * size := by rw [← hsl.1]; exact (List.getElem?_eq_some_iff.1 hj).1
    rw [WideShapes.add_plain, hcell j hjl, hj]
end

theorem cellB {w w' : World} {n : Nat} (hb : Below n w w') {a : Addr} {v : Value} (hn : a.block < n) (h : w.cell? a = some v) : w'.cell? a = some v := (hb.cell hn).trans h
theorem blk_cell {w : World} {g i : Nat} {t : TypeId} {cs : Array Value} (h : w.heap[g]? = some (.cells cs t (0, 0))) : w.cell? ⟨g, i, none⟩ = cs[i]? ∧ w.frozen? ⟨g, i, none⟩ = false := by
  simp [World.cell?, World.frozen?, h]
section
variable {A A' : Nat → Prop} {w w' : World} {size n : Nat} {v : Value} {xs : List Value}
/-- what is read lies in the heap -/
theorem SlA.cut (h : SlA A w size v n xs) : SlA (fun b => A b ∧ b < w.heap.size) w size v n xs := by
  obtain ⟨h1, h2⟩ := h
  refine ⟨h1, h2.imp id ?_⟩
  rintro ⟨b, off, cap, rfl, hl, hA, hc, hx⟩
  exact ⟨b, off, cap, rfl, hl, ⟨hA, hl⟩, hc, hx⟩
end
theorem own_ne {w : World} {b1 b2 s1 s2 n1 n2 : Nat} {e1 e2 : TypeId} {v1 v2 : Value} {x1 x2 : List Value} (h1 : w.ownsRow b1 e1 s1 v1 n1 x1) (h2 : w.ownsRow b2 e2 s2 v2 n2 x2) (hne : e1 ≠ e2) : v1.ownBlock = none ∨ v1.ownBlock ≠ v2.ownBlock := by
  rcases h1.2 with ⟨rfl, _⟩ | ⟨g1, c1, u1, rfl, _, hg1, _⟩
  · exact .inl rfl
  · refine .inr fun e => ?_
    rcases h2.2 with ⟨rfl, _⟩ | ⟨g2, c2, u2, rfl, _, hg2, _⟩
    · simp [Value.ownBlock] at e
    · simp only [Value.ownBlock, Option.some.injEq] at e
      subst e
      rw [hg1] at hg2
      simp only [Option.some.injEq, Obj.cells.injEq] at hg2
      exact hne hg2.2.1
/-- the row 'out' of the call's own stands apart from the blocks of S -/
structure Gro (base : Nat) (S : Nat → Prop) (wr : World) (out : Value) : Prop where
  lo : ∀ b, S b → base ≤ b ∧ b < wr.heap.size
  off : ∀ g, out.ownBlock = some g → ¬ S g
def More (S : Nat → Prop) (wr w2 : World) (b : Nat) : Prop := S b ∨ wr.heap.size ≤ b ∧ b < w2.heap.size
theorem Gro.nil (base : Nat) (wr : World) : Gro base (fun _ => False) wr (.slice none 0 0) := ⟨fun _ h => h.elim, fun _ _ h => h⟩
theorem More.old (S : Nat → Prop) (wr w2 : World) : ∀ b, S b → More S wr w2 b := fun _ h => .inl h
theorem More.new (S : Nat → Prop) (wr w2 : World) : ∀ b, (wr.heap.size ≤ b ∧ b < w2.heap.size) → More S wr w2 b := fun _ h => .inr h
/-! Rows of bytes -/
def bv (b : UInt8) : Value := .int .u8 b.toNat
def RB (A : Nat → Prop) (w : World) (v : Value) (l : List UInt8) : Prop := SlA A w 1 v l.length (l.map bv)
theorem one_bytes (l : List UInt8) : ∀ u ∈ l.map bv, u.oneCell' = true := by
  intro u hu
  obtain ⟨x, _, rfl⟩ := List.mem_map.1 hu
  rfl
theorem bv_at {l : List UInt8} {k : Nat} (h : k < l.length) : (l.map bv)[k]? = some (bv l[k]) := by simp [h]
end Go.Proofs.YtlekdfajcpmolaaGreatDoor
namespace Go.Proofs.YtlekdfajcpmolaaGreatDoor
open Go.RowKit

/-- a row of bytes of the call's own -/
def OB (base : Nat) (w : World) (v : Value) (l : List UInt8) : Prop := w.ownsRow base 5 1 v l.length (l.map bv)
/-- what a call that hands back new bytes leaves -/
def NewB (w : World) (l : List UInt8) (e : Ending) (w' : World) : Prop := ∃ v : Value, e = .returned v ∧ OB w.heap.size w' v l ∧ Below w.heap.size w w'
theorem OB.rb {base : Nat} {w : World} {v : Value} {l : List UInt8} (h : OB base w v l) : RB (fun b => base ≤ b) w v l := SlA.of_owns h
theorem OB.ext {base : Nat} {w w' : World} {v : Value} {l : List UInt8} (h : OB base w v l) (hb : Below w.heap.size w w') : OB base w' v l := owns_ext h hb
theorem infoByte : (Tryz.prog.info? 5).map (fun i => (i.zero, i.size, i.bytes)) = some (some (.int .u8 0), 1, 1) := by kernel_rfl
theorem RB.shape {A : Nat → Prop} {w : World} {v : Value} {l : List UInt8} (h : RB A w v l) : ∃ a c, v = .slice a l.length c := SlA.shape h
theorem RB.ext {A : Nat → Prop} {w w' : World} {v : Value} {l : List UInt8} (h : RB A w v l) (hb : Below w.heap.size w w') : RB A w' v l := SlA.ext h hb
theorem RB.zero (A : Nat → Prop) (w : World) (a : Option Addr) : RB A w (.slice a 0 0) [] := SlA.zero A w 1 a
theorem RB.nil (A : Nat → Prop) (w : World) : RB A w (.slice none 0 0) [] := SlA.nil A w 1
theorem OB.nil (base : Nat) (w : World) : OB base w (.slice none 0 0) [] := World.ownsRow_nil _ _ _ _
theorem OB.base_le {base base' : Nat} {w : World} {v : Value} {l : List UInt8} (h : OB base w v l) (hb : base' ≤ base) : OB base' w v l := by
  refine ⟨h.1, h.2.imp id ?_⟩
  rintro ⟨g, cap, cur, h0, h1, h2⟩
  exact ⟨g, cap, cur, h0, Nat.le_trans hb h1, h2⟩
theorem OB.cast {base : Nat} {w : World} {v : Value} {n : Nat} {xs : List Value} {l : List UInt8} (h : w.ownsRow base 5 1 v n xs) (hn : n = l.length) (hx : xs = l.map bv) : OB base w v l := by
  subst hn hx; exact h

set_option maxRecDepth 100000 in
set_option maxHeartbeats 800000 in
theorem cloneB_none (w : World) : Calls Tryz.prog 101 #[.slice none 0 0] w fun e w' => e = .returned (.slice none 0 0) ∧ w' = w := by
  go_enter Tryz.func101, Tryz.ntmps101
  have he := fun w : World => Go.Lib.run_eql_slice_nil (P := Tryz.prog) w 28 5 none 0 0 0 0 Tryz.underlying28
  go_wp2
  go_ret
  exact ⟨rfl, rfl⟩
set_option maxRecDepth 100000 in
set_option maxHeartbeats 800000 in
theorem cloneB_any (A : Nat → Prop) (v : Value) (l : List UInt8) (w : World) (hl : l.length ≤ 1000000) (hv : RB A w v l) :
    Calls Tryz.prog 101 #[v] w (NewB w l) := by
  obtain ⟨a, cap, rfl⟩ := hv.shape
  rcases a with _ | p
  · obtain ⟨-, h0, rfl⟩ := SlA.none_ hv
    obtain rfl : l = [] := List.eq_nil_of_length_eq_zero h0
    refine (cloneB_none w).mono ?_
    rintro e w' ⟨rfl, rfl⟩
    exact ⟨_, rfl, OB.nil _ _, Below.refl _ _⟩
  · have hcap := (SlA.src hv).2.1
    have HV := Lib.hid hv
    clear hv
    obtain ⟨i0, hi, hz0, hz1, hz2⟩ := info_parts infoByte
    have he := fun w : World => Go.Lib.run_eql_slice_nil (P := Tryz.prog) w 28 5 (some p) l.length cap 0 0 Tryz.underlying28
    go_enter Tryz.func101, Tryz.ntmps101
    go_wp2_with (first | (at_builtin; refine wpList_append_sl rfl _ _ 28 rfl w.heap.size 5 i0 (.int .u8 0) 1 1 Tryz.underlying28 hi hz0 hz1 hz2 rfl (by decide) _ 0 [] rfl (World.ownsRow_made w #[] 0 (Nat.le_refl _) (by decide) rfl) A (.slice (some p) l.length cap) l.length (l.map bv) rfl ?c1 (one_bytes l) ?c2 ?c3 ?c4 ?_) | go_in)
    case c1 => exact SlA.ext HV.out ((Below.refl _ _).alloc (Nat.le_refl _) _)
    case c2 => unfold maxLen; omega
    case c3 => omega
    case c4 => simp
    intro v1 w1 ho hg
    go_wp2
    go_ret
    refine ⟨v1, rfl, OB.cast ho (by simp) (by simp), ((Below.refl _ w).alloc (Nat.le_refl _) _).grown hg (by simp) fun j hj => ?_⟩
    simp [Value.ownBlock] at hj
    omega
end Go.Proofs.YtlekdfajcpmolaaGreatDoor
namespace Go.Proofs.YtlekdfajcpmolaaGreatDoor
open Go.RowKit

structure OpD where
  kind : Int
  off : Int
  n : Int
  name : ByteArray
  data : List UInt8
structure TxD where
  obj : ByteArray
  ops : List OpD
structure RqD where
  client : Int
  life : Int
  seq : Int
  kind : Int
  image : Int
  who : Int
  n : Int
  txn : TxD
structure KyD where
  name : ByteArray
  value : List UInt8
structure ObD where
  data : List UInt8
  keys : List KyD
  seq : Int
structure RpD where
  client : Int
  life : Int
  seq : Int
  e : Int
  n : Int
  index : Int
  there : Bool
  obj : ObD
def TxD.none : TxD := ⟨ByteArray.empty, []⟩
def ObD.none : ObD := ⟨[], [], 0⟩
def RqD.none : RqD := ⟨0, 0, 0, 0, 0, 0, 0, TxD.none⟩
def RpD.none : RpD := ⟨0, 0, 0, 0, 0, 0, false, ObD.none⟩

theorem RB.mono {A : Nat → Prop} {w w' : World} {v : Value} {l : List UInt8} (h : RB A w v l) (hs : Same A w w') : RB A w' v l := SlA.mono h hs
theorem RB.weak {A A' : Nat → Prop} {w : World} {v : Value} {l : List UInt8} (h : RB A w v l) (hs : ∀ b, b < w.heap.size → A b → A' b) : RB A' w v l := SlA.weak (SlA.cut h) fun b hb => hs b hb.2 hb.1
theorem RB.one {A : Nat → Prop} {w : World} {v : Value} {l : List UInt8} (h : RB A w v l) : v.oneCell' = true := by
  obtain ⟨a, c, rfl⟩ := h.shape
  rfl
def Enc.op : Enc OpD where
  size := 5
  rd := fun A w cs x => ∃ v, cs = [.int .i64 x.kind, .int .i64 x.off, .int .i64 x.n, .string x.name, v] ∧ RB A w v x.data
  len := fun ⟨v, h, _⟩ => by rw [h]; rfl
  one := fun ⟨v, h, hv⟩ u hu => by
    rw [h] at hu
    simp at hu
    rcases hu with rfl | rfl | rfl | rfl | rfl
    all_goals first | rfl | exact hv.one
  mono := fun ⟨v, h, hv⟩ hs => ⟨v, h, hv.mono hs⟩
  weak := fun ⟨v, h, hv⟩ hs => ⟨v, h, hv.weak hs⟩
def Enc.key : Enc KyD where
  size := 2
  rd := fun A w cs x => ∃ v, cs = [.string x.name, v] ∧ RB A w v x.value
  len := fun ⟨v, h, _⟩ => by rw [h]; rfl
  one := fun ⟨v, h, hv⟩ u hu => by
    rw [h] at hu
    simp at hu
    rcases hu with rfl | rfl
    all_goals first | rfl | exact hv.one
  mono := fun ⟨v, h, hv⟩ hs => ⟨v, h, hv.mono hs⟩
  weak := fun ⟨v, h, hv⟩ hs => ⟨v, h, hv.weak hs⟩
abbrev Ops := SlE Enc.op
abbrev Keys := SlE Enc.key
theorem SlE.one {α : Type} {E : Enc α} {A : Nat → Prop} {w : World} {v : Value} {l : List α} (h : SlE E A w v l) : v.oneCell' = true := by
  obtain ⟨a, c, rfl⟩ := h.shape
  rfl
theorem SlE.ext {α : Type} {E : Enc α} {A : Nat → Prop} {w w' : World} {v : Value} {l : List α} (h : SlE E A w v l) (hb : Below w.heap.size w w') : SlE E A w' v l := h.mono (Same.of_ext hb)
/-- the cells of a row of data, flat -/
theorem SlE.flat {α : Type} {E : Enc α} {A : Nat → Prop} {w : World} {v : Value} {l : List α} (h : SlE E A w v l) :
    ∃ cs : List (List Value), cs.length = l.length ∧ (∀ (i : Nat) (x : α) (c : List Value), l[i]? = some x → cs[i]? = some c → E.rd A w c x) ∧ SlA A w E.size v l.length cs.flatten := by
  obtain ⟨cs, h1, h2, h3, h4⟩ := h.ex
  refine ⟨cs, h1, h2, h3, h4.imp (fun ⟨a, b⟩ => ⟨a, by rw [b]; rfl⟩) ?_⟩
  rintro ⟨b, off, cap, rfl, hc, hA, hl, hx⟩
  exact ⟨b, off, cap, rfl, hl, hA, hc, hx⟩
theorem SlE.of_flat {α : Type} {E : Enc α} {A : Nat → Prop} {w : World} {v : Value} {l : List α} {cs : List (List Value)} (h1 : cs.length = l.length)
    (h2 : ∀ (i : Nat) (x : α) (c : List Value), l[i]? = some x → cs[i]? = some c → E.rd A w c x) (h : SlA A w E.size v l.length cs.flatten) : SlE E A w v l := by
  obtain ⟨h3, h4⟩ := h
  refine ⟨cs, h1, h2, h3, h4.imp (fun ⟨a, b⟩ => ⟨a, List.length_eq_zero_iff.1 b⟩) ?_⟩
  rintro ⟨b, off, cap, rfl, hl, hA, hc, hx⟩
  exact ⟨b, off, cap, rfl, hc, hA, hl, hx⟩
theorem SlE.cut {α : Type} {E : Enc α} {A : Nat → Prop} {w : World} {v : Value} {l : List α} (h : SlE E A w v l) : SlE E (fun b => A b ∧ b < w.heap.size) w v l := h.weak fun _b hb hA => ⟨hA, hb⟩
/-- an op's cells, at its place in a row -/
theorem Ops.at {A : Nat → Prop} {w : World} {a : Option Addr} {n c : Nat} {l : List OpD} (h : SlE Enc.op A w (.slice a n c) l) {i : Nat} (hi : i < l.length) :
    ∃ b off v, a = some ⟨b, off, none⟩ ∧ b < w.heap.size ∧ A b ∧ w.cell? ⟨b, off + i * 5, none⟩ = some (.int .i64 l[i].kind) ∧ w.cell? ⟨b, off + i * 5 + 1, none⟩ = some (.int .i64 l[i].off) ∧
      w.cell? ⟨b, off + i * 5 + 2, none⟩ = some (.int .i64 l[i].n) ∧ w.cell? ⟨b, off + i * 5 + 3, none⟩ = some (.string l[i].name) ∧ w.cell? ⟨b, off + i * 5 + 4, none⟩ = some v ∧ RB A w v l[i].data := by
  obtain ⟨b, off, cap, cs, e, hb, hA, ⟨v, rfl, hv⟩, hc⟩ := h.at (i := i) (x := l[i]) (by simp [hi])
  simp only [Value.slice.injEq] at e
  obtain ⟨rfl, _, _⟩ := e
  refine ⟨b, off, v, rfl, hb, hA, hc 0 (by decide), hc 1 (by decide), hc 2 (by decide), hc 3 (by decide), hc 4 (by decide), hv⟩
theorem Keys.at {A : Nat → Prop} {w : World} {a : Option Addr} {n c : Nat} {l : List KyD} (h : SlE Enc.key A w (.slice a n c) l) {i : Nat} (hi : i < l.length) :
    ∃ b off v, a = some ⟨b, off, none⟩ ∧ b < w.heap.size ∧ A b ∧ w.cell? ⟨b, off + i * 2, none⟩ = some (.string l[i].name) ∧ w.cell? ⟨b, off + i * 2 + 1, none⟩ = some v ∧ RB A w v l[i].value := by
  obtain ⟨b, off, cap, cs, e, hb, hA, ⟨v, rfl, hv⟩, hc⟩ := h.at (i := i) (x := l[i]) (by simp [hi])
  simp only [Value.slice.injEq] at e
  obtain ⟨rfl, _, _⟩ := e
  exact ⟨b, off, v, rfl, hb, hA, hc 0 (by decide), hc 1 (by decide), hv⟩
end Go.Proofs.YtlekdfajcpmolaaGreatDoor
