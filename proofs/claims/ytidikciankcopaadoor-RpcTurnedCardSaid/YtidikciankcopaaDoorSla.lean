/- Slices that are read through the blocks of a set alone; append onto a row of the call's own from any such slice; rows of rows. No program is named. -/
import Derived.Test.YtidikciankcopaaDoorEnc
import Derived.Laws.AppendOwnNone
import Derived.Maps.AppendAt
import Derived.ArgAppend
namespace Go.Proofs.YtidikciankcopaaDoor
open Go.RowKit Go.WideShapes

def SlA (A : Nat → Prop) (w : World) (size : Nat) (v : Value) (n : Nat) (xs : List Value) : Prop :=
  xs.length = n * size ∧ (((∃ a, v = .slice a 0 0) ∧ n = 0) ∨ ∃ b off cap, v = .slice (some ⟨b, off, none⟩) n cap ∧ b < w.heap.size ∧ A b ∧ n ≤ cap ∧ ∀ j, j < n * size → w.cell? ⟨b, off + j, none⟩ = xs[j]?)
def UpA (A : Nat → Prop) (w : World) (b : Nat) : Prop := A b ∨ w.heap.size ≤ b
section
variable {A A' : Nat → Prop} {w w' : World} {size n : Nat} {v : Value} {xs : List Value}
theorem SlA.mono (h : SlA A w size v n xs) (hs : Same A w w') : SlA A w' size v n xs := by
  obtain ⟨h1, h2⟩ := h
  refine ⟨h1, h2.imp id ?_⟩
  rintro ⟨b, off, cap, rfl, hl, hA, hc, hx⟩
  exact ⟨b, off, cap, rfl, Nat.lt_of_lt_of_le hl hs.size, hA, hc, fun j hj => (hs.cell (p := ⟨b, off + j, none⟩) hA hl).trans (hx j hj)⟩
theorem SlA.ext (h : SlA A w size v n xs) (hb : Below w.heap.size w w') : SlA A w' size v n xs := h.mono (Same.of_ext hb)
theorem SlA.weak (h : SlA A w size v n xs) (hA : ∀ b, A b → A' b) : SlA A' w size v n xs := by
  obtain ⟨h1, h2⟩ := h
  refine ⟨h1, h2.imp id ?_⟩
  rintro ⟨b, off, cap, rfl, hl, hb, hc, hx⟩
  exact ⟨b, off, cap, rfl, hl, hA b hb, hc, hx⟩
theorem SlA.shape (h : SlA A w size v n xs) : ∃ a c, v = .slice a n c := by
  rcases h.2 with ⟨⟨a, rfl⟩, rfl⟩ | ⟨b, off, cap, rfl, _⟩
  · exact ⟨_, _, rfl⟩
  · exact ⟨_, _, rfl⟩
theorem SlA.zero (A : Nat → Prop) (w : World) (size : Nat) (a : Option Addr) : SlA A w size (.slice a 0 0) 0 [] := ⟨by simp, .inl ⟨⟨a, rfl⟩, rfl⟩⟩
theorem SlA.nil (A : Nat → Prop) (w : World) (size : Nat) : SlA A w size (.slice none 0 0) 0 [] := SlA.zero A w size none
theorem SlA.none_ {m c : Nat} (h : SlA A w size (.slice none m c) n xs) : m = 0 ∧ n = 0 ∧ c = 0 := by
  rcases h.2 with ⟨⟨a, e⟩, rfl⟩ | ⟨b, off, cap, e, _⟩
  · simp only [Value.slice.injEq] at e
    exact ⟨e.2.1, rfl, e.2.2⟩
  · simp at e
theorem SlA.src {p : Addr} {m c : Nat} (h : SlA A w size (.slice (some p) m c) n xs) : m = n ∧ n ≤ c ∧ ∀ j u, xs[j]? = some u → w.cell? (p.add j) = some u := by
  obtain ⟨h1, h2⟩ := h
  rcases h2 with ⟨⟨a, e⟩, rfl⟩ | ⟨b, off, cap, e, hl, hA, hc, hx⟩
  · simp only [Value.slice.injEq] at e
    refine ⟨e.2.1, Nat.zero_le _, fun j u hj => ?_⟩
    obtain rfl : xs = [] := List.eq_nil_of_length_eq_zero (by simpa using h1)
    simp at hj
  · simp only [Value.slice.injEq, Option.some.injEq] at e
    obtain ⟨rfl, rfl, rfl⟩ := e
    refine ⟨rfl, hc, fun j u hj => ?_⟩
    have hjl : j < m * size := by rw [← h1]; exact (List.getElem?_eq_some_iff.1 hj).1
    rw [add_plain, hx j hjl, hj]
theorem SlA.of_owns {base : Nat} {e : TypeId} (h : w.ownsRow base e size v n xs) : SlA (fun b => base ≤ b) w size v n xs := by
  refine ⟨h.1, h.2.imp (fun ⟨h1, h2⟩ => ⟨⟨_, h1⟩, h2⟩) ?_⟩
  rintro ⟨g, cap, cur, rfl, hb, hg, hn, hm, hs, ht⟩
  refine ⟨g, 0, cap, rfl, (Array.getElem?_eq_some_iff.1 hg).1, hb, hn, fun j hj => ?_⟩
  have := World.ownsRow.cellAt (w := w) (base := base) (e := e) (size := size) (g := g) (cap := cap) (n := n) (xs := xs) ⟨h.1, .inr ⟨g, cap, cur, rfl, hb, hg, hn, hm, hs, ht⟩⟩ j hj
  simpa using this
theorem SlA.at {a : Option Addr} {c : Nat} (h : SlA A w size (.slice a n c) n xs) (hn : 0 < n) : ∃ b off, a = some ⟨b, off, none⟩ ∧ b < w.heap.size ∧ A b ∧ n ≤ c ∧ ∀ j, j < n * size → w.cell? ⟨b, off + j, none⟩ = xs[j]? := by
  rcases h.2 with ⟨_, rfl⟩ | ⟨b, off, cap, e, r⟩
  · omega
  · simp only [Value.slice.injEq] at e
    obtain ⟨rfl, _, rfl⟩ := e
    exact ⟨b, off, rfl, r⟩
end

section
variable {P : Program} {w : World} {ops : Array Oper} {rest : List Oper} {o : Oper} {a : Act} {Q : Exit → Act → World → Prop}
/-- 'append(out, src...)': out of the call's own, src any row that reads as cells -/
theorem wpList_append_sl (hgd : o.guard = none) (s x : Operand) (t : TypeId) (ho : o.op = .call { callee := .builtin .append, args := #[s, x], argTypes := #[t, t] })
    (base : Nat) (e : TypeId) (i : TypeInfo) (z : Value) (size bytes : Nat) (ht : P.underlying t = some (.slice e)) (hi : P.info? e = some i) (hz : i.zero = some z)
    (hsize : i.size = size) (hby : i.bytes = bytes) (hzs : z.cells.size = size) (hsz : 0 < size)
    (v : Value) (n : Nat) (xs : List Value) (hs : a.eval s = v) (hown : w.ownsRow base e size v n xs)
    (A : Nat → Prop) (sv : Value) (m : Nat) (news : List Value) (hx : a.eval x = sv) (hsl : SlA A w size sv m news) (h1 : ∀ u ∈ news, u.oneCell' = true)
    (h63 : n + m ≤ maxLen) (hbytes : (n + m) * bytes ≤ 140737488355328) (hbase : base ≤ w.heap.size)
    (h : ∀ v' w', w'.ownsRow base e size v' (n + m) (xs ++ news) → w.grownBy w' v.ownBlock → wpList P ops Q rest (a.put o.dst v') w') : wpList P ops Q (o :: rest) a w := by
  rcases hsl.2 with ⟨⟨a0, rfl⟩, rfl⟩ | ⟨b, off, cap, rfl, hl, hA, hc, hcell⟩
  · have hn : news = [] := List.length_eq_zero_iff.1 (by simpa using hsl.1)
    subst hn
    cases a0 with
    | none => exact wpList_append_own_none hgd s x t ho base e i size ht hi v n xs hs hown hx (h v w (by simpa using hown) (World.grownBy.refl w _))
    | some p => exact wpList_append_own w hgd s x t ho base e i z size bytes ht hi hz hsize hby hzs hsz v n xs hs hown p 0 0 [] hx (by simp) (fun j u hj => by simp at hj) h1 h63 hbytes hbase fun v' w' h2 h3 _ => h v' w' h2 h3
  · refine wpList_append_own w hgd s x t ho base e i z size bytes ht hi hz hsize hby hzs hsz v n xs hs hown ⟨b, off, none⟩ m cap news hx hsl.1 (fun j u hj => ?_) h1 h63 hbytes hbase fun v' w' h2 h3 _ => h v' w' h2 h3
    have hjl : j < m * size := by rw [← hsl.1]; exact (List.getElem?_eq_some_iff.1 hj).1
    rw [add_plain, hcell j hjl, hj]
end

theorem cellB {w w' : World} {n : Nat} (hb : Below n w w') {a : Addr} {v : Value} (hn : a.block < n) (h : w.cell? a = some v) : w'.cell? a = some v := (hb.cell hn).trans h
theorem blk_cell {w : World} {g i : Nat} {t : TypeId} {cs : Array Value} (h : w.heap[g]? = some (.cells cs t (0, 0))) : w.cell? ⟨g, i, none⟩ = cs[i]? ∧ w.frozen? ⟨g, i, none⟩ = false := by
  simp [World.cell?, World.frozen?, h]
section
variable {A A' : Nat → Prop} {w w' : World} {size n : Nat} {v : Value} {xs : List Value}
/-- what is read lies in the heap -/
theorem SlA.cut (h : SlA A w size v n xs) : SlA (fun b => A b ∧ b < w.heap.size) w size v n xs := by
  obtain ⟨h1, h2⟩ := h
  refine ⟨h1, h2.imp id ?_⟩
  rintro ⟨b, off, cap, rfl, hl, hA, hc, hx⟩
  exact ⟨b, off, cap, rfl, hl, ⟨hA, hl⟩, hc, hx⟩
end
theorem own_ne {w : World} {b1 b2 s1 s2 n1 n2 : Nat} {e1 e2 : TypeId} {v1 v2 : Value} {x1 x2 : List Value} (h1 : w.ownsRow b1 e1 s1 v1 n1 x1) (h2 : w.ownsRow b2 e2 s2 v2 n2 x2) (hne : e1 ≠ e2) : v1.ownBlock = none ∨ v1.ownBlock ≠ v2.ownBlock := by
  rcases h1.2 with ⟨rfl, _⟩ | ⟨g1, c1, u1, rfl, _, hg1, _⟩
  · exact .inl rfl
  · refine .inr fun e => ?_
    rcases h2.2 with ⟨rfl, _⟩ | ⟨g2, c2, u2, rfl, _, hg2, _⟩
    · simp [Value.ownBlock] at e
    · simp only [Value.ownBlock, Option.some.injEq] at e
      subst e
      rw [hg1] at hg2
      simp only [Option.some.injEq, Obj.cells.injEq] at hg2
      exact hne hg2.2.1
theorem hbw3_of {B : Nat} {w w1 w2 : World} (h1 : Below B w w1) (h2 : Below B w w2) (hs : w1.heap.size ≤ w2.heap.size) : Below B w1 w2 :=
  ⟨h2.os.trans h1.os.symm, h2.tape.trans h1.tape.symm, h2.output.trans h1.output.symm, hs, fun k hk => (h2.block k hk).trans (h1.block k hk).symm⟩
/-- the row 'out' of the call's own stands apart from the blocks of S -/
structure Gro (base : Nat) (S : Nat → Prop) (wr : World) (out : Value) : Prop where
  lo : ∀ b, S b → base ≤ b ∧ b < wr.heap.size
  off : ∀ g, out.ownBlock = some g → ¬ S g
def More (S : Nat → Prop) (wr w2 : World) (b : Nat) : Prop := S b ∨ wr.heap.size ≤ b ∧ b < w2.heap.size
theorem Gro.nil (base : Nat) (wr : World) : Gro base (fun _ => False) wr (.slice none 0 0) := ⟨fun _ h => h.elim, fun _ _ h => h⟩
theorem nest_step {base n size : Nat} {S : Nat → Prop} {wr w2 w3 : World} {out out' : Value} {e : TypeId} {xs : List Value} {o : Obj} (hG : Gro base S wr out) (hown : wr.ownsRow base e size out n xs) (hbase : base ≤ wr.heap.size) (hb2 : Below wr.heap.size wr w2)
    (hg : (w2.alloc o).grownBy w3 out.ownBlock) (hat : out'.ownBlock = out.ownBlock ∨ out'.ownBlock = some (w2.heap.size + 1)) :
    Gro base (More S wr w2) w3 out' ∧ Same (More S wr w2) w2 w3 ∧ Below base wr w3 := by
  have hs2 := hb2.size
  have hs3 := hg.size
  simp only [World.size_alloc] at hs3
  have hrow : ∀ g, out.ownBlock = some g → base ≤ g ∧ g < wr.heap.size := fun g hg => hown.lt g hg
  refine ⟨⟨fun b hb => ?_, fun g hg' => ?_⟩, ?_, ?_⟩
  · rcases hb with hb | ⟨h1, h2⟩
    · have := hG.lo b hb; omega
    · omega
  · rcases hat with e1 | e1
    · rw [e1] at hg'
      have h1 := hrow g hg'
      rintro (h | h)
      · exact hG.off g hg' h
      · omega
    · rw [e1] at hg'
      simp only [Option.some.injEq] at hg'
      rintro (h | h)
      · have := hG.lo g h; omega
      · omega
  · refine ⟨by omega, fun b hb hl => ?_⟩
    have h1 : some b ≠ out.ownBlock := fun e1 => by
      have h2 := hrow b e1.symm
      rcases hb with h | h
      · exact hG.off b e1.symm h
      · omega
    rw [hg.block b (by simp; omega) h1, Below.heap_alloc _ _ _ hl]
  · refine ((hb2.mono hbase).alloc (by omega) o).grown hg (by simp; omega) fun g hg' => ?_
    exact (hrow g hg').1
theorem More.old (S : Nat → Prop) (wr w2 : World) : ∀ b, S b → More S wr w2 b := fun _ h => .inl h
theorem More.new (S : Nat → Prop) (wr w2 : World) : ∀ b, (wr.heap.size ≤ b ∧ b < w2.heap.size) → More S wr w2 b := fun _ h => .inr h
theorem blk_keep {base k : Nat} {w w' : World} (hb : Below base w w') (hk : k < base) {o : Obj} (h : w.heap[k]? = some o) : w'.heap[k]? = some o := (hb.block k hk).trans h


/-! Rows of bytes -/
def bv (b : UInt8) : Value := .int .u8 b.toNat
def RB (A : Nat → Prop) (w : World) (v : Value) (l : List UInt8) : Prop := SlA A w 1 v l.length (l.map bv)
theorem one_bytes (l : List UInt8) : ∀ u ∈ l.map bv, u.oneCell' = true := by
  intro u hu
  obtain ⟨x, _, rfl⟩ := List.mem_map.1 hu
  rfl
theorem bv_at {l : List UInt8} {k : Nat} (h : k < l.length) : (l.map bv)[k]? = some (bv l[k]) := by simp [h]
end Go.Proofs.YtidikciankcopaaDoor
