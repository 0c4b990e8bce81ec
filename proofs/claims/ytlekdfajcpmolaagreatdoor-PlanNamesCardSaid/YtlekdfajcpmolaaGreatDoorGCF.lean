/- Rows of bytes: their cells; rows made by make; what a copy leaves. Rows of the call's own whose data are the call's own too and stand apart from the row; append of one datum. No program is named. Rows of the call's own that hold data: append of one datum at a step of a region that draws its order; append of a row. No program is named. append of a row of bytes, and of a datum to a row whose data are the call's own, at a step of a region that draws. No function is named. -/
import Derived.Test.YtlekdfajcpmolaaGreatDoorGAB
import Derived.Laws.CopyOwn
import Derived.Laws.MakeOwn
import Derived.Maps.AppendAt
import Derived.Test.YtlekdfajcpmolaaGreatDoorGAD
import Derived.Deep.AppendLies
import Derived.Deep.RegionHeldLaw
namespace Go.Proofs.YtlekdfajcpmolaaGreatDoor
open Go.RowKit

/-- where the bytes of a row that has some lie -/
theorem RB.lie {A : Nat → Prop} {w : World} {a : Option Addr} {c : Nat} {l : List UInt8} (h : RB A w (.slice a l.length c) l) (h0 : 0 < l.length) :
    ∃ b off, a = some ⟨b, off, none⟩ ∧ b < w.heap.size ∧ A b ∧ l.length ≤ c ∧ ∀ k, k < l.length → w.cell? ⟨b, off + k, none⟩ = (l.map bv)[k]? := by
  obtain ⟨b, off, rfl, h1, h2, h3, h4⟩ := SlA.at h h0
  exact ⟨b, off, rfl, h1, h2, h3, fun k hk => h4 k (by omega)⟩
theorem mk_bytes (n : Nat) (hn : n ≤ 1000000) (W : World) : (Instr.makeSlice 28 (.int .i64 (n : Int)) (.int .i64 (n : Int))).run Tryz.prog W = .ok (.slice (some ⟨W.heap.size, 0, none⟩) n n) (W.alloc (.cells (List.replicate n (Value.int .u8 0)).toArray 5)) := by
  obtain ⟨i0, hi, hz0, hz1, hz2⟩ := info_parts infoByte
  have h := run_make (P := Tryz.prog) W 28 5 i0 (.int .u8 0) Tryz.underlying28 hi hz0 .i64 .i64 n n (by omega) (by omega) (by rw [hz2]; omega) (by omega)
  have e : madeCells (Value.int .u8 0).cells n = (List.replicate n (Value.int .u8 0)).toArray := by
    apply Array.ext
    · simp [madeCells]
    · intro i h1 h2
      simp [madeCells, Value.cells, Nat.mod_one]
  rw [h, hz1]
  simp only [Int.toNat_natCast, Nat.mul_one]
  rw [e]
/-- a block that holds n bytes and no more is a row of the call's own -/
theorem OB.of_blk {base g n c : Nat} {w : World} {l : List UInt8} {t : List Value} (h : w.heap[g]? = some (.cells (l.map bv ++ t).toArray 5 (0, 0))) (hb : base ≤ g) (hn : l.length = n) (hc : n + t.length = c) (hm : c ≤ 1000000) : OB base w (.slice (some ⟨g, 0, none⟩) n c) l := by
  subst hn
  refine ⟨by simp, .inr ⟨g, c, _, rfl, hb, h, by omega, by unfold maxLen; omega, by simp; omega, by simp⟩⟩
end Go.Proofs.YtlekdfajcpmolaaGreatDoor
namespace Go.Proofs.YtlekdfajcpmolaaGreatDoor
open Go.RowKit Go.WideShapes

/-- a row of the call's own; what its data lead to lies in blocks from base on, apart from the row's own -/
structure EnR {α : Type} (E : Enc α) (t : TypeId) (base : Nat) (w : World) (v : Value) (l : List α) : Prop where
  mk ::
  ex : ∃ cs : List (List Value), cs.length = l.length ∧ (∀ (i : Nat) (x : α) (c : List Value), l[i]? = some x → cs[i]? = some c → E.rd (fun b => base ≤ b ∧ v.ownBlock ≠ some b) w c x) ∧ w.ownsRow base t E.size v l.length cs.flatten
section
variable {α : Type} {E : Enc α} {t : TypeId} {base : Nat} {w w' : World} {v v' : Value} {l : List α}
theorem EnR.nil (E : Enc α) (t : TypeId) (base : Nat) (w : World) : EnR E t base w (.slice none 0 0) [] := ⟨⟨[], rfl, fun i x c h => by simp at h, World.ownsRow_nil _ _ _ _⟩⟩
theorem owns_same {n size : Nat} {e : TypeId} {xs : List Value} (h : w.ownsRow base e size v n xs) (hs : Same (fun b => base ≤ b) w w') : w'.ownsRow base e size v n xs := by
  refine ⟨h.1, h.2.imp id ?_⟩
  rintro ⟨g, cap, cur, rfl, h1, h2, h3⟩
  exact ⟨g, cap, cur, rfl, h1, by rw [hs.block g h1 (Array.getElem?_eq_some_iff.1 h2).1]; exact h2, h3⟩
theorem EnR.same (h : EnR E t base w v l) (hs : Same (fun b => base ≤ b) w w') : EnR E t base w' v l := by
  obtain ⟨cs, h1, h2, h3⟩ := h.ex
  exact ⟨⟨cs, h1, fun i x c hi hc => E.mono (h2 i x c hi hc) (hs.weak fun b hb => hb.1), owns_same h3 hs⟩⟩
theorem EnR.same2 (h : EnR E t base w v l) (hs : Same (fun b => base ≤ b ∧ b < w.heap.size) w w') : EnR E t base w' v l := by
  obtain ⟨cs, h1, h2, h3⟩ := h.ex
  refine ⟨⟨cs, h1, fun i x c hi hc => ?_, ?_⟩⟩
  · exact E.weak (E.mono (E.weak (h2 i x c hi hc) (A' := fun b => (base ≤ b ∧ v.ownBlock ≠ some b) ∧ b < w.heap.size) fun b hl hb => ⟨hb, hl⟩) (hs.weak fun b hb => ⟨hb.1.1, hb.2⟩)) fun b _ hb => hb.1
  · refine ⟨h3.1, h3.2.imp id ?_⟩
    rintro ⟨g, cap, cur, rfl, h4, h5, h6⟩
    exact ⟨g, cap, cur, rfl, h4, by rw [hs.block g ⟨h4, (Array.getElem?_eq_some_iff.1 h5).1⟩ (Array.getElem?_eq_some_iff.1 h5).1]; exact h5, h6⟩
theorem EnR.ext (h : EnR E t base w v l) (hb : Below w.heap.size w w') : EnR E t base w' v l := h.same (Same.of_ext hb)
theorem EnR.shape (h : EnR E t base w v l) : ∃ a c, v = .slice a l.length c := by
  obtain ⟨cs, h1, h2, h3⟩ := h.ex
  exact owns_shape h3
theorem EnR.sle (h : EnR E t base w v l) : SlE E (fun b => base ≤ b) w v l := by
  obtain ⟨cs, h1, h2, h3⟩ := h.ex
  exact SlE.of_flat h1 (fun i x c hi hc => E.weak (h2 i x c hi hc) fun b _ hb => hb.1) (SlA.of_owns h3)
theorem EnR.lt (h : EnR E t base w v l) : ∀ g, v.ownBlock = some g → base ≤ g ∧ g < w.heap.size := by
  obtain ⟨cs, h1, h2, h3⟩ := h.ex
  exact fun g hg => h3.lt g hg
end
section
variable {P : Program} {ops : Array Oper} {rest : List Oper} {o : Oper} {a : Act} {Q : Exit → Act → World → Prop}
/-- 'append(out, x)': out of the call's own, x one datum that leads to the call's own memory -/
theorem wpList_pushR {α : Type} (W : World) (hgd : o.guard = none) (s x : Operand) (t : TypeId) (ho : o.op = .call { callee := .builtin .append, args := #[s, x], argTypes := #[t, t] })
    (E : Enc α) (base : Nat) (e : TypeId) (i : TypeInfo) (z : Value) (bytes : Nat) (ht : P.underlying t = some (.slice e)) (hi : P.info? e = some i) (hz : i.zero = some z)
    (hsize : i.size = E.size) (hby : i.bytes = bytes) (hzs : z.cells.size = E.size) (hsz : 0 < E.size) (hbb : bytes ≤ 1000)
    (v : Value) (l : List α) (hs : a.eval s = v) (hown : EnR E e base W v l) (c : List Value) (tt : TypeId) (y : α)
    (hx : a.eval x = .slice (some ⟨W.heap.size, 0, none⟩) 1 1) (hrd : E.rd (fun b => base ≤ b ∧ v.ownBlock ≠ some b) W c y)
    (hl : l.length ≤ 1000000) (hbase : base ≤ W.heap.size)
    (h : ∀ v' w', EnR E e base w' v' (l ++ [y]) → Below base W w' → wpList P ops Q rest (a.put o.dst v') w') : wpList P ops Q (o :: rest) a (W.alloc (.cells c.toArray tt)) := by
  obtain ⟨cs, h1, h2, h3⟩ := hown.ex
  have hal : Below W.heap.size W (W.alloc (.cells c.toArray tt)) := (Below.refl _ _).alloc (Nat.le_refl _) _
  refine wpList_append_own_at _ hgd s x t ho base e i z E.size bytes ht hi hz hsize hby hzs hsz v l.length cs.flatten hs (owns_ext h3 hal) ⟨W.heap.size, 0, none⟩ 1 1 c hx (by rw [Nat.one_mul]; exact E.len hrd) (cells_new W c tt) (E.one hrd) (by unfold maxLen; omega) ?_ (Nat.le_trans hbase hal.size) ?_
  · exact Nat.le_trans (Nat.mul_le_mul (show l.length + 1 ≤ 1000001 by omega) hbb) (by decide)
  · intro v' w' h4 h5 _ h6
    have hb : Below base W w' := ((Below.refl base W).alloc hbase _).grown h5 (by simp; omega) fun j hj => (h3.lt j hj).1
    have hsame : Same (fun b => base ≤ b ∧ v.ownBlock ≠ some b) W w' := by
      refine ⟨hb.size, fun b hb hl => ?_⟩
      rw [h5.block b (by simp; omega) fun e => hb.2 e.symm, Below.heap_alloc _ _ _ hl]
    have hmv : ∀ b, b < W.heap.size → (base ≤ b ∧ v.ownBlock ≠ some b) → (base ≤ b ∧ v'.ownBlock ≠ some b) := fun b hl hb => by
      refine ⟨hb.1, ?_⟩
      rcases h6 with e | e
      · rw [e]; exact hb.2
      · rw [e]
        simp only [World.size_alloc, ne_eq, Option.some.injEq]
        omega
    have key : ∀ c y, E.rd (fun b => base ≤ b ∧ v.ownBlock ≠ some b) W c y → E.rd (fun b => base ≤ b ∧ v'.ownBlock ≠ some b) w' c y := fun c y h =>
      E.weak (E.mono (E.weak h (A' := fun b => (base ≤ b ∧ v.ownBlock ≠ some b) ∧ b < W.heap.size) fun b hl hb => ⟨hb, hl⟩) (hsame.weak fun b hb => hb.1)) fun b _ hb => hmv b hb.2 hb.1
    refine h v' w' ⟨⟨cs ++ [c], by simp [h1], fun i y d hi hd => ?_, by simpa using h4⟩⟩ hb
    by_cases hlt : i < l.length
    · rw [List.getElem?_append_left hlt] at hi
      rw [List.getElem?_append_left (by omega)] at hd
      exact key _ _ (h2 i y d hi hd)
    · have hil := (List.getElem?_eq_some_iff.1 hi).1
      simp only [List.length_append, List.length_singleton] at hil
      have : i = l.length := by omega
      subst this
      rw [List.getElem?_append_right (by omega)] at hi hd
      simp [h1] at hi hd
      subst hi hd
      exact key _ _ hrd
end
end Go.Proofs.YtlekdfajcpmolaaGreatDoor
namespace Go.Proofs.YtlekdfajcpmolaaGreatDoor
open Go.RowKit Go.WideShapes

section
variable {P : Program} {ops : Array Oper} {o : Oper} {a : Act} {K : Act → World → Prop} {Q : Exit → Act → World → Prop} {Z : Prop}
/-- 'append(out, x)': out of the call's own, x one datum that lies in a block of its own -/
theorem step_push {α : Type} (w : World) (hgd : o.guard = none) (s x : Operand) (t : TypeId) (ho : o.op = .call { callee := .builtin .append, args := #[s, x], argTypes := #[t, t] })
    (E : Enc α) (A : Nat → Prop) (base : Nat) (e : TypeId) (i : TypeInfo) (z : Value) (bytes : Nat) (ht : P.underlying t = some (.slice e)) (hi : P.info? e = some i) (hz : i.zero = some z)
    (hsize : i.size = E.size) (hby : i.bytes = bytes) (hzs : z.cells.size = E.size) (hsz : 0 < E.size) (hbb : bytes ≤ 1000)
    (v : Value) (l : List α) (hs : a.eval s = v) (hown : EnRow E e A base w v l) (B : Nat) (c : List Value) (tt : TypeId) (y : α)
    (hx : a.eval x = .slice (some ⟨B, 0, none⟩) 1 1) (hB : w.heap[B]? = some (.cells c.toArray tt (0, 0))) (hrd : E.rd A w c y)
    (hl : l.length ≤ 1000000) (hbase : base ≤ w.heap.size) (hA : ∀ b, A b → b < base)
    (h : ∀ g cap w', EnRow E e A base w' (.slice (some ⟨g, 0, none⟩) (l.length + 1) cap) (l ++ [y]) → w.grownBy w' v.ownBlock → Below base w w' → (v.ownBlock = some g ∨ g = w.heap.size) → K (a.put o.dst (.slice (some ⟨g, 0, none⟩) (l.length + 1) cap)) w') :
    if Region.wanted o (yielded ops a.tmps) = true then Oper.wp P o a w K Q else Z := by
  obtain ⟨cs, h1, h2, h3⟩ := hown.ex
  refine step_append_lies w hgd s x t ho base e i z E.size bytes ht hi hz hsize hby hzs hsz v l.length cs.flatten hs h3 ⟨B, 0, none⟩ 1 1 c hx (by rw [Nat.one_mul]; exact E.len hrd) (fun j u hj => World.news_of_block hB j u (by simpa using hj)) (E.one hrd) (by decide) (by unfold maxLen; omega) ?_ hbase w.heap.size rfl ?_
  · exact Nat.le_trans (Nat.mul_le_mul (show l.length + 1 ≤ 1000001 by omega) hbb) (by decide)
  · intro g cap w' h4 h5 h6 _
    have hb : Below base w w' := (Below.refl base w).grown h5 hbase fun j hj => (h3.lt j hj).1
    exact h g cap w' (EnRow.push h1 h2 (Same.of_below hb hA) hrd (by simpa using h4)) h5 hb h6
end
section
variable {P : Program} {ops : Array Oper} {rest : List Oper} {o : Oper} {a : Act} {Q : Exit → Act → World → Prop}
/-- 'append(out, x)' at a list of operations, with where the new row lies -/
theorem wpList_pushG {α : Type} (w : World) (hgd : o.guard = none) (s x : Operand) (t : TypeId) (ho : o.op = .call { callee := .builtin .append, args := #[s, x], argTypes := #[t, t] })
    (E : Enc α) (A : Nat → Prop) (base : Nat) (e : TypeId) (i : TypeInfo) (z : Value) (bytes : Nat) (ht : P.underlying t = some (.slice e)) (hi : P.info? e = some i) (hz : i.zero = some z)
    (hsize : i.size = E.size) (hby : i.bytes = bytes) (hzs : z.cells.size = E.size) (hsz : 0 < E.size) (hbb : bytes ≤ 1000)
    (v : Value) (l : List α) (hs : a.eval s = v) (hown : EnRow E e A base w v l) (B : Nat) (c : List Value) (tt : TypeId) (y : α)
    (hx : a.eval x = .slice (some ⟨B, 0, none⟩) 1 1) (hB : w.heap[B]? = some (.cells c.toArray tt (0, 0))) (hrd : E.rd A w c y)
    (hl : l.length ≤ 1000000) (hbase : base ≤ w.heap.size) (hA : ∀ b, A b → b < base)
    (h : ∀ g cap w', EnRow E e A base w' (.slice (some ⟨g, 0, none⟩) (l.length + 1) cap) (l ++ [y]) → w.grownBy w' v.ownBlock → Below base w w' → (v.ownBlock = some g ∨ g = w.heap.size) → wpList P ops Q rest (a.put o.dst (.slice (some ⟨g, 0, none⟩) (l.length + 1) cap)) w') :
    wpList P ops Q (o :: rest) a w := by
  obtain ⟨cs, h1, h2, h3⟩ := hown.ex
  refine wpList_append_lies w hgd s x t ho base e i z E.size bytes ht hi hz hsize hby hzs hsz v l.length cs.flatten hs h3 ⟨B, 0, none⟩ 1 1 c hx (by rw [Nat.one_mul]; exact E.len hrd) (fun j u hj => World.news_of_block hB j u (by simpa using hj)) (E.one hrd) (by decide) (by unfold maxLen; omega) ?_ hbase w.heap.size rfl ?_
  · exact Nat.le_trans (Nat.mul_le_mul (show l.length + 1 ≤ 1000001 by omega) hbb) (by decide)
  · intro g cap w' h4 h5 h6 _
    have hb : Below base w w' := (Below.refl base w).grown h5 hbase fun j hj => (h3.lt j hj).1
    exact h g cap w' (EnRow.push h1 h2 (Same.of_below hb hA) hrd (by simpa using h4)) h5 hb h6
/-- 'append(out, src...)': out of the call's own, src any row of data -/
theorem wpList_appE {α : Type} (w : World) (hgd : o.guard = none) (s x : Operand) (t : TypeId) (ho : o.op = .call { callee := .builtin .append, args := #[s, x], argTypes := #[t, t] })
    (E : Enc α) (A : Nat → Prop) (base : Nat) (e : TypeId) (i : TypeInfo) (z : Value) (bytes : Nat) (ht : P.underlying t = some (.slice e)) (hi : P.info? e = some i) (hz : i.zero = some z)
    (hsize : i.size = E.size) (hby : i.bytes = bytes) (hzs : z.cells.size = E.size) (hsz : 0 < E.size) (hbb : bytes ≤ 1000)
    (v : Value) (l : List α) (hs : a.eval s = v) (hown : EnRow E e A base w v l) (sv : Value) (m : List α)
    (hx : a.eval x = sv) (hsl : SlE E A w sv m) (hl : l.length + m.length ≤ 1000000) (hbase : base ≤ w.heap.size) (hA : ∀ b, A b → b < base)
    (h : ∀ v' w', EnRow E e A base w' v' (l ++ m) → Below base w w' → wpList P ops Q rest (a.put o.dst v') w') : wpList P ops Q (o :: rest) a w := by
  obtain ⟨cs, h1, h2, h3⟩ := hown.ex
  obtain ⟨ds, k1, k2, k3⟩ := hsl.flat
  have hone : ∀ u ∈ ds.flatten, u.oneCell' = true := by
    intro u hu
    obtain ⟨c, hc, hu⟩ := List.mem_flatten.1 hu
    obtain ⟨j, hj, rfl⟩ := List.getElem_of_mem hc
    exact E.one (k2 j _ _ (List.getElem?_eq_getElem (by omega)) (List.getElem?_eq_getElem hj)) u hu
  refine wpList_append_sl hgd s x t ho base e i z E.size bytes ht hi hz hsize hby hzs hsz v l.length cs.flatten hs h3 A sv m.length ds.flatten hx k3 hone (by unfold maxLen; omega) ?_ hbase ?_
  · exact Nat.le_trans (Nat.mul_le_mul (show l.length + m.length ≤ 1000001 by omega) hbb) (by decide)
  · intro v' w' h4 h5
    have hb : Below base w w' := (Below.refl base w).grown h5 hbase fun j hj => (h3.lt j hj).1
    refine h v' w' ⟨⟨cs ++ ds, by simp [h1, k1], fun i y d hi hd => ?_, by simpa using h4⟩⟩ hb
    by_cases hlt : i < l.length
    · rw [List.getElem?_append_left hlt] at hi
      rw [List.getElem?_append_left (by omega)] at hd
      exact E.mono (h2 i y d hi hd) (Same.of_below hb hA)
    · rw [List.getElem?_append_right (by omega)] at hi hd
      rw [h1] at hd
      exact E.mono (k2 _ y d hi hd) (Same.of_below hb hA)
end
theorem EnRow.set {α : Type} {E : Enc α} {t : TypeId} {A : Nat → Prop} {base p j : Nat} {w : World} {v x : Value} {l : List α} (h : EnRow E t A base w v l) (hv : v.ownBlock ≠ some p) (hA : ¬ A p) : EnRow E t A base (w.setCell ⟨p, j, none⟩ x) v l := by
  obtain ⟨cs, h1, h2, h3⟩ := h.ex
  refine ⟨⟨cs, h1, fun i y c hi hc => E.mono (h2 i y c hi hc) ⟨by simp [World.setCell], fun b hb _ => Below.heap_setCell _ _ _ _ (fun e => hA (by have e2 : b = p := e; rw [← e2]; exact hb))⟩, ?_⟩⟩
  refine ⟨h3.1, h3.2.imp id ?_⟩
  rintro ⟨g, cap, cur, rfl, h4, h5, h6⟩
  refine ⟨g, cap, cur, rfl, h4, (Below.heap_setCell _ _ _ _ (fun e => hv (by have e2 : g = p := e; rw [e2]; rfl))).trans h5, h6⟩
/-- a row of one datum that the call has made -/
theorem EnRow.one {α : Type} {E : Enc α} {t : TypeId} {A : Nat → Prop} {base g : Nat} {w : World} {c : List Value} {y : α} (hb : w.heap[g]? = some (.cells c.toArray t (0, 0))) (hr : E.rd A w c y) (hg : base ≤ g) : EnRow E t A base w (.slice (some ⟨g, 0, none⟩) 1 1) [y] := by
  have hlen := E.len hr
  refine ⟨⟨[c], rfl, fun i x d hi hd => ?_, by simp [hlen], .inr ⟨g, 1, c.toArray, rfl, hg, hb, Nat.le_refl _, by unfold maxLen; omega, by simp [hlen], ?_⟩⟩⟩
  · match i, hi, hd with
    | 0, hi, hd => cases hi; cases hd; exact hr
  · rw [List.take_of_length_le (by simp [hlen])]
    simp
end Go.Proofs.YtlekdfajcpmolaaGreatDoor
namespace Go.Proofs.YtlekdfajcpmolaaGreatDoor
open Go.RowKit Go.WideShapes

section
variable {P : Program} {ops : Array Oper} {o : Oper} {a : Act} {K : Act → World → Prop} {Q : Exit → Act → World → Prop} {Z : Prop}
/-- 'append(out, x)': out of the call's own, x one datum whose parts are the call's own too -/
theorem step_pushG {α : Type} (w : World) (hgd : o.guard = none) (s x : Operand) (t : TypeId) (ho : o.op = .call { callee := .builtin .append, args := #[s, x], argTypes := #[t, t] })
    (E : Enc α) (base : Nat) (e : TypeId) (i : TypeInfo) (z : Value) (bytes : Nat) (ht : P.underlying t = some (.slice e)) (hi : P.info? e = some i) (hz : i.zero = some z)
    (hsize : i.size = E.size) (hby : i.bytes = bytes) (hzs : z.cells.size = E.size) (hsz : 0 < E.size) (hbb : bytes ≤ 1000)
    (v : Value) (l : List α) (n : Nat) (hn : l.length = n) (hs : a.eval s = v) (hown : EnR E e base w v l) (B : Nat) (c : List Value) (tt : TypeId) (y : α)
    (hx : a.eval x = .slice (some ⟨B, 0, none⟩) 1 1) (hB : w.heap[B]? = some (.cells c.toArray tt (0, 0))) (hrd : E.rd (fun b => base ≤ b ∧ v.ownBlock ≠ some b) w c y)
    (hl : l.length ≤ 1000000) (hbase : base ≤ w.heap.size)
    (h : ∀ g cap w', EnR E e base w' (.slice (some ⟨g, 0, none⟩) (n + 1) cap) (l ++ [y]) → Below base w w' → w.grownBy w' v.ownBlock → K (a.put o.dst (.slice (some ⟨g, 0, none⟩) (n + 1) cap)) w') :
    if Region.wanted o (yielded ops a.tmps) = true then Oper.wp P o a w K Q else Z := by
  subst hn
  obtain ⟨cs, h1, h2, h3⟩ := hown.ex
  refine step_append_lies w hgd s x t ho base e i z E.size bytes ht hi hz hsize hby hzs hsz v l.length cs.flatten hs h3 ⟨B, 0, none⟩ 1 1 c hx (by rw [Nat.one_mul]; exact E.len hrd) (fun j u hj => World.news_of_block hB j u (by simpa using hj)) (E.one hrd) (by decide) (by unfold maxLen; omega) ?_ hbase w.heap.size rfl ?_
  · exact Nat.le_trans (Nat.mul_le_mul (show l.length + 1 ≤ 1000001 by omega) hbb) (by decide)
  · intro g cap w' h4 h5 h6 _
    have hb : Below base w w' := (Below.refl base w).grown h5 hbase fun j hj => (h3.lt j hj).1
    have hsame : Same (fun b => base ≤ b ∧ v.ownBlock ≠ some b) w w' := ⟨hb.size, fun b hb hl => h5.block b hl fun e => hb.2 e.symm⟩
    have hmv : ∀ b, b < w.heap.size → (base ≤ b ∧ v.ownBlock ≠ some b) → (base ≤ b ∧ (Value.slice (some ⟨g, 0, none⟩) (l.length + 1) cap).ownBlock ≠ some b) := fun b hl hb => by
      refine ⟨hb.1, fun e => ?_⟩
      have e2 : g = b := Option.some.inj e
      rcases h6 with h6 | h6
      · exact hb.2 (by rw [h6, e2])
      · omega
    have key : ∀ c y, E.rd (fun b => base ≤ b ∧ v.ownBlock ≠ some b) w c y → E.rd (fun b => base ≤ b ∧ (Value.slice (some ⟨g, 0, none⟩) (l.length + 1) cap).ownBlock ≠ some b) w' c y := fun c y h =>
      E.weak (E.mono (E.weak h (A' := fun b => (base ≤ b ∧ v.ownBlock ≠ some b) ∧ b < w.heap.size) fun b hl hb => ⟨hb, hl⟩) (hsame.weak fun b hb => hb.1)) fun b _ hb => hmv b hb.2 hb.1
    refine h g cap w' ⟨⟨cs ++ [c], by simp [h1], fun i y d hi hd => ?_, by simpa using h4⟩⟩ hb h5
    by_cases hlt : i < l.length
    · rw [List.getElem?_append_left hlt] at hi
      rw [List.getElem?_append_left (by omega)] at hd
      exact key _ _ (h2 i y d hi hd)
    · have hil := (List.getElem?_eq_some_iff.1 hi).1
      simp only [List.length_append, List.length_singleton] at hil
      have : i = l.length := by omega
      subst this
      rw [List.getElem?_append_right (by omega)] at hi hd
      simp [h1] at hi hd
      subst hi hd
      exact key _ _ hrd
end
section
variable {ops : Array Oper} {o : Oper} {a : Act} {w : World} {K : Act → World → Prop} {Q : Exit → Act → World → Prop} {Z : Prop}
end
end Go.Proofs.YtlekdfajcpmolaaGreatDoor
