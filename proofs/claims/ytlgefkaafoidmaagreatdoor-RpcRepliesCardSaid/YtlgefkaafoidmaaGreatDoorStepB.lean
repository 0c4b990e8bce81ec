/- append of a row of bytes, and of a datum to a row whose data are the call's own, at a step of a region that draws. No function is named. -/
import Derived.Test.YtlgefkaafoidmaaGreatDoorGN
import Derived.Test.YtlgefkaafoidmaaGreatDoorGL
import Derived.Test.YtlgefkaafoidmaaGreatDoorGP
namespace Go.Proofs.YtlgefkaafoidmaaGreatDoor
open Go.RowKit Go.WideShapes

theorem three_f {w : World} {p : Nat} {a b c : Value} {t : TypeId} (h : w.heap[p]? = some (.cells #[a, b, c] t (0, 0))) :
    (w.cell? ⟨p, 0, none⟩ = some a ∧ w.frozen? ⟨p, 0, none⟩ = false) ∧ (w.cell? ⟨p, 1, none⟩ = some b ∧ w.frozen? ⟨p, 1, none⟩ = false) ∧ (w.cell? ⟨p, 2, none⟩ = some c ∧ w.frozen? ⟨p, 2, none⟩ = false) ∧ p < w.heap.size :=
  ⟨blk_cell h, blk_cell h, blk_cell h, (Array.getElem?_eq_some_iff.1 h).1⟩
section
variable {P : Program} {ops : Array Oper} {o : Oper} {a : Act} {K : Act → World → Prop} {Q : Exit → Act → World → Prop} {Z : Prop}
/-- 'append(out, x)': out of the call's own, x one datum whose parts are the call's own too -/
theorem step_pushG {α : Type} (w : World) (hgd : o.guard = none) (s x : Operand) (t : TypeId) (ho : o.op = .call { callee := .builtin .append, args := #[s, x], argTypes := #[t, t] })
    (E : Enc α) (base : Nat) (e : TypeId) (i : TypeInfo) (z : Value) (bytes : Nat) (ht : P.underlying t = some (.slice e)) (hi : P.info? e = some i) (hz : i.zero = some z)
    (hsize : i.size = E.size) (hby : i.bytes = bytes) (hzs : z.cells.size = E.size) (hsz : 0 < E.size) (hbb : bytes ≤ 1000)
    (v : Value) (l : List α) (n : Nat) (hn : l.length = n) (hs : a.eval s = v) (hown : EnR E e base w v l) (B : Nat) (c : List Value) (tt : TypeId) (y : α)
    (hx : a.eval x = .slice (some ⟨B, 0, none⟩) 1 1) (hB : w.heap[B]? = some (.cells c.toArray tt (0, 0))) (hrd : E.rd (fun b => base ≤ b ∧ v.ownBlock ≠ some b) w c y)
    (hl : l.length ≤ 1000000) (hbase : base ≤ w.heap.size)
    (h : ∀ g cap w', EnR E e base w' (.slice (some ⟨g, 0, none⟩) (n + 1) cap) (l ++ [y]) → Below base w w' → w.grownBy w' v.ownBlock → K (a.put o.dst (.slice (some ⟨g, 0, none⟩) (n + 1) cap)) w') :
    if Region.wanted o (yielded ops a.tmps) = true then Oper.wp P o a w K Q else Z := by
  subst hn
  obtain ⟨cs, h1, h2, h3⟩ := hown.ex
  refine step_append_lies w hgd s x t ho base e i z E.size bytes ht hi hz hsize hby hzs hsz v l.length cs.flatten hs h3 ⟨B, 0, none⟩ 1 1 c hx (by rw [Nat.one_mul]; exact E.len hrd) (fun j u hj => World.news_of_block hB j u (by simpa using hj)) (E.one hrd) (by decide) (by unfold maxLen; omega) ?_ hbase w.heap.size rfl ?_
  · exact Nat.le_trans (Nat.mul_le_mul (show l.length + 1 ≤ 1000001 by omega) hbb) (by decide)
  · intro g cap w' h4 h5 h6 _
    have hb : Below base w w' := (Below.refl base w).grown h5 hbase fun j hj => (h3.lt j hj).1
    have hsame : Same (fun b => base ≤ b ∧ v.ownBlock ≠ some b) w w' := ⟨hb.size, fun b hb hl => h5.block b hl fun e => hb.2 e.symm⟩
    have hmv : ∀ b, b < w.heap.size → (base ≤ b ∧ v.ownBlock ≠ some b) → (base ≤ b ∧ (Value.slice (some ⟨g, 0, none⟩) (l.length + 1) cap).ownBlock ≠ some b) := fun b hl hb => by
      refine ⟨hb.1, fun e => ?_⟩
      have e2 : g = b := Option.some.inj e
      rcases h6 with h6 | h6
      · exact hb.2 (by rw [h6, e2])
      · omega
    have key : ∀ c y, E.rd (fun b => base ≤ b ∧ v.ownBlock ≠ some b) w c y → E.rd (fun b => base ≤ b ∧ (Value.slice (some ⟨g, 0, none⟩) (l.length + 1) cap).ownBlock ≠ some b) w' c y := fun c y h =>
      E.weak (E.mono (E.weak h (A' := fun b => (base ≤ b ∧ v.ownBlock ≠ some b) ∧ b < w.heap.size) fun b hl hb => ⟨hb, hl⟩) (hsame.weak fun b hb => hb.1)) fun b _ hb => hmv b hb.2 hb.1
    refine h g cap w' ⟨⟨cs ++ [c], by simp [h1], fun i y d hi hd => ?_, by simpa using h4⟩⟩ hb h5
    by_cases hlt : i < l.length
    · rw [List.getElem?_append_left hlt] at hi
      rw [List.getElem?_append_left (by omega)] at hd
      exact key _ _ (h2 i y d hi hd)
    · have hil := (List.getElem?_eq_some_iff.1 hi).1
      simp only [List.length_append, List.length_singleton] at hil
      have : i = l.length := by omega
      subst this
      rw [List.getElem?_append_right (by omega)] at hi hd
      simp [h1] at hi hd
      subst hi hd
      exact key _ _ hrd
/-- 'append(out, x)': out of the call's own, x one datum whose parts are the call's own too -/
theorem step_pushR {α : Type} (w : World) (hgd : o.guard = none) (s x : Operand) (t : TypeId) (ho : o.op = .call { callee := .builtin .append, args := #[s, x], argTypes := #[t, t] })
    (E : Enc α) (base : Nat) (e : TypeId) (i : TypeInfo) (z : Value) (bytes : Nat) (ht : P.underlying t = some (.slice e)) (hi : P.info? e = some i) (hz : i.zero = some z)
    (hsize : i.size = E.size) (hby : i.bytes = bytes) (hzs : z.cells.size = E.size) (hsz : 0 < E.size) (hbb : bytes ≤ 1000)
    (v : Value) (l : List α) (n : Nat) (hn : l.length = n) (hs : a.eval s = v) (hown : EnR E e base w v l) (B : Nat) (c : List Value) (tt : TypeId) (y : α)
    (hx : a.eval x = .slice (some ⟨B, 0, none⟩) 1 1) (hB : w.heap[B]? = some (.cells c.toArray tt (0, 0))) (hrd : E.rd (fun b => base ≤ b ∧ v.ownBlock ≠ some b) w c y)
    (hl : l.length ≤ 1000000) (hbase : base ≤ w.heap.size)
    (h : ∀ g cap w', EnR E e base w' (.slice (some ⟨g, 0, none⟩) (n + 1) cap) (l ++ [y]) → Below base w w' → K (a.put o.dst (.slice (some ⟨g, 0, none⟩) (n + 1) cap)) w') :
    if Region.wanted o (yielded ops a.tmps) = true then Oper.wp P o a w K Q else Z :=
  step_pushG w hgd s x t ho E base e i z bytes ht hi hz hsize hby hzs hsz hbb v l n hn hs hown B c tt y hx hB hrd hl hbase fun g cap w' h1 h2 _ => h g cap w' h1 h2
end
section
variable {ops : Array Oper} {o : Oper} {a : Act} {w : World} {K : Act → World → Prop} {Q : Exit → Act → World → Prop} {Z : Prop}
/-- 'append(out, src...)' of bytes -/
theorem step_appB (hgd : o.guard = none) (s x : Operand) (ho : o.op = .call { callee := .builtin .append, args := #[s, x], argTypes := #[27, 27] })
    (base : Nat) (v : Value) (l : List UInt8) (hs : a.eval s = v) (hown : OB base w v l) (A : Nat → Prop) (sv : Value) (m : List UInt8)
    (hx : a.eval x = sv) (hsl : RB A w sv m) (hl : l.length + m.length ≤ 1000000) (hbase : base ≤ w.heap.size)
    (h : ∀ v' w', OB base w' v' (l ++ m) → Below base w w' → w.grownBy w' v.ownBlock → K (a.put o.dst v') w') : if Region.wanted o (yielded ops a.tmps) = true then Oper.wp Tryz.prog o a w K Q else Z := by
  have hw : Region.wanted o (yielded ops a.tmps) = true := by simp [Region.wanted, hgd]
  rw [if_pos hw]
  obtain ⟨i0, hi, hz0, hz1, hz2⟩ := info_parts infoByte
  have key : ∃ v' w', (Builtin.append_ #[27, 27] o.type #[v, sv]).run Tryz.prog w = .ok v' w' ∧ w'.ownsRow base 5 1 v' (l.length + m.length) (l.map bv ++ m.map bv) ∧ w.grownBy w' v.ownBlock := by
    rcases hsl.2 with ⟨⟨a0, rfl⟩, h0⟩ | ⟨b, off, cap, rfl, hl2, hA, hc, hcell⟩
    · obtain rfl : m = [] := List.eq_nil_of_length_eq_zero h0
      cases a0 with
      | none =>
        exact ⟨v, w, run_append_owned_none (P := Tryz.prog) (w := w) base 27 o.type 5 i0 1 Tryz.underlying27 hi v l.length (l.map bv) hown, (by simpa using (show w.ownsRow base 5 1 v l.length (l.map bv) from hown)), World.grownBy.refl w _⟩
      | some p =>
        obtain ⟨v', w', h1, h2, h3, -⟩ := run_append_own_at (P := Tryz.prog) w base 27 o.type 5 i0 (.int .u8 0) 1 1 Tryz.underlying27 hi hz0 hz1 hz2 rfl (by decide) v l.length (l.map bv) hown p 0 0 [] (by simp) (fun j u hj => by simp at hj) (by simp) (by unfold maxLen; simp at hl; omega) (by simp at hl; omega) hbase
        exact ⟨v', w', h1, by simpa using h2, h3⟩
    · obtain ⟨v', w', h1, h2, h3, -⟩ := run_append_own_at (P := Tryz.prog) w base 27 o.type 5 i0 (.int .u8 0) 1 1 Tryz.underlying27 hi hz0 hz1 hz2 rfl (by decide) v l.length (l.map bv) hown ⟨b, off, none⟩ m.length cap (m.map bv) (by simp) (fun j u hj => by
        have hjl : j < m.length := by have := (List.getElem?_eq_some_iff.1 hj).1; simpa using this
        rw [add_plain, hcell j (by omega), hj]) (one_bytes m) (by unfold maxLen; omega) (by omega) hbase
      exact ⟨v', w', h1, h2, h3⟩
  obtain ⟨v', w', hr, h4, h5⟩ := key
  unfold Oper.wp execOp
  simp only [ho, resolve, invoke, builtin, Sem.run_bind, Sem.run_pure, Result.andThen_ok, List.map_toArray, List.map_cons, List.map_nil, hs, hx, hr]
  exact h v' w' (OB.cast h4 (by simp) (by simp)) ((Below.refl base w).grown h5 hbase fun j hj => (hown.lt j hj).1) h5
end
end Go.Proofs.YtlgefkaafoidmaaGreatDoor
