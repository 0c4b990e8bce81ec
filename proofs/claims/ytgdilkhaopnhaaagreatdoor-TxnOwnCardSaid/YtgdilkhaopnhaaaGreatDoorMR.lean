/- Rows of bytes that are turned in place: what stays. No function is named. append of a row of bytes, and of a datum to a row whose data are the call's own, at a step of a region that draws. No function is named. A region that draws its order and whose last operation waits for all others: the others under a condition that holds till then. No program is named. The walk of terrazzolaw09.TxnOwn. -/
import Derived.Test.YtgdilkhaopnhaaaGreatDoorMA
import Derived.Test.YtgdilkhaopnhaaaGreatDoorObE
import Derived.Test.YtgdilkhaopnhaaaGreatDoorMC
import Derived.Test.YtgdilkhaopnhaaaGreatDoorRowS
import Derived.StillTail
import Derived.Deep.RegionHeld
import Derived.Test.YtgdilkhaopnhaaaGreatDoorMN
import Derived.Test.YtgdilkhaopnhaaaGreatDoorRd9
import Derived.StillTailTactics
namespace Go.Proofs.YtgdilkhaopnhaaaGreatDoor
open Go.RowKit Go.WideShapes

/-- a block whose cells from off on, n of them, are bytes -/
def IsB (w : World) (b off n : Nat) : Prop := ∃ cs, w.heap[b]? = some (.cells cs 5 (0, 0)) ∧ ∀ i, i < n → ∃ z : Int, cs[off + i]? = some (.int .u8 z)
/-- nothing but bytes of rows from base on has turned -/
structure XR (base : Nat) (w W : World) : Prop where
  bl : Below base w W
  size : W.heap.size = w.heap.size
  keep : ∀ b : Nat, (∀ cs, w.heap[b]? ≠ some (Obj.cells cs 5 (0, 0))) → W.heap[b]? = w.heap[b]?
  byt : ∀ b off n, IsB w b off n → IsB W b off n
theorem XR.refl (base : Nat) (w : World) : XR base w w := ⟨Below.refl _ _, rfl, fun _ _ => rfl, fun _ _ _ h => h⟩
theorem XR.drew {base : Nat} {w W : World} (h : XR base w W) : XR base w W.drew := ⟨h.bl.drew, h.size, h.keep, h.byt⟩
theorem XR.set {base g off n : Nat} {w W : World} (h : XR base w W) (hg : base ≤ g) (hb : IsB w g off n) (j : Nat) (z : Int) : XR base w (W.setCell ⟨g, j, none⟩ (.int .u8 z)) := by
  refine ⟨Below.setCell h.bl hg _, by simpa [World.setCell] using h.size, fun b hk => ?_, fun b off m hm => ?_⟩
  · have hne : b ≠ g := by
      rintro rfl
      obtain ⟨cs, e, -⟩ := hb
      exact hk cs e
    exact (Below.heap_setCell _ _ _ _ hne).trans (h.keep b hk)
  · obtain ⟨cs, e1, e3⟩ := h.byt b off m hm
    by_cases hbg : b = g
    · subst hbg
      refine ⟨cs.setIfInBounds j (.int .u8 z), by simp [World.setCell, Array.getElem?_modify, e1], fun i hi => ?_⟩
      obtain ⟨y, hy⟩ := e3 i hi
      by_cases hij : j = off + i
      · subst hij
        have := (Array.getElem?_eq_some_iff.1 hy).1
        exact ⟨z, by rw [Array.getElem?_setIfInBounds_self_of_lt this]⟩
      · exact ⟨y, by rw [Array.getElem?_setIfInBounds_ne hij]; exact hy⟩
    · exact ⟨cs, (Below.heap_setCell _ _ _ _ hbg).trans e1, e3⟩
theorem IsB.cell {w : World} {b off n i : Nat} (h : IsB w b off n) (hi : i < n) : ∃ z : Int, w.cell? ⟨b, off + i, none⟩ = some (.int .u8 z) ∧ w.frozen? ⟨b, off + i, none⟩ = false ∧ b < w.heap.size := by
  obtain ⟨cs, e1, e3⟩ := h
  obtain ⟨z, hz⟩ := e3 i hi
  obtain ⟨k1, k2⟩ := blk_cell (i := off + i) e1
  exact ⟨z, k1.trans hz, k2, (Array.getElem?_eq_some_iff.1 e1).1⟩
/-- a block of another type stays -/
theorem XR.box {base p : Nat} {w W : World} {cs : Array Value} {t : TypeId} {fr : Nat × Nat} (h : XR base w W) (hp : w.heap[p]? = some (.cells cs t fr)) (ht : t ≠ 5) : W.heap[p]? = some (.cells cs t fr) := by
  rw [h.keep p fun cs' e => ?_]
  · exact hp
  rw [hp] at e
  simp only [Option.some.injEq, Obj.cells.injEq] at e
  exact ht e.2.1
theorem RB.isB {A : Nat → Prop} {base c : Nat} {a : Option Addr} {w : World} {l : List UInt8} (h : RB A w (.slice a l.length c) l) (hA : ∀ b, A b → base ≤ b ∧ U8 w b) (h0 : 0 < l.length) : ∃ g off, a = some ⟨g, off, none⟩ ∧ base ≤ g ∧ IsB w g off l.length := by
  obtain ⟨b, off, e, h1, h2, h3, h4⟩ := SlA.at h h0
  obtain ⟨k1, cs, k2⟩ := hA b h2
  refine ⟨b, off, e, k1, cs, k2, fun i hi => ?_⟩
  have h5 := h4 i (by omega)
  rw [(blk_cell (i := off + i) k2).1, List.getElem?_map, List.getElem?_eq_getElem hi] at h5
  exact ⟨_, h5⟩
/-- the keys' row of an object of the call's own: where it lies, what stands in it -/
theorem own8_row {base : Nat} {w : World} {a c u q} {o : ObD} (h : Own8 base w (.slice a o.data.length c) (.slice u o.keys.length q) o) (h0 : 0 < o.keys.length) :
    ∃ g cs, u = some ⟨g, 0, Option.none⟩ ∧ w.heap[g]? = some (.cells cs 47 (0, 0)) ∧ o.keys.length ≤ q ∧ ∀ i (hi : i < o.keys.length), ∃ b d, cs[i * 2 + 1]? = some (.slice b (o.keys[i]).value.length d) ∧
      (0 < (o.keys[i]).value.length → (o.keys[i]).value.length ≤ d ∧ ∃ k off, b = some ⟨k, off, Option.none⟩ ∧ base ≤ k ∧ IsB w k off (o.keys[i]).value.length) := by
  obtain ⟨cs, ho, hc⟩ := h.ex
  rcases ho.2 with ⟨e, h1⟩ | ⟨g, cap, cur, e, hbg, hg, hnc, hcm, hcs, ht⟩
  · omega
  · simp only [Value.slice.injEq] at e
    obtain ⟨rfl, -, rfl⟩ := e
    refine ⟨g, cur, rfl, hg, hnc, fun i hi => ?_⟩
    obtain ⟨v, hv, hr⟩ := hc.last hi
    obtain ⟨b, d, rfl⟩ := hr.shape
    refine ⟨b, d, ?_, fun h2 => ?_⟩
    · have h3 := World.ownsRow.cellAt ho (i * 2 + 1) (by omega)
      rw [(blk_cell hg).1] at h3
      exact h3.trans hv
    · obtain ⟨k, off, e1, e2, e3⟩ := hr.isB (base := base) (fun b hb => ⟨hb.1, hb.2.2.2⟩) h2
      obtain ⟨_, _, _, _, _, h4, _⟩ := SlA.at hr h2
      exact ⟨h4, k, off, e1, e2, e3⟩
theorem OB.isB {base c : Nat} {a : Option Addr} {w : World} {l : List UInt8} (h : OB base w (.slice a l.length c) l) (h0 : 0 < l.length) : l.length ≤ c ∧ ∃ g off, a = some ⟨g, off, none⟩ ∧ base ≤ g ∧ IsB w g off l.length := by
  obtain ⟨_, _, _, _, _, h4, _⟩ := SlA.at h.rb h0
  exact ⟨h4, h.rbU.isB (fun b hb => hb) h0⟩
end Go.Proofs.YtgdilkhaopnhaaaGreatDoor
namespace Go.Proofs.YtgdilkhaopnhaaaGreatDoor
open Go.RowKit Go.WideShapes

theorem three_f {w : World} {p : Nat} {a b c : Value} {t : TypeId} (h : w.heap[p]? = some (.cells #[a, b, c] t (0, 0))) :
    (w.cell? ⟨p, 0, none⟩ = some a ∧ w.frozen? ⟨p, 0, none⟩ = false) ∧ (w.cell? ⟨p, 1, none⟩ = some b ∧ w.frozen? ⟨p, 1, none⟩ = false) ∧ (w.cell? ⟨p, 2, none⟩ = some c ∧ w.frozen? ⟨p, 2, none⟩ = false) ∧ p < w.heap.size :=
  ⟨blk_cell h, blk_cell h, blk_cell h, (Array.getElem?_eq_some_iff.1 h).1⟩
section
variable {P : Program} {ops : Array Oper} {o : Oper} {a : Act} {K : Act → World → Prop} {Q : Exit → Act → World → Prop} {Z : Prop}
/-- 'append(out, x)': out of the call's own, x one datum whose parts are the call's own too -/
theorem step_pushR {α : Type} (w : World) (hgd : o.guard = none) (s x : Operand) (t : TypeId) (ho : o.op = .call { callee := .builtin .append, args := #[s, x], argTypes := #[t, t] })
    (E : Enc α) (base : Nat) (e : TypeId) (i : TypeInfo) (z : Value) (bytes : Nat) (ht : P.underlying t = some (.slice e)) (hi : P.info? e = some i) (hz : i.zero = some z)
    (hsize : i.size = E.size) (hby : i.bytes = bytes) (hzs : z.cells.size = E.size) (hsz : 0 < E.size) (hbb : bytes ≤ 1000)
    (v : Value) (l : List α) (n : Nat) (hn : l.length = n) (hs : a.eval s = v) (hown : EnR E e base w v l) (B : Nat) (c : List Value) (tt : TypeId) (y : α)
    (hx : a.eval x = .slice (some ⟨B, 0, none⟩) 1 1) (hB : w.heap[B]? = some (.cells c.toArray tt (0, 0))) (hrd : E.rd (fun b => base ≤ b ∧ v.ownBlock ≠ some b) w c y)
    (hl : l.length ≤ 1000000) (hbase : base ≤ w.heap.size)
    (h : ∀ g cap w', EnR E e base w' (.slice (some ⟨g, 0, none⟩) (n + 1) cap) (l ++ [y]) → Below base w w' → K (a.put o.dst (.slice (some ⟨g, 0, none⟩) (n + 1) cap)) w') :
    if Region.wanted o (yielded ops a.tmps) = true then Oper.wp P o a w K Q else Z := by
  subst hn
  obtain ⟨cs, h1, h2, h3⟩ := hown.ex
  refine step_append_lies w hgd s x t ho base e i z E.size bytes ht hi hz hsize hby hzs hsz v l.length cs.flatten hs h3 ⟨B, 0, none⟩ 1 1 c hx (by rw [Nat.one_mul]; exact E.len hrd) (fun j u hj => World.news_of_block hB j u (by simpa using hj)) (E.one hrd) (by decide) (by unfold maxLen; omega) ?_ hbase w.heap.size rfl ?_
  · exact Nat.le_trans (Nat.mul_le_mul (show l.length + 1 ≤ 1000001 by omega) hbb) (by decide)
  · intro g cap w' h4 h5 h6 _
    have hb : Below base w w' := (Below.refl base w).grown h5 hbase fun j hj => (h3.lt j hj).1
    have hsame : Same (fun b => base ≤ b ∧ v.ownBlock ≠ some b) w w' := ⟨hb.size, fun b hb hl => h5.block b hl fun e => hb.2 e.symm⟩
    have hmv : ∀ b, b < w.heap.size → (base ≤ b ∧ v.ownBlock ≠ some b) → (base ≤ b ∧ (Value.slice (some ⟨g, 0, none⟩) (l.length + 1) cap).ownBlock ≠ some b) := fun b hl hb => by
      refine ⟨hb.1, fun e => ?_⟩
      have e2 : g = b := Option.some.inj e
      rcases h6 with h6 | h6
      · exact hb.2 (by rw [h6, e2])
      · omega
    have key : ∀ c y, E.rd (fun b => base ≤ b ∧ v.ownBlock ≠ some b) w c y → E.rd (fun b => base ≤ b ∧ (Value.slice (some ⟨g, 0, none⟩) (l.length + 1) cap).ownBlock ≠ some b) w' c y := fun c y h =>
      E.weak (E.mono (E.weak h (A' := fun b => (base ≤ b ∧ v.ownBlock ≠ some b) ∧ b < w.heap.size) fun b hl hb => ⟨hb, hl⟩) (hsame.weak fun b hb => hb.1)) fun b _ hb => hmv b hb.2 hb.1
    refine h g cap w' ⟨⟨cs ++ [c], by simp [h1], fun i y d hi hd => ?_, by simpa using h4⟩⟩ hb
    by_cases hlt : i < l.length
    · rw [List.getElem?_append_left hlt] at hi
      rw [List.getElem?_append_left (by omega)] at hd
      exact key _ _ (h2 i y d hi hd)
    · have hil := (List.getElem?_eq_some_iff.1 hi).1
      simp only [List.length_append, List.length_singleton] at hil
      have : i = l.length := by omega
      subst this
      rw [List.getElem?_append_right (by omega)] at hi hd
      simp [h1] at hi hd
      subst hi hd
      exact key _ _ hrd
end
section
variable {ops : Array Oper} {o : Oper} {a : Act} {w : World} {K : Act → World → Prop} {Q : Exit → Act → World → Prop} {Z : Prop}
/-- 'append(out, src...)' of bytes -/
theorem step_appB (hgd : o.guard = none) (s x : Operand) (ho : o.op = .call { callee := .builtin .append, args := #[s, x], argTypes := #[22, 22] })
    (base : Nat) (v : Value) (l : List UInt8) (hs : a.eval s = v) (hown : OB base w v l) (A : Nat → Prop) (sv : Value) (m : List UInt8)
    (hx : a.eval x = sv) (hsl : RB A w sv m) (hl : l.length + m.length ≤ 1000000) (hbase : base ≤ w.heap.size)
    (h : ∀ v' w', OB base w' v' (l ++ m) → Below base w w' → w.grownBy w' v.ownBlock → K (a.put o.dst v') w') : if Region.wanted o (yielded ops a.tmps) = true then Oper.wp Tryz.prog o a w K Q else Z := by
  have hw : Region.wanted o (yielded ops a.tmps) = true := by simp [Region.wanted, hgd]
  rw [if_pos hw]
  obtain ⟨i0, hi, hz0, hz1, hz2⟩ := info_parts infoByte
  have key : ∃ v' w', (Builtin.append_ #[22, 22] o.type #[v, sv]).run Tryz.prog w = .ok v' w' ∧ w'.ownsRow base 5 1 v' (l.length + m.length) (l.map bv ++ m.map bv) ∧ w.grownBy w' v.ownBlock := by
    rcases hsl.2 with ⟨⟨a0, rfl⟩, h0⟩ | ⟨b, off, cap, rfl, hl2, hA, hc, hcell⟩
    · obtain rfl : m = [] := List.eq_nil_of_length_eq_zero h0
      cases a0 with
      | none =>
        exact ⟨v, w, run_append_owned_none (P := Tryz.prog) (w := w) base 22 o.type 5 i0 1 Tryz.underlying22 hi v l.length (l.map bv) hown, (by simpa using (show w.ownsRow base 5 1 v l.length (l.map bv) from hown)), World.grownBy.refl w _⟩
      | some p =>
        obtain ⟨v', w', h1, h2, h3, -⟩ := run_append_own_at (P := Tryz.prog) w base 22 o.type 5 i0 (.int .u8 0) 1 1 Tryz.underlying22 hi hz0 hz1 hz2 rfl (by decide) v l.length (l.map bv) hown p 0 0 [] (by simp) (fun j u hj => by simp at hj) (by simp) (by unfold maxLen; simp at hl; omega) (by simp at hl; omega) hbase
        exact ⟨v', w', h1, by simpa using h2, h3⟩
    · obtain ⟨v', w', h1, h2, h3, -⟩ := run_append_own_at (P := Tryz.prog) w base 22 o.type 5 i0 (.int .u8 0) 1 1 Tryz.underlying22 hi hz0 hz1 hz2 rfl (by decide) v l.length (l.map bv) hown ⟨b, off, none⟩ m.length cap (m.map bv) (by simp) (fun j u hj => by
        have hjl : j < m.length := by have := (List.getElem?_eq_some_iff.1 hj).1; simpa using this
        rw [add_plain, hcell j (by omega), hj]) (one_bytes m) (by unfold maxLen; omega) (by omega) hbase
      exact ⟨v', w', h1, h2, h3⟩
  obtain ⟨v', w', hr, h4, h5⟩ := key
  unfold Oper.wp execOp
  simp only [ho, resolve, invoke, builtin, Sem.run_bind, Sem.run_pure, Result.andThen_ok, List.map_toArray, List.map_cons, List.map_nil, hs, hx, hr]
  exact h v' w' (OB.cast h4 (by simp) (by simp)) ((Below.refl base w).grown h5 hbase fun j hj => (hown.lt j hj).1) h5
end
end Go.Proofs.YtgdilkhaopnhaaaGreatDoor
namespace Go.Proofs.YtgdilkhaopnhaaaGreatDoor
open Go

/-- every edge goes back -/
def backB (md : Region.Mode) (ops : Array Oper) : Bool :=
  (List.range ops.size).all fun j => match ops[j]? with
    | some oj => oj.after.all fun e => !Region.binds md e || decide (e.on < j)
    | none => true
section
variable {P : Program} {ops : Array Oper} {md : Region.Mode} {Q : Exit → Act → World → Prop} {S : World → Prop}
theorem backB_spec (h : backB md ops = true) {j : Nat} {oj : Oper} (hj : ops[j]? = some oj) : ∀ e ∈ oj.after, Region.binds md e = true → e.on < j := by
  intro e he hb
  have h1 := List.all_eq_true.1 h j (List.mem_range.2 (Array.getElem?_eq_some_iff.1 hj).1)
  simp only [hj] at h1
  have h2 := Array.all_eq_true'.1 h1 e he
  simpa [hb] using h2
/-- what is asked behind a region whose last operation has yet to come -/
def SinkQ (P : Program) (ops : Array Oper) (n : Nat) (Q : Exit → Act → World → Prop) : Exit → Act → World → Prop
  | .normal, a, w => wpOp P ops Q n (Q .normal) a w
  | .exit i, a, w => Q (.exit i) a w
  | .goto i, a, w => Q (.goto i) a w
  | .ret, a, w => Q .ret a w
  | .panic c, a, w => Q (.panic c) a w
  | .outgrown, a, w => Q .outgrown a w
theorem SinkQ.imp {n : Nat} : ∀ (e : Exit) (a : Act) (w : World), e ≠ .normal → SinkQ P ops n Q e a w → Q e a w := by
  intro e a w he h
  cases e <;> first | exact absurd rfl he | exact h
theorem wp_monoQ {o : Oper} {a : Act} {w : World} {K K' : Act → World → Prop} {Q' : Exit → Act → World → Prop} (h : ∀ a w, K a w → K' a w) (hq : ∀ (e : Exit) a w, e ≠ .normal → Q' e a w → Q e a w)
    (hh : o.wp P a w K Q') : o.wp P a w K' Q := by
  have ho : LetsOut Q' → LetsOut Q := fun ⟨a, w, q⟩ => ⟨a, w, hq _ _ _ (by simp) q⟩
  unfold Oper.wp at *
  generalize (execOp a.eval o).run P w = r at *
  cases r with
  | ok n w' =>
    cases n <;> simp only [Oper.upon] at hh ⊢ <;>
      first
        | exact h _ _ hh
        | exact Calls.mono hh (fun e w'' he => by cases e <;> first | exact h _ _ he | exact hq _ _ _ (by simp) he | exact ho he)
        | exact Rows.mono hh (fun _ _ he => h _ _ he)
        | exact hq _ _ _ (by simp) hh
  | halt x w' => cases x <;> simp only [Oper.upon] at hh ⊢ <;> first | exact hh | exact hq _ _ _ (by simp) hh | exact ho hh
theorem wpOp_monoQ {i : Nat} {a : Act} {w : World} {K K' : Act → World → Prop} {Q' : Exit → Act → World → Prop} (h : ∀ a w, K a w → K' a w) (hq : ∀ (e : Exit) a w, e ≠ .normal → Q' e a w → Q e a w)
    (hh : wpOp P ops Q' i K a w) : wpOp P ops Q i K' a w := by
  have ho : LetsOut Q' → LetsOut Q := fun ⟨a, w, q⟩ => ⟨a, w, hq _ _ _ (by simp) q⟩
  unfold wpOp at *
  split
  · exact h _ _ (by simpa [*] using hh)
  · rename_i o h0
    simp only [h0] at hh
    split
    · rename_i hw; simp only [hw, if_true] at hh; exact hh.imp (wp_monoQ h hq) fun hx => ⟨hx.1, ho hx.2⟩
    · rename_i hw; simp only [hw] at hh; exact h _ _ hh
theorem least_ready {n : Nat} {listed : Array Bool} (hb : backB md ops = true) (hn : n + 1 = ops.size) (inv : HeadInv md ops n listed) :
    ∀ (i : Nat), i < n → listed.getD i true = false → ∃ j, j < n ∧ j ∈ Region.ready md ops listed := by
  intro i
  induction i using Nat.strongRecOn with
  | _ i ih =>
    intro hi hu
    by_cases h : ∃ j, j < i ∧ listed.getD j true = false
    · obtain ⟨j, hj, hj2⟩ := h
      exact ih j hj (by omega) hj2
    · have hio : i < ops.size := by omega
      refine ⟨i, hi, mem_ready.2 ⟨hu, ops[i], by simp [hio], fun e he hbe => ?_⟩⟩
      have hlt := backB_spec hb (show ops[i]? = some ops[i] by simp [hio]) e he hbe
      have hs := inv.size
      have h2 : listed.getD e.on true ≠ false := fun h3 => h ⟨e.on, hlt, h3⟩
      have hl : e.on < listed.size := by omega
      simp [hl] at h2 ⊢
      exact h2
theorem ready_sink {n j : Nat} {listed : Array Bool} (hb : backB md ops = true) (hn : n + 1 = ops.size) (hj : j ≠ n) : j ∈ Region.ready md ops (listed.setIfInBounds n true) ↔ j ∈ Region.ready md ops listed := by
  constructor
  · intro h
    obtain ⟨h0, o, ho, hall⟩ := mem_ready.1 h
    have hlt : j < ops.size := (Array.getElem?_eq_some_iff.1 ho).1
    refine mem_ready.2 ⟨by rw [← getD_set_ne true (Ne.symm hj)]; exact h0, o, ho, fun e he hbe => ?_⟩
    have h1 := hall e he hbe
    have h2 := backB_spec hb ho e he hbe
    rwa [getD_set_ne false (by omega)] at h1
  · exact fun h => ready_mono h hj
theorem sink_ready {n : Nat} {listed : Array Bool} (hb : backB md ops = true) (hn : n + 1 = ops.size) (inv : HeadInv md ops n listed) (h : ∀ i, i < n → listed.getD i true ≠ false) : Region.ready md ops listed = [n] ∧ Region.ready md ops (listed.setIfInBounds n true) = [] := by
  have hno : ops[n]? = some (ops[n]'(by omega)) := by simp
  have hr : ∀ j, j ∈ Region.ready md ops listed ↔ j = n := by
    intro j
    constructor
    · intro hj
      obtain ⟨h0, o, ho, -⟩ := mem_ready.1 hj
      have hlt : j < ops.size := (Array.getElem?_eq_some_iff.1 ho).1
      by_cases hjn : j < n
      · exact absurd h0 (h j hjn)
      · omega
    · rintro rfl
      refine mem_ready.2 ⟨inv.tail _ (Nat.le_refl _) (by omega), _, hno, fun e he hbe => ?_⟩
      have h2 := backB_spec hb hno e he hbe
      have h3 := h e.on h2
      have hl : e.on < listed.size := by rw [inv.size]; omega
      simp [hl] at h3 ⊢
      exact h3
  constructor
  · have h1 : (Region.ready md ops listed).Nodup := by unfold Region.ready; exact List.Pairwise.filter _ List.nodup_range
    cases hl : Region.ready md ops listed with
    | nil => have := (hr n).2 rfl; rw [hl] at this; cases this
    | cons x xs =>
      rw [hl] at h1 hr
      obtain rfl := (hr x).1 (by simp)
      cases xs with
      | nil => rfl
      | cons y ys =>
        obtain rfl := (hr y).1 (by simp)
        simp at h1
  · refine List.eq_nil_iff_forall_not_mem.2 fun j hj => ?_
    obtain ⟨h0, o, ho, -⟩ := mem_ready.1 hj
    have hlt : j < ops.size := (Array.getElem?_eq_some_iff.1 ho).1
    by_cases hjn : j = n
    · subst hjn
      have hl : j < listed.size := by rw [inv.size]; omega
      simp [hl] at h0
    · exact hjn ((hr j).1 ((ready_sink hb hn hjn).1 hj))
theorem wpAny_sink {n : Nat} (hs : Region.sinkB md ops n = true) (hc : Region.chainB md ops n = true) (hb : backB md ops = true) (hn : n + 1 = ops.size) :
    ∀ (fuel : Nat) (listed : Array Bool) (a : Act) (w : World), HeadInv md ops n listed → wpAny P md ops (SinkQ P ops n Q) fuel (listed.setIfInBounds n true) a w → wpAny P md ops Q (fuel + 1) listed a w := by
  intro fuel
  induction fuel with
  | zero =>
    intro listed a w inv H
    have hall : ∀ i, i < n → listed.getD i true ≠ false := fun i hi hu => by
      obtain ⟨j, hj, hjr⟩ := least_ready hb hn inv i hi hu
      have := (ready_sink hb hn (Nat.ne_of_lt hj)).2 hjr
      rw [H.1] at this
      cases this
    obtain ⟨h1, h2⟩ := sink_ready hb hn inv hall
    refine ⟨fun h => (by rw [h1] at h; cases h), fun i hi => ?_⟩
    rw [h1] at hi
    obtain rfl := List.mem_singleton.1 hi
    exact wpOp_mono (fun a' w' h => ⟨h2, h⟩) H.2
  | succ fuel ih =>
    intro listed a w inv H
    by_cases hex : ∃ i, i < n ∧ listed.getD i true = false
    · obtain ⟨i0, hi0, hu0⟩ := hex
      have hnr : n ∉ Region.ready md ops listed := tail_waits hs hc (by omega) inv _ i0 rfl hi0 hu0 n (Nat.le_refl _)
      refine ⟨fun h => ?_, fun i hi => ?_⟩
      · obtain ⟨j, _, hjr⟩ := least_ready hb hn inv i0 hi0 hu0
        rw [h] at hjr
        cases hjr
      · have hin : i ≠ n := fun e => hnr (e ▸ hi)
        have hlt : i < n := by
          obtain ⟨_, o, ho, _⟩ := mem_ready.1 hi
          have := (Array.getElem?_eq_some_iff.1 ho).1
          omega
        refine wpOp_monoQ (fun a' w' h => ih _ a' w' (inv.set hi hlt) ?_) SinkQ.imp (H.2 i ((ready_sink hb hn hin).2 hi))
        rw [Array.setIfInBounds_comm _ _ hin]
        exact h
    · have hall : ∀ i, i < n → listed.getD i true ≠ false := fun i hi hu => hex ⟨i, hi, hu⟩
      obtain ⟨h1, h2⟩ := sink_ready hb hn inv hall
      refine ⟨fun h => (by rw [h1] at h; cases h), fun i hi => ?_⟩
      rw [h1] at hi
      obtain rfl := List.mem_singleton.1 hi
      exact wpOp_mono (fun a' w' h => wpAny_done h2 h _) (H.1 h2)
/-- the end: the last operation -/
theorem sink_end {n : Nat} {o : Oper} {a : Act} {w : World} (ho : ops[n]? = some o) (h : ∀ K' : Act → World → Prop, (∀ a w, Q .normal a w → K' a w) → if Region.wanted o (yielded ops a.tmps) = true then Oper.wp P o a w K' Q else K' (a.put o.dst undef) w) : SinkQ P ops n Q .normal a w := wpOp_step ho h
/-- the beginning: the last operation, number n, is left to the end -/
theorem wp_region_sink {id n : Nat} {a : Act} {w : World} (S : World → Prop) (hm : P.follows .mixedOrders = true) (hs : Region.sinkB .any ops n = true) (hc : Region.chainB .any ops n = true) (hb : backB .any ops = true) (hn : ops.size = n + 1)
    (hS : S w.drew) (h : S w.drew → wpAnyH P .any ops (SinkQ P ops n Q) S n ((Array.replicate (n + 1) false).setIfInBounds n true) a w.drew) : (Code.region id ops true).wp P Q a w := by
  refine wp_region_any hm ?_
  rw [hn]
  refine wpAny_sink hs hc hb hn.symm n _ a _ ⟨by simp [hn], fun j oj _ hl => ?_, fun t h1 h2 => ?_⟩ (wpAny_of_held _ _ _ _ (h hS))
  · rw [getD_replicate_false] at hl
    cases hl
  · have : t < n + 1 := by omega
    simp [this]
end
end Go.Proofs.YtgdilkhaopnhaaaGreatDoor
namespace Go.Proofs.YtgdilkhaopnhaaaGreatDoor
open Go.RowKit Go.WideShapes

theorem runT_mayo : ∀ (l : List OpD) (o : ObD) (th : Bool), mayB o = true → (th = false → o = ObD.none) → mayB (runT o th l).o = true
  | [], o, th, hm, _ => hm
  | op :: l, o, th, hm, hn => by
    have hs := stay_of (op := op) hm hn
    by_cases h0 : (doB o th op).e = 0
    · cases hon : (doB o th op).on with
      | true => rw [runT_go h0 hon]; exact runT_mayo l _ _ (hs.may h0) (hs.nn h0)
      | false => rw [runT_halt h0 hon]; exact hs.may h0
    · rw [runT_bad h0]; exact mayB_none
theorem txDo_small (o : ObD) (th : Bool) (t : TxD) : (txDo o th t).o.data.length ≤ 1000000 ∧ (txDo o th t).o.keys.length ≤ 1000000 ∧ ∀ k ∈ (txDo o th t).o.keys, k.value.length ≤ 1000000 := by
  have h : mayB (txDo o th t).o = true := by
    by_cases h1 : txE t = 0
    · by_cases h2 : mayB o = true
      · rw [txDo_run h1 h2]
        exact runT_mayo _ _ _ (mayB_of h2) fun h => by rw [h]; rfl
      · rw [txDo_may h1 (by simpa using h2)]; exact mayB_none
    · rw [txDo_chk h1]; exact mayB_none
  have := okl_of h
  exact ⟨Nat.le_trans this.data (by decide), Nat.le_trans this.keys (by decide), fun k hk => Nat.le_trans (this.vals k hk) (by decide)⟩
theorem box_apart {base p : Nat} {w : World} {v a b c : Value} {l : List UInt8} (h : OB base w v l) (hb : w.heap[p]? = some (.cells #[a, b, c] 25 (0, 0))) (x y z : Value) :
    RB (fun b => b ≠ p) (((w.setCell ⟨p, 0, none⟩ x).setCell ⟨p, 1, none⟩ y).setCell ⟨p, 2, none⟩ z) v l := by
  have h1 : RB (fun b => b ≠ p) w v l := h.rbU.weak fun b _ hu e => by
    obtain ⟨cs, h2⟩ := hu.2
    rw [e, hb] at h2
    simp only [Option.some.injEq, Obj.cells.injEq] at h2
    exact absurd h2.2.1 (by decide)
  exact h1.mono ⟨by simp [World.setCell], fun b hb _ => set3_ne _ _ _ _ _ hb⟩
set_option maxRecDepth 100000 in
set_option maxHeartbeats 16000000 in
theorem town_law (A B : Nat → Prop) (v : Value) (o : ObD) (la : Option Addr) (lc : Nat) (l : List OpD) (w : World) (hE : ErrT w) (hv : ObV A w v o) (h : SlE Enc.op B w (.slice la l.length lc) l) :
    Calls Tryz.prog 8 #[v, .slice la l.length lc] w (Says true w) := by
  obtain ⟨dva, kva, rfl, hda, hka⟩ := hv
  obtain ⟨da, dc, rfl⟩ := hda.shape
  obtain ⟨ka, kc, rfl⟩ := hka.shape
  have HA : Hid (ObV A w _ o) := Lib.hid ⟨_, _, rfl, hda, hka⟩
  have HS := Lib.hid h
  have HE := Lib.hid hE
  obtain ⟨i0, hi, hz0, hz1, hz2⟩ := info_parts infoKey
  clear hda hka h hE
  go_enter Tryz.func8, Tryz.ntmps8
  go_wp2_with fail
  obtain ⟨w0, hw0⟩ : ∃ w0, w0 = w.alloc (.cells #[.slice da o.data.length dc, .slice ka o.keys.length kc, .int .i64 o.seq] 25) := ⟨_, rfl⟩
  rw [← hw0]
  have b0 : w0.heap[w.heap.size]? = some (.cells #[.slice da o.data.length dc, .slice ka o.keys.length kc, .int .i64 o.seq] 25 (0, 0)) := by rw [hw0]; exact heap_alloc_new _ _
  have hw : Below w.heap.size w w0 := by rw [hw0]; ((repeat' (first | exact Below.refl _ _ | refine below_drewN ?_ _ | refine Below.drew ?_ | refine Below.alloc ?_ ?_ _ | refine Below.trans ?_ (Below.mono (by assumption) ?_))); all_goals (first | exact Nat.le_refl _ | exact Below.size (by assumption) | omega | (simp; done) | (simp; omega)))
  clear hw0
  refine (awake9_any _ (HE.out.ext hw)).mono ?_
  rintro e w1 ⟨rfl, hb1⟩
  have HW1 := Lib.hid (dcall hw hb1)
  have P1 := Lib.hid (dblk hb1 b0)
  clear hb1 b0 hw
  go_upto_region 5 with fail
  obtain ⟨w2, hw2⟩ : ∃ w2, w2 = w1.alloc (.cells #[.string ⟨#[120]⟩, .slice la l.length lc] 28) := ⟨_, rfl⟩
  rw [← hw2]
  have hb2 : Below w1.heap.size w1 w2 := by rw [hw2]; ((repeat' (first | exact Below.refl _ _ | refine below_drewN ?_ _ | refine Below.drew ?_ | refine Below.alloc ?_ ?_ _ | refine Below.trans ?_ (Below.mono (by assumption) ?_))); all_goals (first | exact Nat.le_refl _ | exact Below.size (by assumption) | omega | (simp; done) | (simp; omega)))
  have R2 := Lib.hid (show w2.heap[w1.heap.size]? = some (.cells #[.string ⟨#[120]⟩, .slice la l.length lc] 28 (0, 0)) from by rw [hw2]; exact heap_alloc_new _ _)
  have P2 := Lib.hid (dblk hb2 P1.out)
  have HW2 := Lib.hid (dcall HW1.out hb2)
  clear hw2 hb2 P1 HW1
  obtain ⟨y0, e0⟩ := blk_cell (i := 0) (P2.out)
  obtain ⟨y1, e1⟩ := blk_cell (i := 1) (P2.out)
  obtain ⟨y2, e2⟩ := blk_cell (i := 2) (P2.out)
  simp at y0 y1 y2
  obtain ⟨t0, -⟩ := blk_cell (i := 0) R2.out
  obtain ⟨t1, -⟩ := blk_cell (i := 1) R2.out
  simp at t0 t1
  go_wp2_with fail
  refine (few9_any A B _ _ o ⟨⟨#[120]⟩, l⟩ _ (HA.out.ext HW2.out) (HS.out.ext HW2.out)).mono ?_
  rintro e w3 ⟨p1, rfl, hf1, hb3⟩
  have HF1 := Lib.hid hf1
  have HW3 := Lib.hid (dcall HW2.out hb3)
  have P3 := Lib.hid (dblk hb3 P2.out)
  have R3 := Lib.hid (dblk hb3 R2.out)
  clear hb3 P2 R2 HW2 hf1 y0 y1 y2 e0 e1 e2 t0 t1
  rcases p1 with _ | _
  · go_wp2
    go_ret
    exact ⟨rfl, HW3.out⟩
  by_cases hl12 : (12 : Int) < l.length
  · go_wp2
    go_ret
    exact ⟨rfl, HW3.out⟩
  have HFP := Lib.hid (HF1.out rfl)
  have hko := HFP.out.keys
  have HA3 : Hid (ObV (fun b => b < w3.heap.size) w3 (.agg #[.slice da o.data.length dc, .slice ka o.keys.length kc, .int .i64 o.seq]) o) := Lib.hid ((HA.out.ext HW3.out).weak fun b hb _ => hb)
  have HS3 := Lib.hid (HS.out.ext HW3.out)
  have HE3 := Lib.hid (HE.out.ext HW3.out)
  have HD3 := Lib.hid (obv_data HA3.out)
  have HK3 : Hid (SlE Enc.key (fun b => b < w3.heap.size) w3 (.slice ka o.keys.length kc) o.keys) := Lib.hid (by
    obtain ⟨d', k', e, h1, h2⟩ := HA3.out
    simp at e
    obtain ⟨rfl, rfl⟩ := e
    exact h2)
  have hdl := HFP.out.okl.data
  have hvl := Lib.hid HFP.out.okl.vals
  have hp3 : w.heap.size < w3.heap.size := (Array.getElem?_eq_some_iff.1 P3.out).1
  clear HA HS HE HF1
  obtain ⟨y0, e0⟩ := blk_cell (i := 0) (P3.out)
  obtain ⟨y1, e1⟩ := blk_cell (i := 1) (P3.out)
  obtain ⟨y2, e2⟩ := blk_cell (i := 2) (P3.out)
  simp at y0 y1 y2
  have hcells : Hid (∀ W, Below w3.heap.size w3 W → Below w3.heap.size w3 W ∧ W.cell? ⟨w.heap.size, 0, none⟩ = some (.slice da o.data.length dc) ∧ W.cell? ⟨w.heap.size, 2, none⟩ = some (.int .i64 o.seq)) := Lib.hid fun W h =>
    ⟨h, cellExt h y0, cellExt h y2⟩
  clear y0 y1 y2 e0 e1 e2
  go_upto_region 8 with fail
  go_cut [8] (fun q8 wx => ∃ (s : Nat) (a5 : Option Addr) (c5 : Nat), q8 = .pointer (some ⟨s, 0, none⟩) ∧ w3.heap.size ≤ s ∧ wx.heap[s]? = some (.cells #[.slice a5 o.data.length c5, .slice none 0 0, .int .i64 o.seq] 25 (0, 0)) ∧
      RB (fun b => b ≠ s) wx (.slice a5 o.data.length c5) o.data ∧ Below w3.heap.size w3 wx)
  case first =>
    go_region_held_law (fun W => Below w3.heap.size w3 W ∧ W.cell? ⟨w.heap.size, 0, none⟩ = some (.slice da o.data.length dc) ∧ W.cell? ⟨w.heap.size, 2, none⟩ = some (.int .i64 o.seq))
      ((refine hcells.out _ ?_; first
        | (with_reducible exact hz5)
        | (with_reducible exact Below.alloc hz5 hz5.size _)
        | (with_reducible exact below3 hz5 (by omega) _ _ _)
        | (with_reducible exact below3 (Below.alloc hz5 hz5.size _) hz5.size _ _ _)
        | ((repeat' (first | exact Below.refl _ _ | refine below_drewN ?_ _ | refine Below.drew ?_ | refine Below.alloc ?_ ?_ _ | refine Below.trans ?_ (Below.mono (by assumption) ?_))); all_goals (first | exact Nat.le_refl _ | exact Below.size (by assumption) | omega | (simp; done) | (simp; omega)))))
      (first
        | (refine step_appB (by rfl) _ _ (by rfl) w3.heap.size _ [] (by rfl) (OB.of_blk (t := []) (by first | exact heap_alloc_new w3 _ | exact (Below.heap_alloc _ _ _ (by simp)).trans (heap_alloc_new w3 _) | exact heap_alloc2_new w3 _ _) (by first | exact Nat.le_refl _ | (simp; done) | (simp; omega)) rfl rfl (by first | omega | (simp; done))) (fun b => b < w3.heap.size) _ o.data (by rfl) (RB.ext HD3.out (by ((repeat' (first | exact Below.refl _ _ | refine below_drewN ?_ _ | refine Below.drew ?_ | refine Below.alloc ?_ ?_ _ | refine Below.trans ?_ (Below.mono (by assumption) ?_))); all_goals (first | exact Nat.le_refl _ | exact Below.size (by assumption) | omega | (simp; done) | (simp; omega))))) (by simp; omega) (by first | (simp; done) | (simp; omega)) ?_
           intro v5 w5 ho5 hb5 hg5
           obtain ⟨a5, c5, rfl⟩ := ho5.rb.shape
           have hz5 : Below w3.heap.size w3 w5 := Below.trans (by ((repeat' (first | exact Below.refl _ _ | refine below_drewN ?_ _ | refine Below.drew ?_ | refine Below.alloc ?_ ?_ _ | refine Below.trans ?_ (Below.mono (by assumption) ?_))); all_goals (first | exact Nat.le_refl _ | exact Below.size (by assumption) | omega | (simp; done) | (simp; omega)))) hb5
           first
           | (have hb := (hg5.block (w3.heap.size + 1) (by first | (simp; done) | (simp; omega)) (by simp [Value.ownBlock])).trans (heap_alloc2_new w3 _ _)
              obtain ⟨⟨m0, n0⟩, ⟨m1, n1⟩, ⟨m2, n2⟩, m3⟩ := three_f hb)
           | (have hb := (hg5.block w3.heap.size (by first | (simp; done) | (simp; omega)) (by simp [Value.ownBlock])).trans ((Below.heap_alloc _ _ _ (by simp)).trans (heap_alloc_new w3 _))
              obtain ⟨⟨m0, n0⟩, ⟨m1, n1⟩, ⟨m2, n2⟩, m3⟩ := three_f hb)
           | skip))
    all_goals
      go_wp2
      go_meet
      first
      | exact ⟨_, a5, c5, rfl, hz5.size, heap_alloc_new w5 _, RB.ext (ho5.rb.weak fun b hb _ => Nat.ne_of_lt hb) (Below.alloc (Below.refl _ _) (Nat.le_refl _) _), Below.alloc hz5 hz5.size _⟩
      | exact ⟨_, a5, c5, rfl, by omega, set3_blk hb, box_apart ho5 hb _ _ _, below3 hz5 (by omega) _ _ _⟩
  case rest =>
    obtain ⟨s, a5, c5, rfl, hs3, hT6, hD6, hW6⟩ := hcut
    have HT6 := Lib.hid hT6
    have HD6 := Lib.hid hD6
    have HW6 := Lib.hid hW6
    have hs6 : s < wc.heap.size := (Array.getElem?_eq_some_iff.1 hT6).1
    have P6 := Lib.hid (dblk hW6 P3.out)
    clear hT6 hD6 hW6 hcells
    have hsz0 : w3.heap.size ≤ wc.heap.size := HW6.out.size
    obtain ⟨z, hz⟩ : ∃ z, z = wc.heap.size := ⟨_, rfl⟩
    have hsz : s < z := by omega
    have hz3 : w3.heap.size ≤ z := by omega
    obtain ⟨y0, e0⟩ := blk_cell (i := 0) (P6.out)
    obtain ⟨y1, e1⟩ := blk_cell (i := 1) (P6.out)
    obtain ⟨y2, e2⟩ := blk_cell (i := 2) (P6.out)
    simp at y0 y1 y2
    go_wp2
    go_loopw [9] (fun q wr => ∃ (k : Nat) (na : Option Addr) (nc : Nat), k ≤ o.keys.length ∧ q = .int .i64 k ∧ wr.heap[s]? = some (.cells #[.slice a5 o.data.length c5, .slice na k nc, .int .i64 o.seq] 25 (0, 0)) ∧
        EnR Enc.key 47 z wr (.slice na k nc) (o.keys.take k) ∧ RB (fun b => b ≠ s ∧ b < z) wr (.slice a5 o.data.length c5) o.data ∧ Below w3.heap.size w3 wr ∧ z ≤ wr.heap.size) (fun q _ => o.keys.length - (intOf q).toNat)
    case atStart => exact ⟨0, none, 0, Nat.zero_le _, rfl, HT6.out, EnR.nil _ _ _ _, HD6.out.weak fun b hb h => ⟨h, by omega⟩, HW6.out, Nat.le_of_eq hz⟩
    case round =>
      obtain ⟨k, na, nc, hk, rfl, hT, hR, hD, hB, hzr⟩ := hrel
      have HT := Lib.hid hT
      have HR := Lib.hid hR
      have HD := Lib.hid hD
      have HB := Lib.hid hB
      have hsr : s < wr.heap.size := (Array.getElem?_eq_some_iff.1 hT).1
      have PR := Lib.hid (dblk hB P3.out)
      clear hT hR hD hB HT6 HW6 HD6 P6
      obtain ⟨y0, e0⟩ := blk_cell (i := 0) (PR.out)
      obtain ⟨y1, e1⟩ := blk_cell (i := 1) (PR.out)
      obtain ⟨y2, e2⟩ := blk_cell (i := 2) (PR.out)
      simp at y0 y1 y2
      by_cases hlt : k < o.keys.length
      · obtain ⟨b, off, x, rfl, hb, hbA, c3, c4, hx⟩ := Keys.at HK3.out hlt
        obtain ⟨xa, xc, rfl⟩ := hx.shape
        have HX := Lib.hid hx
        have HTK := Lib.hid (List.take_succ_eq_append_getElem hlt)
        have hkl : (o.keys[k]).value.length ≤ 1000000 := hvl.out _ (List.getElem_mem hlt)
        generalize o.keys[k] = ky at *
        obtain ⟨knm, kvl⟩ := ky
        simp only at c3 c4 HX HTK hkl
        clear hx
        have hk5 : (0 : Int) ≤ k := by omega
        have hkl5 : (k : Int) < o.keys.length := by omega
        have HLEN : Hid ((o.keys.take k).length = k) := Lib.hid (by simp; omega)
        have hB3 : ∀ W, Below z wr W → Below w3.heap.size w3 W := fun W h => HB.out.trans (h.mono hz3)
        have hcl : Hid (∀ W, Below z wr W → Below z wr W ∧ W.cell? ⟨w.heap.size, 1, none⟩ = some (.slice (some ⟨b, off, none⟩) o.keys.length kc) ∧ W.cell? ⟨b, off + k * 2, none⟩ = some (.string knm) ∧
            W.cell? ⟨b, off + k * 2 + 1, none⟩ = some (.slice xa kvl.length xc) ∧ W.cell? ⟨s, 1, none⟩ = some (.slice na k nc)) := Lib.hid fun W h =>
          ⟨h, cellExt (hB3 W h) (three_cells P3.out).2.1, cellExt (hB3 W h) c3, cellExt (hB3 W h) c4, (h.cell (p := ⟨s, 1, none⟩) hsz).trans (blk_cell (i := 1) HT.out).1⟩
        have HXW : Hid (∀ W, Below z wr W → RB (fun b => b < w3.heap.size) W (.slice xa kvl.length xc) kvl) := Lib.hid fun W h => HX.out.ext (hB3 W h)
        clear hB3
        obtain ⟨k1, k2⟩ := blk_cell (i := 1) HT.out
        simp at k1
        clear c3 c4
        go_upto_region 12 with fail
        clear y0 y1 y2 e0 e1 e2
        refine wp_region_sink (n := 20) (fun W => Below z wr W ∧ W.cell? ⟨w.heap.size, 1, none⟩ = some (.slice (some ⟨b, off, none⟩) o.keys.length kc) ∧ W.cell? ⟨b, off + k * 2, none⟩ = some (.string knm) ∧ W.cell? ⟨b, off + k * 2 + 1, none⟩ = some (.slice xa kvl.length xc) ∧ W.cell? ⟨s, 1, none⟩ = some (.slice na k nc)) (by kernel_rfl) (by kernel_rfl) (by kernel_rfl) (by kernel_rfl) rfl (hcl.out _ (Below.drew (Below.refl _ _))) (fun hHeld => ?_)
        refine wpAnyH_take (i := 0) (oi := { dst := some 48, op := Op.fieldAddr 25 (Operand.tmp 8) 1, type := 0, pos := "law.go:169", after := #[], guard := none }) (v := ?v0) rfl (by kernel_rfl) (by kernel_rfl) (by kernel_rfl) (fun _ _ _ h => h) (Or.inl ⟨by rfl, ?hy0⟩) hHeld ?r0
        case hy0 => (intro W hSW; (try dsimp only at hSW); go_simp; try (with_reducible rfl))
        simp only [Act.put, List.setIfInBounds_toArray, List.set_cons_zero, List.set_cons_succ]
        refine wpAnyH_take (i := 1) (oi := { dst := some 49, op := Op.load 23 (Operand.tmp 48), type := 23, pos := "law.go:169", after := #[{ on := 0, ground := Ground.data }], guard := none }) (v := ?v1) rfl (by kernel_rfl) (by kernel_rfl) (by kernel_rfl) (fun _ _ _ h => h) (Or.inl ⟨by rfl, ?hy1⟩) hHeld ?r1
        case hy1 => (intro W hSW; (try dsimp only at hSW); go_simp; try (with_reducible rfl))
        simp only [Act.put, List.setIfInBounds_toArray, List.set_cons_zero, List.set_cons_succ]
        refine wpAnyH_take (i := 2) (oi := { dst := some 50, op := Op.fieldAddr 25 (Operand.tmp 2) 1, type := 0, pos := "law.go:169", after := #[], guard := none }) (v := ?v2) rfl (by kernel_rfl) (by kernel_rfl) (by kernel_rfl) (fun _ _ _ h => h) (Or.inl ⟨by rfl, ?hy2⟩) hHeld ?r2
        case hy2 => (intro W hSW; (try dsimp only at hSW); go_simp; try (with_reducible rfl))
        simp only [Act.put, List.setIfInBounds_toArray, List.set_cons_zero, List.set_cons_succ]
        refine wpAnyH_take (i := 3) (oi := { dst := some 51, op := Op.load 23 (Operand.tmp 50), type := 23, pos := "law.go:169", after := #[{ on := 2, ground := Ground.data }], guard := none }) (v := ?v3) rfl (by kernel_rfl) (by kernel_rfl) (by kernel_rfl) (fun _ _ _ h => h) (Or.inl ⟨by rfl, ?hy3⟩) hHeld ?r3
        case hy3 => (intro W hSW; (try dsimp only at hSW); go_simp; try (with_reducible rfl))
        simp only [Act.put, List.setIfInBounds_toArray, List.set_cons_zero, List.set_cons_succ]
        refine wpAnyH_take (i := 4) (oi := { dst := some 52, op := Op.move (Operand.tmp 9), type := 3, pos := "law.go:169", after := #[], guard := none }) (v := ?v4) rfl (by kernel_rfl) (by kernel_rfl) (by kernel_rfl) (fun _ _ _ h => h) (Or.inl ⟨by rfl, ?hy4⟩) hHeld ?r4
        case hy4 => (intro W hSW; (try dsimp only at hSW); go_simp; try (with_reducible rfl))
        simp only [Act.put, List.setIfInBounds_toArray, List.set_cons_zero, List.set_cons_succ]
        refine wpAnyH_take (i := 5) (oi := { dst := some 53, op := Op.indexAddr 23 (Operand.tmp 51) (Operand.tmp 52), type := 0, pos := "law.go:169", after := #[{ on := 3, ground := Ground.data }, { on := 4, ground := Ground.data }], guard := none }) (v := ?v5) rfl (by kernel_rfl) (by kernel_rfl) (by kernel_rfl) (fun _ _ _ h => h) (Or.inl ⟨by rfl, ?hy5⟩) hHeld ?r5
        case hy5 => (intro W hSW; (try dsimp only at hSW); go_simp; try (with_reducible rfl))
        simp only [Act.put, List.setIfInBounds_toArray, List.set_cons_zero, List.set_cons_succ]
        refine wpAnyH_take (i := 6) (oi := { dst := some 54, op := Op.fieldAddr 47 (Operand.tmp 53) 0, type := 0, pos := "law.go:169", after := #[{ on := 5, ground := Ground.data }], guard := none }) (v := ?v6) rfl (by kernel_rfl) (by kernel_rfl) (by kernel_rfl) (fun _ _ _ h => h) (Or.inl ⟨by rfl, ?hy6⟩) hHeld ?r6
        case hy6 => (intro W hSW; (try dsimp only at hSW); go_simp; try (with_reducible rfl))
        simp only [Act.put, List.setIfInBounds_toArray, List.set_cons_zero, List.set_cons_succ]
        refine wpAnyH_take (i := 7) (oi := { dst := some 55, op := Op.load 9 (Operand.tmp 54), type := 9, pos := "law.go:169", after := #[{ on := 6, ground := Ground.data }], guard := none }) (v := ?v7) rfl (by kernel_rfl) (by kernel_rfl) (by kernel_rfl) (fun _ _ _ h => h) (Or.inl ⟨by rfl, ?hy7⟩) hHeld ?r7
        case hy7 => (intro W hSW; (try dsimp only at hSW); go_simp; try (with_reducible rfl))
        simp only [Act.put, List.setIfInBounds_toArray, List.set_cons_zero, List.set_cons_succ]
        refine wpAnyH_take (i := 9) (oi := { dst := some 57, op := Op.fieldAddr 25 (Operand.tmp 2) 1, type := 0, pos := "law.go:169", after := #[], guard := none }) (v := ?v9) rfl (by kernel_rfl) (by kernel_rfl) (by kernel_rfl) (fun _ _ _ h => h) (Or.inl ⟨by rfl, ?hy9⟩) hHeld ?r9
        case hy9 => (intro W hSW; (try dsimp only at hSW); go_simp; try (with_reducible rfl))
        simp only [Act.put, List.setIfInBounds_toArray, List.set_cons_zero, List.set_cons_succ]
        refine wpAnyH_take (i := 10) (oi := { dst := some 58, op := Op.load 23 (Operand.tmp 57), type := 23, pos := "law.go:169", after := #[{ on := 9, ground := Ground.data }], guard := none }) (v := ?v10) rfl (by kernel_rfl) (by kernel_rfl) (by kernel_rfl) (fun _ _ _ h => h) (Or.inl ⟨by rfl, ?hy10⟩) hHeld ?r10
        case hy10 => (intro W hSW; (try dsimp only at hSW); go_simp; try (with_reducible rfl))
        simp only [Act.put, List.setIfInBounds_toArray, List.set_cons_zero, List.set_cons_succ]
        refine wpAnyH_take (i := 11) (oi := { dst := some 59, op := Op.move (Operand.tmp 9), type := 3, pos := "law.go:169", after := #[], guard := none }) (v := ?v11) rfl (by kernel_rfl) (by kernel_rfl) (by kernel_rfl) (fun _ _ _ h => h) (Or.inl ⟨by rfl, ?hy11⟩) hHeld ?r11
        case hy11 => (intro W hSW; (try dsimp only at hSW); go_simp; try (with_reducible rfl))
        simp only [Act.put, List.setIfInBounds_toArray, List.set_cons_zero, List.set_cons_succ]
        refine wpAnyH_take (i := 12) (oi := { dst := some 60, op := Op.indexAddr 23 (Operand.tmp 58) (Operand.tmp 59), type := 0, pos := "law.go:169", after := #[{ on := 10, ground := Ground.data }, { on := 11, ground := Ground.data }], guard := none }) (v := ?v12) rfl (by kernel_rfl) (by kernel_rfl) (by kernel_rfl) (fun _ _ _ h => h) (Or.inl ⟨by rfl, ?hy12⟩) hHeld ?r12
        case hy12 => (intro W hSW; (try dsimp only at hSW); go_simp; try (with_reducible rfl))
        simp only [Act.put, List.setIfInBounds_toArray, List.set_cons_zero, List.set_cons_succ]
        refine wpAnyH_take (i := 13) (oi := { dst := some 61, op := Op.fieldAddr 47 (Operand.tmp 60) 1, type := 0, pos := "law.go:169", after := #[{ on := 12, ground := Ground.data }], guard := none }) (v := ?v13) rfl (by kernel_rfl) (by kernel_rfl) (by kernel_rfl) (fun _ _ _ h => h) (Or.inl ⟨by rfl, ?hy13⟩) hHeld ?r13
        case hy13 => (intro W hSW; (try dsimp only at hSW); go_simp; try (with_reducible rfl))
        simp only [Act.put, List.setIfInBounds_toArray, List.set_cons_zero, List.set_cons_succ]
        refine wpAnyH_take (i := 14) (oi := { dst := some 62, op := Op.load 22 (Operand.tmp 61), type := 22, pos := "law.go:169", after := #[{ on := 13, ground := Ground.data }], guard := none }) (v := ?v14) rfl (by kernel_rfl) (by kernel_rfl) (by kernel_rfl) (fun _ _ _ h => h) (Or.inl ⟨by rfl, ?hy14⟩) hHeld ?r14
        case hy14 => (intro W hSW; (try dsimp only at hSW); go_simp; try (with_reducible rfl))
        simp only [Act.put, List.setIfInBounds_toArray, List.set_cons_zero, List.set_cons_succ]
        refine wpAnyH_ready (rs := [8]) (by kernel_rfl) (by simp) (AllReadyH.cons (o := { dst := some 56, op := Op.buildSlice 22 0 #[], type := 22, pos := "law.go:169", after := #[], guard := none }) rfl (fun K hK => ?_) AllReadyH.nil)
        go_simp
        refine hK.out _ _ ?hS8 (fun hHeld => ?_)
        case hS8 => exact hcl.out _ (Below.alloc (Below.drew (Below.refl _ _)) hzr _)
        clear hK K
        refine wpAnyH_ready (rs := [15]) (by kernel_rfl) (by simp) (AllReadyH.cons (o := { dst := some 63, op := Op.call { callee := Callee.builtin Builtin.append, args := #[Operand.tmp 56, Operand.tmp 62], argTypes := #[22, 22] }, type := 22, pos := "law.go:169", after := #[{ on := 8, ground := Ground.data }, { on := 14, ground := Ground.data }], guard := none }) rfl (fun K hK => ?_) AllReadyH.nil)
        refine step_appB (by rfl) _ _ (by rfl) wr.heap.size _ [] (by rfl) (OB.of_blk (t := []) (heap_alloc_new wr.drew _) (Nat.le_refl _) rfl rfl (by first | omega | (simp; done))) (fun b => b < w3.heap.size) _ kvl (by rfl) (HXW.out _ (Below.alloc (Below.drew (Below.refl _ _)) hzr _)) (by simp; omega) (by simp) ?_
        intro v8 w8 ho8 hb8 hg8
        obtain ⟨a8, c8, rfl⟩ := ho8.rb.shape
        have hy8 : Below wr.heap.size wr w8 := Below.trans (Below.alloc (Below.drew (Below.refl _ _)) (Nat.le_refl _) _) hb8
        have hz8 : Below z wr w8 := hy8.mono hzr
        have hz8s : z ≤ w8.heap.size := Nat.le_trans hzr hy8.size
        refine hK.out _ _ (hcl.out _ hz8) (fun hHeld => ?_)
        clear hK K
        refine wpAnyH_take (i := 16) (oi := { dst := some 64, op := Op.build 47 #[(0, Operand.tmp 55), (1, Operand.tmp 63)], type := 47, pos := "law.go:169", after := #[{ on := 7, ground := Ground.data }, { on := 15, ground := Ground.data }], guard := none }) (v := ?v16) rfl (by kernel_rfl) (by kernel_rfl) (by kernel_rfl) (fun _ _ _ h => h) (Or.inl ⟨by rfl, ?hy16⟩) hHeld ?r16
        case hy16 => (intro W hSW; (try dsimp only at hSW); go_simp; try (with_reducible rfl))
        simp only [Act.put, List.setIfInBounds_toArray, List.set_cons_zero, List.set_cons_succ]
        refine wpAnyH_ready (rs := [17]) (by kernel_rfl) (by simp) (AllReadyH.cons (o := { dst := some 65, op := Op.buildSlice 23 1 #[(0, Operand.tmp 64)], type := 23, pos := "law.go:169", after := #[{ on := 16, ground := Ground.data }], guard := none }) rfl (fun K hK => ?_) AllReadyH.nil)
        go_simp
        refine hK.out _ _ ?hS17 (fun hHeld => ?_)
        case hS17 => exact hcl.out _ (Below.alloc hz8 hz8s _)
        clear hK K
        refine wpAnyH_ready (rs := [18]) (by kernel_rfl) (by simp) (AllReadyH.cons (o := { dst := some 66, op := Op.call { callee := Callee.builtin Builtin.append, args := #[Operand.tmp 49, Operand.tmp 65], argTypes := #[23, 23] }, type := 23, pos := "law.go:169", after := #[{ on := 1, ground := Ground.data }, { on := 17, ground := Ground.data }, { on := 15, ground := Ground.chain }], guard := none }) rfl (fun K hK => ?_) AllReadyH.nil)
        refine step_pushR _ (by rfl) _ _ 23 (by rfl) Enc.key z 47 i0 _ 40 Tryz.underlying23 hi hz0 hz1 hz2 (by rfl) (by decide) (by decide) _ (o.keys.take k) k HLEN.out (by rfl) (HR.out.ext (hy8.alloc hy8.size _)) w8.heap.size [.string knm, .slice a8 kvl.length c8] 47 ⟨knm, kvl⟩ (by rfl) (heap_alloc_new w8 _) ⟨_, rfl, RB.ext (ho8.rb.weak fun b _ hb => ⟨Nat.le_trans hzr hb, fun e => by have := (HR.out.lt b e).2; omega⟩) (Below.alloc (Below.refl _ _) (Nat.le_refl _) _)⟩ (by rw [HLEN.out]; omega) (by simp; omega) ?_
        intro g cap w9 hrow hbel
        have hz9 : Below z wr w9 := Below.trans (Below.alloc hz8 hz8s _) hbel
        obtain ⟨m0, m1⟩ : w9.cell? ⟨s, 1, none⟩ = some (.slice na k nc) ∧ w9.frozen? ⟨s, 1, none⟩ = false := ⟨(hz9.cell (p := ⟨s, 1, none⟩) hsz).trans k1, (hz9.frozen (p := ⟨s, 1, none⟩) hsz).trans k2⟩
        refine hK.out _ _ (hcl.out _ hz9) (fun hHeld => ?_)
        clear hK K
        refine wpAnyH_take (i := 19) (oi := { dst := some 67, op := Op.fieldAddr 25 (Operand.tmp 8) 1, type := 0, pos := "law.go:169", after := #[{ on := 0, ground := Ground.phase }, { on := 1, ground := Ground.phase }, { on := 2, ground := Ground.phase }, { on := 3, ground := Ground.phase }, { on := 4, ground := Ground.phase }, { on := 5, ground := Ground.phase }, { on := 6, ground := Ground.phase }, { on := 7, ground := Ground.phase }, { on := 8, ground := Ground.phase }, { on := 9, ground := Ground.phase }, { on := 10, ground := Ground.phase }, { on := 11, ground := Ground.phase }, { on := 12, ground := Ground.phase }, { on := 13, ground := Ground.phase }, { on := 14, ground := Ground.phase }, { on := 15, ground := Ground.phase }, { on := 16, ground := Ground.phase }, { on := 17, ground := Ground.phase }, { on := 18, ground := Ground.phase }], guard := none }) (v := ?v19) rfl (by kernel_rfl) (by kernel_rfl) (by kernel_rfl) (fun _ _ _ h => h) (Or.inl ⟨by rfl, ?hy19⟩) hHeld ?r19
        case hy19 => (intro W hSW; (try dsimp only at hSW); go_simp; try (with_reducible rfl))
        simp only [Act.put, List.setIfInBounds_toArray, List.set_cons_zero, List.set_cons_succ]
        refine wpAnyH_done (by kernel_rfl) (sink_end (o := { dst := none, op := Op.store 23 (Operand.tmp 67) (Operand.tmp 66), type := 0, pos := "law.go:169", after := #[{ on := 19, ground := Ground.data }, { on := 18, ground := Ground.data }, { on := 18, ground := Ground.chain }, { on := 0, ground := Ground.phase }, { on := 1, ground := Ground.phase }, { on := 2, ground := Ground.phase }, { on := 3, ground := Ground.phase }, { on := 4, ground := Ground.phase }, { on := 5, ground := Ground.phase }, { on := 6, ground := Ground.phase }, { on := 7, ground := Ground.phase }, { on := 8, ground := Ground.phase }, { on := 9, ground := Ground.phase }, { on := 10, ground := Ground.phase }, { on := 11, ground := Ground.phase }, { on := 12, ground := Ground.phase }, { on := 13, ground := Ground.phase }, { on := 14, ground := Ground.phase }, { on := 15, ground := Ground.phase }, { on := 16, ground := Ground.phase }, { on := 17, ground := Ground.phase }, { on := 18, ground := Ground.phase }], guard := none }) rfl fun K hK => ?_) _
        go_simp
        refine hK _ _ ?_
        clear hK K
        all_goals
          have HR9 := Lib.hid hrow
          have HZ9 : Hid (Below z wr w9) := Lib.hid hz9
          clear hrow hbel hz9 hy8 hz8 hz8s ho8 hb8 hg8 k1 k2 hHeld
          go_wp2
          go_roundw
          case rel =>
            refine ⟨k + 1, some ⟨g, 0, none⟩, cap, by omega, by go_num, ?_, ?_, ?_, ?_, by simpa [World.setCell] using Nat.le_trans hzr HZ9.out.size⟩
            · have := set_blk3 (j := 1) (v := .slice (some ⟨g, 0, none⟩) (k + 1) cap) ((HZ9.out.block s hsz).trans HT.out)
              simpa using this
            · rw [HTK.out]
              exact HR9.out.same ⟨by simp [World.setCell], fun b hb _ => Below.heap_setCell _ ⟨s, 1, none⟩ _ _ (by show b ≠ s; omega)⟩
            · exact HD.out.mono ⟨by simpa [World.setCell] using HZ9.out.size, fun b hb _ => (Below.heap_setCell _ ⟨s, 1, none⟩ _ _ hb.1).trans (HZ9.out.block b hb.2)⟩
            · exact (HB.out.trans (HZ9.out.mono (by omega))).setCell (show w3.heap.size ≤ s from hs3) _
          case measure => simp [intOf]; omega
      · obtain rfl : k = o.keys.length := by omega
        rw [List.take_length] at HR
        obtain ⟨wd, rfl⟩ : ∃ wd, wd = wr := ⟨_, rfl⟩
        have HWAS : Hid (ObV (fun _ => True) wd (.agg #[.slice a5 o.data.length c5, .slice na o.keys.length nc, .int .i64 o.seq]) o) := Lib.hid ⟨_, _, rfl, HD.out.weak fun _ _ _ => trivial, SlE.weak HR.out.sle fun _ _ _ => trivial⟩
        have RR := Lib.hid (dblk HB.out R3.out)
        obtain ⟨t0, -⟩ := blk_cell (i := 0) RR.out
        obtain ⟨t1, -⟩ := blk_cell (i := 1) RR.out
        simp at t0 t1
        have hdo := fun v va W h1 h2 h3 => tdo_any (fun b => b < w3.heap.size) B v va o true ⟨⟨#[120]⟩, l⟩ W h1 HFP.out.okl h2 HFP.out.dat h3
        have hsm := txDo_small o true ⟨⟨#[120]⟩, l⟩
        generalize txDo o true ⟨⟨#[120]⟩, l⟩ = X at *
        obtain ⟨xo, xt, xe⟩ := X
        have HDO := Lib.hid hdo
        have hlen1 := hsm.1
        have hlen2 := hsm.2.1
        have HLV := Lib.hid hsm.2.2
        clear hdo HD HR hsm
        simp only at hlen1 hlen2 HLV
        go_wp2_with fail
        refine (HDO.out _ _ _ (HA3.out.ext HB.out) (HS3.out.ext HB.out) (HE3.out.ext HB.out)).mono ?_
        intro e w10 h10
        obtain ⟨a10, c10, u10, q10, rfl, hv10, hb10⟩ := h10.ways
        have HB10 := Lib.hid hb10
        have HV10 : Hid (Own8 wd.heap.size w10 (.slice a10 xo.data.length c10) (.slice u10 xo.keys.length q10) xo) := Lib.hid hv10
        clear h10 hv10 hb10 y0 y1 y2 e0 e1 e2 t0 t1
        go_upto_region 14 with fail
        obtain ⟨pa, hpa⟩ : ∃ pa, pa = w10.heap.size := ⟨_, rfl⟩
        obtain ⟨w11, hw11⟩ : ∃ w11, w11 = w10.alloc (.cells #[.slice a10 xo.data.length c10, .slice u10 xo.keys.length q10, .int .i64 xo.seq] 25) := ⟨_, rfl⟩
        rw [← hw11, ← hpa]
        have hb11 : Below w10.heap.size w10 w11 := by rw [hw11]; ((repeat' (first | exact Below.refl _ _ | refine below_drewN ?_ _ | refine Below.drew ?_ | refine Below.alloc ?_ ?_ _ | refine Below.trans ?_ (Below.mono (by assumption) ?_))); all_goals (first | exact Nat.le_refl _ | exact Below.size (by assumption) | omega | (simp; done) | (simp; omega)))
        have Z11 := Lib.hid (show w11.heap[pa]? = some (.cells #[.slice a10 xo.data.length c10, .slice u10 xo.keys.length q10, .int .i64 xo.seq] 25 (0, 0)) from by rw [hw11, hpa]; exact heap_alloc_new _ _)
        have HB11 : Hid (Below wd.heap.size wd w11) := Lib.hid (dcall HB10.out hb11)
        have HV11 : Hid (Own8 wd.heap.size w11 (.slice a10 xo.data.length c10) (.slice u10 xo.keys.length q10) xo) := Lib.hid (HV10.out.keep (Same.of_ext hb11))
        clear hw11 hb11 hpa HB10 HV10
        go_wp2
        go_loopw [13] (fun q wx => ∃ k : Nat, k ≤ xo.data.length ∧ q = .int .i64 k ∧ XR wd.heap.size w11 wx) (fun q _ => xo.data.length - (intOf q).toNat)
        case atStart => exact ⟨0, Nat.zero_le _, rfl, XR.refl _ _⟩
        case round =>
          obtain ⟨k, hk, rfl, hX⟩ := hrel
          have HX := Lib.hid hX
          have ZX := Lib.hid (hX.box Z11.out (by decide))
          clear hX
          obtain ⟨y0, e0⟩ := blk_cell (i := 0) (ZX.out)
          obtain ⟨y1, e1⟩ := blk_cell (i := 1) (ZX.out)
          obtain ⟨y2, e2⟩ := blk_cell (i := 2) (ZX.out)
          simp at y0 y1 y2
          by_cases hlt : k < xo.data.length
          · obtain ⟨hcap, g, off, rfl, hg, hIs⟩ := HV11.out.data.isB (by omega)
            obtain ⟨z, z0, z1, z2⟩ := (HX.out.byt _ _ _ hIs).cell hlt
            have HIS := Lib.hid hIs
            have hk5 : (0 : Int) ≤ k := by omega
            have hkl5 : (k : Int) < xo.data.length := by omega
            clear hIs
            go_upto_region 17 with fail
            go_still_tail 10, (by kernel_rfl)
            change wpList _ _ _ _ _ wr.drew
            go_wp2
            go_roundw
            case rel => exact ⟨k + 1, by omega, by go_num, HX.out.drew.set hg HIS.out _ _⟩
            case measure => simp [intOf]; omega
          · obtain rfl : k = xo.data.length := by omega
            go_wp2
            go_loopw [14] (fun q wx => ∃ k : Nat, k ≤ xo.keys.length ∧ q = .int .i64 k ∧ XR wd.heap.size w11 wx) (fun q _ => xo.keys.length - (intOf q).toNat)
            case atStart => exact ⟨0, Nat.zero_le _, rfl, HX.out⟩
            case round =>
              obtain ⟨k, hk, rfl, hX2⟩ := hrel
              have HX2 := Lib.hid hX2
              have ZX2 := Lib.hid (hX2.box Z11.out (by decide))
              clear hX2 HX ZX y0 y1 y2 e0 e1 e2
              obtain ⟨y0, e0⟩ := blk_cell (i := 0) (ZX2.out)
              obtain ⟨y1, e1⟩ := blk_cell (i := 1) (ZX2.out)
              obtain ⟨y2, e2⟩ := blk_cell (i := 2) (ZX2.out)
              simp at y0 y1 y2
              by_cases hlt : k < xo.keys.length
              · obtain ⟨g, cs, rfl, hg, hcap, hcs⟩ := own8_row HV11.out (by omega)
                obtain ⟨b, d, hcell, hval⟩ := hcs k hlt
                have hvl2 := HLV.out _ (List.getElem_mem hlt)
                generalize (xo.keys[k]).value.length = m at *
                have HVAL := Lib.hid hval
                have HG := Lib.hid hg
                have HCE := Lib.hid hcell
                have hk5 : (0 : Int) ≤ k := by omega
                have hkl5 : (k : Int) < xo.keys.length := by omega
                clear hval hg hcs hcell
                go_wp2
                go_loopw [15] (fun q wx => ∃ j : Nat, j ≤ m ∧ q = .int .i64 j ∧ XR wd.heap.size w11 wx) (fun q _ => m - (intOf q).toNat)
                case atStart => exact ⟨0, Nat.zero_le _, rfl, HX2.out⟩
                case round =>
                  obtain ⟨j, hj, rfl, hX3⟩ := hrel
                  have HX3 := Lib.hid hX3
                  have ZX3 := Lib.hid (hX3.box Z11.out (by decide))
                  have r1 := (blk_cell (i := k * 2 + 1) (hX3.box HG.out (by decide))).1.trans HCE.out
                  clear hX3 HX2 ZX2 y0 y1 y2 e0 e1 e2
                  obtain ⟨y0, e0⟩ := blk_cell (i := 0) (ZX3.out)
                  obtain ⟨y1, e1⟩ := blk_cell (i := 1) (ZX3.out)
                  obtain ⟨y2, e2⟩ := blk_cell (i := 2) (ZX3.out)
                  simp at y0 y1 y2
                  by_cases hlj : j < m
                  · obtain ⟨hcd, kb, off, rfl, hkb, hIs⟩ := HVAL.out (by omega)
                    obtain ⟨z', z0, z1, z2⟩ := (HX3.out.byt _ _ _ hIs).cell hlj
                    have HIS := Lib.hid hIs
                    have hj5 : (0 : Int) ≤ j := by omega
                    have hjl5 : (j : Int) < m := by omega
                    clear hIs
                    go_upto_region 24 with fail
                    go_still_tail 18, (by kernel_rfl)
                    go_wp2
                    go_roundw
                    case rel => exact ⟨j + 1, by omega, by go_num, HX3.out.drew.set hkb HIS.out _ _⟩
                    case measure => simp [intOf]; omega
                  · obtain rfl : j = m := by omega
                    go_wp2
                    go_roundw
                    case rel => exact ⟨k + 1, by omega, by go_num, HX3.out⟩
                    case measure => simp [intOf]; omega
              · obtain rfl : k = xo.keys.length := by omega
                go_upto_region 25 with fail
                have HBT : Hid (Below wd.heap.size wd wr) := Lib.hid (HB11.out.trans HX2.out.bl)
                have HBW : Hid (Below w3.heap.size w3 wr) := Lib.hid (dcall HB.out HBT.out)
                have PX := Lib.hid (dblk HBT.out PR.out)
                have TX := Lib.hid (dblk HBT.out HT.out)
                have RX := Lib.hid (dblk HBT.out RR.out)
                have HWX := Lib.hid (HWAS.out.ext HBT.out)
                clear HBT PR HT RR HWAS HX2 HV11 Z11 HB11 HB y0 y1 y2 e0 e1 e2
                obtain ⟨y0, e0⟩ := blk_cell (i := 0) (PX.out)
                obtain ⟨y1, e1⟩ := blk_cell (i := 1) (PX.out)
                obtain ⟨y2, e2⟩ := blk_cell (i := 2) (PX.out)
                simp at y0 y1 y2
                obtain ⟨t0, -⟩ := blk_cell (i := 0) RX.out
                obtain ⟨t1, -⟩ := blk_cell (i := 1) RX.out
                simp at t0 t1
                go_wp2_with fail
                refine (HDO.out _ _ _ (HA3.out.ext HBW.out) (HS3.out.ext HBW.out) (HE3.out.ext HBW.out)).mono ?_
                intro e w12 h12
                obtain ⟨a12, c12, u12, q12, rfl, -, hb12⟩ := h12.ways
                have HB12 := Lib.hid hb12
                clear h12 hb12 y0 y1 y2 e0 e1 e2 t0 t1
                go_upto_region 26 with fail
                obtain ⟨w13, hw13⟩ : ∃ w13, w13 = w12.alloc (.cells #[.slice a12 xo.data.length c12, .slice u12 xo.keys.length q12, .int .i64 xo.seq] 25) := ⟨_, rfl⟩
                rw [← hw13]
                have hb13 : Below w12.heap.size w12 w13 := by rw [hw13]; ((repeat' (first | exact Below.refl _ _ | refine below_drewN ?_ _ | refine Below.drew ?_ | refine Below.alloc ?_ ?_ _ | refine Below.trans ?_ (Below.mono (by assumption) ?_))); all_goals (first | exact Nat.le_refl _ | exact Below.size (by assumption) | omega | (simp; done) | (simp; omega)))
                have B13 := Lib.hid (show w13.heap[w12.heap.size]? = some (.cells #[.slice a12 xo.data.length c12, .slice u12 xo.keys.length q12, .int .i64 xo.seq] 25 (0, 0)) from by rw [hw13]; exact heap_alloc_new _ _)
                have hbx : Below wr.heap.size wr w13 := dcall HB12.out hb13
                have P13 := Lib.hid (dblk hbx PX.out)
                have T13 := Lib.hid (dblk hbx TX.out)
                have A13 := Lib.hid (dblk hbx ZX2.out)
                have HW13 : Hid (Below w3.heap.size w3 w13) := Lib.hid (dcall HBW.out hbx)
                have HWX13 := Lib.hid (HWX.out.ext hbx)
                clear hw13 hb13 hbx PX TX ZX2 RX HBW HWX HB12 HDO
                obtain ⟨y0, e0⟩ := blk_cell (i := 0) (P13.out)
                obtain ⟨y1, e1⟩ := blk_cell (i := 1) (P13.out)
                obtain ⟨y2, e2⟩ := blk_cell (i := 2) (P13.out)
                simp at y0 y1 y2
                obtain ⟨t0, g0⟩ := blk_cell (i := 0) (T13.out)
                obtain ⟨t1, g1⟩ := blk_cell (i := 1) (T13.out)
                obtain ⟨t2, g2⟩ := blk_cell (i := 2) (T13.out)
                simp at t0 t1 t2
                go_wp2_with fail
                have hsm := rsame_any _ _ o o _ _ w13 (HA3.out.ext HW13.out) HWX13.out (by omega) (by omega)
                rw [sameB_self] at hsm
                refine hsm.mono ?_
                rintro e w14 ⟨rfl, hb14⟩
                obtain ⟨x0, -⟩ := three_f (dblk hb14 A13.out)
                obtain ⟨-, x1, -⟩ := three_f (dblk hb14 A13.out)
                obtain ⟨z0, -⟩ := three_f (dblk hb14 B13.out)
                obtain ⟨-, z1, -⟩ := three_f (dblk hb14 B13.out)
                obtain ⟨x0, -⟩ := x0
                obtain ⟨x1, -⟩ := x1
                obtain ⟨z0, -⟩ := z0
                obtain ⟨z1, -⟩ := z1
                have HW14 := Lib.hid (dcall HW3.out (dcall HW13.out hb14))
                have g2 : (xe == xe) = true := by simp
                have g3 : ((xo.data.length : Int) == xo.data.length) = true := by simp
                have g4 : ((xo.keys.length : Int) == xo.keys.length) = true := by simp
                clear hb14 hsm y0 y1 y2 e0 e1 e2 t0 t1 t2 g0 g1
                by_cases hxe : xe = 0
                · have g1 : (xe != 0) = false := by simp [hxe]
                  clear hxe
                  go_wp2
                  go_ret
                  exact ⟨rfl, HW14.out⟩
                · have g1 : (xe != 0) = true := by simpa using hxe
                  clear hxe
                  go_wp2
                  go_ret
                  exact ⟨rfl, HW14.out⟩
end Go.Proofs.YtgdilkhaopnhaaaGreatDoor
