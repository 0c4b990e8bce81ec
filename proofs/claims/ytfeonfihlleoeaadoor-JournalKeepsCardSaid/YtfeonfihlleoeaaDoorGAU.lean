/- The walks of journal.entries (its iterator), Load, Next. Entries that a law is handed. Rows of the call's own whose data are the call's own too and stand apart from the row; append of one datum. No program is named. -/
import Derived.Stop.RegionWithIn
import Derived.Shelf.Abstract
import Derived.Shelf.RegionOpen
import Derived.WalkKit
import Derived.OwnWalkIn
import Derived.TacticsInMore
import Derived.LoopNIn
import Derived.LoopIn
import Derived.Maps.OwnIn
import Derived.Maps.AppendAt
import Derived.Test.YtfeonfihlleoeaaDoorEe20
import Derived.Test.YtfeonfihlleoeaaDoorGAT
import Derived.Test.YtfeonfihlleoeaaDoorGAG
import Derived.Test.YtfeonfihlleoeaaDoorGAK
import Derived.Test.YtfeonfihlleoeaaDoorOpenD
import Derived.Test.YtfeonfihlleoeaaDoorGAB
namespace Go.Proofs.YtfeonfihlleoeaaDoor
open Go.RowKit Go.Sort Go.Shelf Go.WideShapes
attribute [local go_sem] Oper.semAt_some

/-! cells that stand -/
structure CK (A : Nat → Prop) (w w' : World) : Prop where
  mk ::
  size : w.heap.size ≤ w'.heap.size
  blk : ∀ b, A b → ∀ cs t fr, w.heap[b]? = some (.cells cs t fr) → w'.heap[b]? = w.heap[b]?
theorem CK.refl (A : Nat → Prop) (w : World) : CK A w w := ⟨Nat.le_refl _, fun _ _ _ _ _ _ => rfl⟩
theorem CK.of_ext {A : Nat → Prop} {w w' : World} (h : Below w.heap.size w w') : CK A w w' := ⟨h.size, fun b _ _ _ _ hb => h.block b (Array.getElem?_eq_some_iff.1 hb).1⟩
theorem CK.trans {A B : Nat → Prop} {X Y Z : World} (h : CK A X Y) (k : CK B Y Z) (hs : ∀ b, A b → B b) : CK A X Z :=
  ⟨Nat.le_trans h.size k.size, fun b hb cs t fr e => by
    have h1 := h.blk b hb cs t fr e
    exact (k.blk b (hs b hb) cs t fr (h1.trans e)).trans h1⟩
theorem CK.cell {A : Nat → Prop} {w w' : World} (h : CK A w w') {b j : Nat} {u : Value} (hb : A b) (hu : w.cell? ⟨b, j, none⟩ = some u) : w'.cell? ⟨b, j, none⟩ = some u := by
  unfold World.cell? at hu
  split at hu
  · rename_i c t fr e
    have := h.blk b hb c t fr e
    rw [World.cell?_of_block (a := ⟨b, j, none⟩) this]
    unfold World.cell?
    rw [e]
    exact hu
  · cases hu
theorem CK.box {A : Nat → Prop} {w w' : World} (h : CK A w w') {b : Nat} {cs : Array Value} {t : TypeId} {fr : Nat × Nat} (hb : A b) (hu : w.heap[b]? = some (.cells cs t fr)) : w'.heap[b]? = some (.cells cs t fr) := (h.blk b hb cs t fr hu).trans hu
theorem SlA.ck {A C : Nat → Prop} {w w' : World} {size n : Nat} {v : Value} {xs : List Value} (h : SlA A w size v n xs) (hk : CK C w w') (hA : ∀ b, A b → C b) : SlA A w' size v n xs := by
  obtain ⟨h1, h2⟩ := h
  refine ⟨h1, h2.imp id ?_⟩
  rintro ⟨b, off, cap, rfl, hl, hb, hc, hcell⟩
  refine ⟨b, off, cap, rfl, Nat.lt_of_lt_of_le hl hk.size, hb, hc, fun j hj => ?_⟩
  have h0 := hcell j hj
  obtain ⟨u, hu⟩ : ∃ u, xs[j]? = some u := ⟨xs[j]'(by rw [h1]; exact hj), List.getElem?_eq_getElem _⟩
  rw [hu] at h0 ⊢
  exact hk.cell (hA b hb) h0
theorem RB.ck {A C : Nat → Prop} {w w' : World} {v : Value} {l : List UInt8} (h : RB A w v l) (hk : CK C w w') (hA : ∀ b, A b → C b) : RB A w' v l := SlA.ck h hk hA
theorem Keys.ck {A C : Nat → Prop} {w w' : World} {v : Value} {l : List KyD} (h : SlE Enc.key A w v l) (hk : CK C w w') (hA : ∀ b, A b → C b) : SlE Enc.key A w' v l := by
  obtain ⟨ks, h1, h2, h3⟩ := h.flat
  refine SlE.of_flat h1 (fun i x c hi hc => ?_) (SlA.ck h3 hk hA)
  obtain ⟨v, e, hv⟩ := h2 i x c hi hc
  exact ⟨v, e, hv.ck hk hA⟩
theorem ObV.ck {A C : Nat → Prop} {w w' : World} {v : Value} {o : ObD} (h : ObV A w v o) (hk : CK C w w') (hA : ∀ b, A b → C b) : ObV A w' v o := by
  obtain ⟨dv, kv, rfl, hd, hk2⟩ := h
  exact ⟨dv, kv, rfl, hd.ck hk hA, Keys.ck hk2 hk hA⟩
theorem LayW.ck {C : Nat → Prop} {w w' : World} (h : LayW w) (hk : CK C w w') (h1 : C 1) (h2 : C 0) (h3 : C 2) : LayW w' := by
  refine ⟨fun r hr => hk.cell h1 (h.tab r hr), Nat.lt_of_lt_of_le h.tg hk.size, ?_, fun r hr => hk.cell h2 (h.nam r hr)⟩
  have hp := h.pow
  unfold Lib.TabIs World.var? at hp ⊢
  have hg : Tryd.prog.globalNamed "internal/strconv.uint64pow10" = some 2 := by kernel_rfl
  rw [hg] at hp ⊢
  simp only [Option.bind_some] at hp ⊢
  cases hb : w.heap[2]? with
  | none => rw [hb] at hp; cases hp
  | some o =>
    rw [hb] at hp
    cases o with
    | cells cs t fr => rw [hk.box h3 hb]; exact hp
    | _ => cases hp
/-- what a round of the collecting loop keeps -/
structure KpE (B : Nat) (W W' : World) : Prop where
  mk ::
  size : W.heap.size ≤ W'.heap.size
  keep : ∀ v, W.cell? ⟨B, 0, none⟩ = some v → (∀ g, v.ownBlock = some g → g < W.heap.size) → CK (fun b => b ≠ B ∧ v.ownBlock ≠ some b) W W' ∧ ∃ v', W'.cell? ⟨B, 0, none⟩ = some v' ∧ ∀ g, v'.ownBlock = some g → (v.ownBlock = some g ∨ W.heap.size ≤ g) ∧ g < W'.heap.size
theorem KpE.trans {B : Nat} {X Y Z : World} (h : KpE B X Y) (k : KpE B Y Z) : KpE B X Z := by
  refine ⟨Nat.le_trans h.size k.size, fun v hv hl => ?_⟩
  obtain ⟨h1, v1, hv1, h2⟩ := h.keep v hv hl
  obtain ⟨k1, v2, hv2, k2⟩ := k.keep v1 hv1 fun g hg => (h2 g hg).2
  refine ⟨⟨Nat.le_trans h.size k.size, fun b hb cs t fr e => ?_⟩, v2, hv2, fun g hg => ?_⟩
  · have hY := h1.blk b hb cs t fr e
    refine (k1.blk b ⟨hb.1, fun e2 => ?_⟩ cs t fr (hY.trans e)).trans hY
    have := (Array.getElem?_eq_some_iff.1 e).1
    rcases (h2 b e2).1 with h3 | h3
    · exact hb.2 h3
    · omega
  · have := h.size
    refine ⟨?_, (k2 g hg).2⟩
    rcases (k2 g hg).1 with h3 | h3
    · exact (h2 g h3).1
    · exact .inr (by omega)
theorem KpE.putObj {B : Nat} (W : World) (l : Nat) (o o' : Obj) (h : W.heap[l]? = some o) (hc : o.isCells = false) : KpE B W (W.putObj l o') := by
  have hne : ∀ b cs t fr, W.heap[b]? = some (.cells cs t fr) → b ≠ l := fun b cs t fr hb e => by
    subst e
    rw [h] at hb
    cases hb
    cases hc
  refine ⟨by simp, fun v hv hl => ⟨⟨by simp, fun b _ cs t fr e => World.putObj_heap_other (hne b cs t fr e)⟩, v, ?_, fun g hg => ⟨.inl hg, by simpa using hl g hg⟩⟩⟩
  obtain ⟨cs, t, fr, hb, hm⟩ : ∃ cs t fr, W.heap[B]? = some (.cells cs t fr) ∧ True := by
    unfold World.cell? at hv
    split at hv
    · rename_i c t fr e; exact ⟨c, t, fr, e, trivial⟩
    · cases hv
  rw [World.cell?_of_block (a := ⟨B, 0, none⟩) (World.putObj_heap_other (hne B cs t fr hb))]
  exact hv
/-! plainly: the entries behind a number -/
def entsFrom (o : ObD) : Nat → Int → List EnD
  | 0, _ => []
  | k + 1, s => match getD o.keys (enK s) with
    | none => []
    | some b => if (unE b).2 = 0 ∧ (unE b).1.seq = s then (unE b).1 :: entsFrom o k (s + 1) else []
def loadL (o : ObD) (after : Int) : List EnD := if after < 0 ∨ 1099511627776 < after then [] else entsFrom o 8 (after + 1)
def Enc.ent : Enc EnD where
  size := 7
  rd := fun A w cs x => ∃ v, cs = [.int .i64 x.seq, .int .i64 x.owner, .int .i64 x.kind, .int .i64 x.off, .int .i64 x.len, .int .i64 x.snap, v] ∧ RB A w v x.data
  len := fun ⟨v, h, _⟩ => by rw [h]; rfl
  one := fun ⟨v, h, hv⟩ u hu => by
    rw [h] at hu
    simp at hu
    rcases hu with rfl | rfl | rfl | rfl | rfl | rfl | rfl
    all_goals first | rfl | exact hv.one
  mono := fun ⟨v, h, hv⟩ hs => ⟨v, h, hv.mono hs⟩
  weak := fun ⟨v, h, hv⟩ hs => ⟨v, h, hv.weak hs⟩
/-- an entry as it is handed on: with where its data lie -/
abbrev YE := EnD × Option Addr × Nat
abbrev yeV (x : YE) : Value := enV x.1 (.slice x.2.1 x.1.data.length x.2.2)
def yeC (x : YE) : List Value := [.int .i64 x.1.seq, .int .i64 x.1.owner, .int .i64 x.1.kind, .int .i64 x.1.off, .int .i64 x.1.len, .int .i64 x.1.snap, .slice x.2.1 x.1.data.length x.2.2]
set_option maxRecDepth 100000 in
theorem jnext_any (v : Value) (o : ObD) (A : Nat → Prop) (a : Int) (w : World) (hv : ObV A w v o) (h0 : 0 ≤ o.seq) (h1 : o.seq ≤ 1099511627776) (h2 : 0 ≤ a) (h3 : a ≤ 1099511627776) : Calls Tryd.prog 14 #[v, .int .i64 a] w fun e w' => e = .returned (.int .i64 (max o.seq a + 1)) ∧ Below w.heap.size w w' := by
  obtain ⟨dv, kv, rfl, hd, hk⟩ := hv
  obtain ⟨da, dc, rfl⟩ := hd.shape
  obtain ⟨ka, kc, rfl⟩ := hk.shape
  have hm : 0 ≤ max o.seq a ∧ max o.seq a ≤ 1099511627776 := by omega
  have HD := Lib.hid hd
  clear hd hk
  go_enter Tryd.func14, Tryd.ntmps14
  go_wp2
  go_ret
  exact ⟨rfl, by ((repeat' (first | exact Below.refl _ _ | refine below_drewN ?_ _ | refine Below.drew ?_ | refine Below.alloc ?_ ?_ _ | refine Below.trans ?_ (Below.mono (by assumption) ?_))); all_goals (first | exact Nat.le_refl _ | exact Below.size (by assumption) | omega | (simp; done) | (simp; omega)))⟩
end Go.Proofs.YtfeonfihlleoeaaDoor
namespace Go.Proofs.YtfeonfihlleoeaaDoor
open Go.ChangeShapes Go.WideShapes Go.ChangeAt Go.RowKit Go.Deep Go.Joins

theorem list7' {α : Type} {l : List α} (h : l.length = 7) : ∃ a b c d e f g, l = [a, b, c, d, e, f, g] := by
  match l, h with
  | [a, b, c, d, e, f, g], _ => exact ⟨a, b, c, d, e, f, g, rfl⟩
set_option maxRecDepth 100000 in
theorem opn_ent : Opn 24 Enc.ent := by
  refine ⟨by kernel_rfl, fun H enc w n cs y h => ?_⟩
  obtain ⟨xs, m, _, rfl, hl, hlen, hf⟩ := DataW.trod_struct Tryd.underlying24 h
  obtain ⟨c0, c1, c2, c3, c4, c5, c6, rfl⟩ := list7' (hl.trans (show Tryd.prog.cellsOf 24 = 7 by kernel_rfl))
  obtain ⟨y0, y1, y2, y3, y4, y5, y6, rfl⟩ := list7' (l := xs) hlen
  obtain ⟨x0, e0⟩ := opn_cut (y := y0) opn_i (k := 0) rfl (hf 0 _ rfl)
  obtain ⟨x1, e1⟩ := opn_cut (y := y1) opn_i (k := 1) rfl (hf 1 _ rfl)
  obtain ⟨x2, e2⟩ := opn_cut (y := y2) opn_i (k := 2) rfl (hf 2 _ rfl)
  obtain ⟨x3, e3⟩ := opn_cut (y := y3) opn_i (k := 3) rfl (hf 3 _ rfl)
  obtain ⟨x4, e4⟩ := opn_cut (y := y4) opn_i (k := 4) rfl (hf 4 _ rfl)
  obtain ⟨x5, e5⟩ := opn_cut (y := y5) opn_i (k := 5) rfl (hf 5 _ rfl)
  obtain ⟨x6, v, e6, r6⟩ := opn_cut (y := y6) opn_bts (k := 6) rfl (hf 6 _ rfl)
  simp [Enc.int, Enc.bts] at e0 e1 e2 e3 e4 e5 e6
  subst e0 e1 e2 e3 e4 e5 e6
  exact ⟨⟨x0, x1, x2, x3, x4, x5, x6⟩, _, rfl, r6⟩
instance EnD.some : Inhabited EnD := ⟨EnD.none⟩
section
variable {H : Type} {enc : TypeId × Value → H} {W : World} {base : Nat} {v : Value} {d : DataW H} {p : List MemPlace}
set_option maxRecDepth 100000 in
theorem open_ent (hv : Value.okWide Tryd.prog W .any base 24 v) (h : DataW.Trod enc Tryd.prog W 0 (fun _ => true) true 24 v d p) : ∃ (e : EnD) (a : Option Addr) (c : Nat), v = enV e (.slice a e.data.length c) ∧ RB (Hp W) W (.slice a e.data.length c) e.data := by
  obtain ⟨cs, q, rfl, ov, e, hk⟩ := opn_agg Tryd.underlying24 opn_ent hv h
  obtain ⟨a, c, rfl⟩ := hk.shape
  exact ⟨q, a, c, by rw [agg_of_list e], hk⟩
end
end Go.Proofs.YtfeonfihlleoeaaDoor
namespace Go.Proofs.YtfeonfihlleoeaaDoor
open Go.RowKit Go.WideShapes

/-- a row of the call's own; what its data lead to lies in blocks from base on, apart from the row's own -/
structure EnR {α : Type} (E : Enc α) (t : TypeId) (base : Nat) (w : World) (v : Value) (l : List α) : Prop where
  mk ::
  ex : ∃ cs : List (List Value), cs.length = l.length ∧ (∀ (i : Nat) (x : α) (c : List Value), l[i]? = some x → cs[i]? = some c → E.rd (fun b => base ≤ b ∧ v.ownBlock ≠ some b) w c x) ∧ w.ownsRow base t E.size v l.length cs.flatten
section
variable {α : Type} {E : Enc α} {t : TypeId} {base : Nat} {w w' : World} {v v' : Value} {l : List α}
theorem EnR.nil (E : Enc α) (t : TypeId) (base : Nat) (w : World) : EnR E t base w (.slice none 0 0) [] := ⟨⟨[], rfl, fun i x c h => by simp at h, World.ownsRow_nil _ _ _ _⟩⟩
theorem owns_same {n size : Nat} {e : TypeId} {xs : List Value} (h : w.ownsRow base e size v n xs) (hs : Same (fun b => base ≤ b) w w') : w'.ownsRow base e size v n xs := by
  refine ⟨h.1, h.2.imp id ?_⟩
  rintro ⟨g, cap, cur, rfl, h1, h2, h3⟩
  exact ⟨g, cap, cur, rfl, h1, by rw [hs.block g h1 (Array.getElem?_eq_some_iff.1 h2).1]; exact h2, h3⟩
theorem EnR.same (h : EnR E t base w v l) (hs : Same (fun b => base ≤ b) w w') : EnR E t base w' v l := by
  obtain ⟨cs, h1, h2, h3⟩ := h.ex
  exact ⟨⟨cs, h1, fun i x c hi hc => E.mono (h2 i x c hi hc) (hs.weak fun b hb => hb.1), owns_same h3 hs⟩⟩
theorem EnR.same2 (h : EnR E t base w v l) (hs : Same (fun b => base ≤ b ∧ b < w.heap.size) w w') : EnR E t base w' v l := by
  obtain ⟨cs, h1, h2, h3⟩ := h.ex
  refine ⟨⟨cs, h1, fun i x c hi hc => ?_, ?_⟩⟩
  · exact E.weak (E.mono (E.weak (h2 i x c hi hc) (A' := fun b => (base ≤ b ∧ v.ownBlock ≠ some b) ∧ b < w.heap.size) fun b hl hb => ⟨hb, hl⟩) (hs.weak fun b hb => ⟨hb.1.1, hb.2⟩)) fun b _ hb => hb.1
  · refine ⟨h3.1, h3.2.imp id ?_⟩
    rintro ⟨g, cap, cur, rfl, h4, h5, h6⟩
    exact ⟨g, cap, cur, rfl, h4, by rw [hs.block g ⟨h4, (Array.getElem?_eq_some_iff.1 h5).1⟩ (Array.getElem?_eq_some_iff.1 h5).1]; exact h5, h6⟩
theorem EnR.ext (h : EnR E t base w v l) (hb : Below w.heap.size w w') : EnR E t base w' v l := h.same (Same.of_ext hb)
theorem EnR.shape (h : EnR E t base w v l) : ∃ a c, v = .slice a l.length c := by
  obtain ⟨cs, h1, h2, h3⟩ := h.ex
  exact owns_shape h3
theorem EnR.sle (h : EnR E t base w v l) : SlE E (fun b => base ≤ b) w v l := by
  obtain ⟨cs, h1, h2, h3⟩ := h.ex
  exact SlE.of_flat h1 (fun i x c hi hc => E.weak (h2 i x c hi hc) fun b _ hb => hb.1) (SlA.of_owns h3)
theorem EnR.lt (h : EnR E t base w v l) : ∀ g, v.ownBlock = some g → base ≤ g ∧ g < w.heap.size := by
  obtain ⟨cs, h1, h2, h3⟩ := h.ex
  exact fun g hg => h3.lt g hg
end
section
variable {P : Program} {ops : Array Oper} {rest : List Oper} {o : Oper} {a : Act} {Q : Exit → Act → World → Prop}
/-- 'append(out, x)': out of the call's own, x one datum that leads to the call's own memory -/
theorem wpList_pushR {α : Type} (W : World) (hgd : o.guard = none) (s x : Operand) (t : TypeId) (ho : o.op = .call { callee := .builtin .append, args := #[s, x], argTypes := #[t, t] })
    (E : Enc α) (base : Nat) (e : TypeId) (i : TypeInfo) (z : Value) (bytes : Nat) (ht : P.underlying t = some (.slice e)) (hi : P.info? e = some i) (hz : i.zero = some z)
    (hsize : i.size = E.size) (hby : i.bytes = bytes) (hzs : z.cells.size = E.size) (hsz : 0 < E.size) (hbb : bytes ≤ 1000)
    (v : Value) (l : List α) (hs : a.eval s = v) (hown : EnR E e base W v l) (c : List Value) (tt : TypeId) (y : α)
    (hx : a.eval x = .slice (some ⟨W.heap.size, 0, none⟩) 1 1) (hrd : E.rd (fun b => base ≤ b ∧ v.ownBlock ≠ some b) W c y)
    (hl : l.length ≤ 1000000) (hbase : base ≤ W.heap.size)
    (h : ∀ v' w', EnR E e base w' v' (l ++ [y]) → Below base W w' → wpList P ops Q rest (a.put o.dst v') w') : wpList P ops Q (o :: rest) a (W.alloc (.cells c.toArray tt)) := by
  obtain ⟨cs, h1, h2, h3⟩ := hown.ex
  have hal : Below W.heap.size W (W.alloc (.cells c.toArray tt)) := (Below.refl _ _).alloc (Nat.le_refl _) _
  refine wpList_append_own_at _ hgd s x t ho base e i z E.size bytes ht hi hz hsize hby hzs hsz v l.length cs.flatten hs (owns_ext h3 hal) ⟨W.heap.size, 0, none⟩ 1 1 c hx (by rw [Nat.one_mul]; exact E.len hrd) (cells_new W c tt) (E.one hrd) (by unfold maxLen; omega) ?_ (Nat.le_trans hbase hal.size) ?_
  · exact Nat.le_trans (Nat.mul_le_mul (show l.length + 1 ≤ 1000001 by omega) hbb) (by decide)
  · intro v' w' h4 h5 _ h6
    have hb : Below base W w' := ((Below.refl base W).alloc hbase _).grown h5 (by simp; omega) fun j hj => (h3.lt j hj).1
    have hsame : Same (fun b => base ≤ b ∧ v.ownBlock ≠ some b) W w' := by
      refine ⟨hb.size, fun b hb hl => ?_⟩
      rw [h5.block b (by simp; omega) fun e => hb.2 e.symm, Below.heap_alloc _ _ _ hl]
    have hmv : ∀ b, b < W.heap.size → (base ≤ b ∧ v.ownBlock ≠ some b) → (base ≤ b ∧ v'.ownBlock ≠ some b) := fun b hl hb => by
      refine ⟨hb.1, ?_⟩
      rcases h6 with e | e
      · rw [e]; exact hb.2
      · rw [e]
        simp only [World.size_alloc, ne_eq, Option.some.injEq]
        omega
    have key : ∀ c y, E.rd (fun b => base ≤ b ∧ v.ownBlock ≠ some b) W c y → E.rd (fun b => base ≤ b ∧ v'.ownBlock ≠ some b) w' c y := fun c y h =>
      E.weak (E.mono (E.weak h (A' := fun b => (base ≤ b ∧ v.ownBlock ≠ some b) ∧ b < W.heap.size) fun b hl hb => ⟨hb, hl⟩) (hsame.weak fun b hb => hb.1)) fun b _ hb => hmv b hb.2 hb.1
    refine h v' w' ⟨⟨cs ++ [c], by simp [h1], fun i y d hi hd => ?_, by simpa using h4⟩⟩ hb
    by_cases hlt : i < l.length
    · rw [List.getElem?_append_left hlt] at hi
      rw [List.getElem?_append_left (by omega)] at hd
      exact key _ _ (h2 i y d hi hd)
    · have hil := (List.getElem?_eq_some_iff.1 hi).1
      simp only [List.length_append, List.length_singleton] at hil
      have : i = l.length := by omega
      subst this
      rw [List.getElem?_append_right (by omega)] at hi hd
      simp [h1] at hi hd
      subst hi hd
      exact key _ _ hrd
end
end Go.Proofs.YtfeonfihlleoeaaDoor
