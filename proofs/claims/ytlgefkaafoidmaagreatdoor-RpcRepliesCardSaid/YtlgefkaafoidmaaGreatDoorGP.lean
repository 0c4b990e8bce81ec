/- Rows of the call's own that hold data: append of one datum at a step of a region that draws its order; append of a row. No program is named. The walk of terrazzoref09.Unpack. -/
import Derived.Test.YtlgefkaafoidmaaGreatDoorGL
import Derived.Deep.AppendLies
import Derived.Deep.RegionHeldLaw
import Derived.Test.YtlgefkaafoidmaaGreatDoorGO
import Derived.Test.YtlgefkaafoidmaaGreatDoorGN
import Derived.Test.YtlgefkaafoidmaaGreatDoorTun9
namespace Go.Proofs.YtlgefkaafoidmaaGreatDoor
open Go.RowKit Go.WideShapes

section
variable {P : Program} {ops : Array Oper} {o : Oper} {a : Act} {K : Act → World → Prop} {Q : Exit → Act → World → Prop} {Z : Prop}
/-- 'append(out, x)': out of the call's own, x one datum that lies in a block of its own -/
theorem step_push {α : Type} (w : World) (hgd : o.guard = none) (s x : Operand) (t : TypeId) (ho : o.op = .call { callee := .builtin .append, args := #[s, x], argTypes := #[t, t] })
    (E : Enc α) (A : Nat → Prop) (base : Nat) (e : TypeId) (i : TypeInfo) (z : Value) (bytes : Nat) (ht : P.underlying t = some (.slice e)) (hi : P.info? e = some i) (hz : i.zero = some z)
    (hsize : i.size = E.size) (hby : i.bytes = bytes) (hzs : z.cells.size = E.size) (hsz : 0 < E.size) (hbb : bytes ≤ 1000)
    (v : Value) (l : List α) (hs : a.eval s = v) (hown : EnRow E e A base w v l) (B : Nat) (c : List Value) (tt : TypeId) (y : α)
    (hx : a.eval x = .slice (some ⟨B, 0, none⟩) 1 1) (hB : w.heap[B]? = some (.cells c.toArray tt (0, 0))) (hrd : E.rd A w c y)
    (hl : l.length ≤ 1000000) (hbase : base ≤ w.heap.size) (hA : ∀ b, A b → b < base)
    (h : ∀ g cap w', EnRow E e A base w' (.slice (some ⟨g, 0, none⟩) (l.length + 1) cap) (l ++ [y]) → w.grownBy w' v.ownBlock → Below base w w' → (v.ownBlock = some g ∨ g = w.heap.size) → K (a.put o.dst (.slice (some ⟨g, 0, none⟩) (l.length + 1) cap)) w') :
    if Region.wanted o (yielded ops a.tmps) = true then Oper.wp P o a w K Q else Z := by
  obtain ⟨cs, h1, h2, h3⟩ := hown.ex
  refine step_append_lies w hgd s x t ho base e i z E.size bytes ht hi hz hsize hby hzs hsz v l.length cs.flatten hs h3 ⟨B, 0, none⟩ 1 1 c hx (by rw [Nat.one_mul]; exact E.len hrd) (fun j u hj => World.news_of_block hB j u (by simpa using hj)) (E.one hrd) (by decide) (by unfold maxLen; omega) ?_ hbase w.heap.size rfl ?_
  · exact Nat.le_trans (Nat.mul_le_mul (show l.length + 1 ≤ 1000001 by omega) hbb) (by decide)
  · intro g cap w' h4 h5 h6 _
    have hb : Below base w w' := (Below.refl base w).grown h5 hbase fun j hj => (h3.lt j hj).1
    exact h g cap w' (EnRow.push h1 h2 (Same.of_below hb hA) hrd (by simpa using h4)) h5 hb h6
end
section
variable {P : Program} {ops : Array Oper} {rest : List Oper} {o : Oper} {a : Act} {Q : Exit → Act → World → Prop}
/-- 'append(out, x)' at a list of operations, with where the new row lies -/
theorem wpList_pushG {α : Type} (w : World) (hgd : o.guard = none) (s x : Operand) (t : TypeId) (ho : o.op = .call { callee := .builtin .append, args := #[s, x], argTypes := #[t, t] })
    (E : Enc α) (A : Nat → Prop) (base : Nat) (e : TypeId) (i : TypeInfo) (z : Value) (bytes : Nat) (ht : P.underlying t = some (.slice e)) (hi : P.info? e = some i) (hz : i.zero = some z)
    (hsize : i.size = E.size) (hby : i.bytes = bytes) (hzs : z.cells.size = E.size) (hsz : 0 < E.size) (hbb : bytes ≤ 1000)
    (v : Value) (l : List α) (hs : a.eval s = v) (hown : EnRow E e A base w v l) (B : Nat) (c : List Value) (tt : TypeId) (y : α)
    (hx : a.eval x = .slice (some ⟨B, 0, none⟩) 1 1) (hB : w.heap[B]? = some (.cells c.toArray tt (0, 0))) (hrd : E.rd A w c y)
    (hl : l.length ≤ 1000000) (hbase : base ≤ w.heap.size) (hA : ∀ b, A b → b < base)
    (h : ∀ g cap w', EnRow E e A base w' (.slice (some ⟨g, 0, none⟩) (l.length + 1) cap) (l ++ [y]) → w.grownBy w' v.ownBlock → Below base w w' → (v.ownBlock = some g ∨ g = w.heap.size) → wpList P ops Q rest (a.put o.dst (.slice (some ⟨g, 0, none⟩) (l.length + 1) cap)) w') :
    wpList P ops Q (o :: rest) a w := by
  obtain ⟨cs, h1, h2, h3⟩ := hown.ex
  refine wpList_append_lies w hgd s x t ho base e i z E.size bytes ht hi hz hsize hby hzs hsz v l.length cs.flatten hs h3 ⟨B, 0, none⟩ 1 1 c hx (by rw [Nat.one_mul]; exact E.len hrd) (fun j u hj => World.news_of_block hB j u (by simpa using hj)) (E.one hrd) (by decide) (by unfold maxLen; omega) ?_ hbase w.heap.size rfl ?_
  · exact Nat.le_trans (Nat.mul_le_mul (show l.length + 1 ≤ 1000001 by omega) hbb) (by decide)
  · intro g cap w' h4 h5 h6 _
    have hb : Below base w w' := (Below.refl base w).grown h5 hbase fun j hj => (h3.lt j hj).1
    exact h g cap w' (EnRow.push h1 h2 (Same.of_below hb hA) hrd (by simpa using h4)) h5 hb h6
/-- 'append(out, src...)': out of the call's own, src any row of data -/
theorem wpList_appE {α : Type} (w : World) (hgd : o.guard = none) (s x : Operand) (t : TypeId) (ho : o.op = .call { callee := .builtin .append, args := #[s, x], argTypes := #[t, t] })
    (E : Enc α) (A : Nat → Prop) (base : Nat) (e : TypeId) (i : TypeInfo) (z : Value) (bytes : Nat) (ht : P.underlying t = some (.slice e)) (hi : P.info? e = some i) (hz : i.zero = some z)
    (hsize : i.size = E.size) (hby : i.bytes = bytes) (hzs : z.cells.size = E.size) (hsz : 0 < E.size) (hbb : bytes ≤ 1000)
    (v : Value) (l : List α) (hs : a.eval s = v) (hown : EnRow E e A base w v l) (sv : Value) (m : List α)
    (hx : a.eval x = sv) (hsl : SlE E A w sv m) (hl : l.length + m.length ≤ 1000000) (hbase : base ≤ w.heap.size) (hA : ∀ b, A b → b < base)
    (h : ∀ v' w', EnRow E e A base w' v' (l ++ m) → Below base w w' → wpList P ops Q rest (a.put o.dst v') w') : wpList P ops Q (o :: rest) a w := by
  obtain ⟨cs, h1, h2, h3⟩ := hown.ex
  obtain ⟨ds, k1, k2, k3⟩ := hsl.flat
  have hone : ∀ u ∈ ds.flatten, u.oneCell' = true := by
    intro u hu
    obtain ⟨c, hc, hu⟩ := List.mem_flatten.1 hu
    obtain ⟨j, hj, rfl⟩ := List.getElem_of_mem hc
    exact E.one (k2 j _ _ (List.getElem?_eq_getElem (by omega)) (List.getElem?_eq_getElem hj)) u hu
  refine wpList_append_sl hgd s x t ho base e i z E.size bytes ht hi hz hsize hby hzs hsz v l.length cs.flatten hs h3 A sv m.length ds.flatten hx k3 hone (by unfold maxLen; omega) ?_ hbase ?_
  · exact Nat.le_trans (Nat.mul_le_mul (show l.length + m.length ≤ 1000001 by omega) hbb) (by decide)
  · intro v' w' h4 h5
    have hb : Below base w w' := (Below.refl base w).grown h5 hbase fun j hj => (h3.lt j hj).1
    refine h v' w' ⟨⟨cs ++ ds, by simp [h1, k1], fun i y d hi hd => ?_, by simpa using h4⟩⟩ hb
    by_cases hlt : i < l.length
    · rw [List.getElem?_append_left hlt] at hi
      rw [List.getElem?_append_left (by omega)] at hd
      exact E.mono (h2 i y d hi hd) (Same.of_below hb hA)
    · rw [List.getElem?_append_right (by omega)] at hi hd
      rw [h1] at hd
      exact E.mono (k2 _ y d hi hd) (Same.of_below hb hA)
end
theorem EnRow.set {α : Type} {E : Enc α} {t : TypeId} {A : Nat → Prop} {base p j : Nat} {w : World} {v x : Value} {l : List α} (h : EnRow E t A base w v l) (hv : v.ownBlock ≠ some p) (hA : ¬ A p) : EnRow E t A base (w.setCell ⟨p, j, none⟩ x) v l := by
  obtain ⟨cs, h1, h2, h3⟩ := h.ex
  refine ⟨⟨cs, h1, fun i y c hi hc => E.mono (h2 i y c hi hc) ⟨by simp [World.setCell], fun b hb _ => Below.heap_setCell _ _ _ _ (fun e => hA (by have e2 : b = p := e; rw [← e2]; exact hb))⟩, ?_⟩⟩
  refine ⟨h3.1, h3.2.imp id ?_⟩
  rintro ⟨g, cap, cur, rfl, h4, h5, h6⟩
  refine ⟨g, cap, cur, rfl, h4, (Below.heap_setCell _ _ _ _ (fun e => hv (by have e2 : g = p := e; rw [e2]; rfl))).trans h5, h6⟩
/-- a row of one datum that the call has made -/
theorem EnRow.one {α : Type} {E : Enc α} {t : TypeId} {A : Nat → Prop} {base g : Nat} {w : World} {c : List Value} {y : α} (hb : w.heap[g]? = some (.cells c.toArray t (0, 0))) (hr : E.rd A w c y) (hg : base ≤ g) : EnRow E t A base w (.slice (some ⟨g, 0, none⟩) 1 1) [y] := by
  have hlen := E.len hr
  refine ⟨⟨[c], rfl, fun i x d hi hd => ?_, by simp [hlen], .inr ⟨g, 1, c.toArray, rfl, hg, hb, Nat.le_refl _, by unfold maxLen; omega, by simp [hlen], ?_⟩⟩⟩
  · match i, hi, hd with
    | 0, hi, hd => cases hi; cases hd; exact hr
  · rw [List.take_of_length_le (by simp [hlen])]
    simp
end Go.Proofs.YtlgefkaafoidmaaGreatDoor
namespace Go.Proofs.YtlgefkaafoidmaaGreatDoor
open Go.RowKit Go.WideShapes

def RunQ (A : Nat → Prop) (x : TxD × Int) (w : World) (e : Ending) (w' : World) : Prop := ∃ va, e = .returned (.tuple #[.agg #[.string x.1.obj, va], .int .i64 x.2]) ∧ SlE Enc.op (fun b => A b ∨ w.heap.size ≤ b) w' va x.1.ops ∧ Below w.heap.size w w'
theorem IsRq.set {A : Nat → Prop} {w : World} {p q j : Nat} {r : Rd} {x : Value} (h : IsRq A w p r) (hq : q ≠ p) (hA : ∀ b, A b → b ≠ q) : IsRq A (w.setCell ⟨q, j, none⟩ x) p r :=
  h.same (B := fun b => b ≠ q) ⟨by simp [World.setCell], fun b hb _ => Below.heap_setCell _ _ _ _ hb⟩ (fun e => hq e.symm) hA
theorem EnRow.same2 {α : Type} {E : Enc α} {t : TypeId} {A : Nat → Prop} {base : Nat} {w w' : World} {v : Value} {l : List α} (h : EnRow E t A base w v l) (hA : Same A w w') (hs : Same (fun b => base ≤ b ∧ b < w.heap.size) w w') : EnRow E t A base w' v l := by
  obtain ⟨cs, h1, h2, h3⟩ := h.ex
  refine ⟨⟨cs, h1, fun i x c hi hc => E.mono (h2 i x c hi hc) hA, ?_⟩⟩
  refine ⟨h3.1, h3.2.imp id ?_⟩
  rintro ⟨g, cap, cur, rfl, h4, h5, h6⟩
  exact ⟨g, cap, cur, rfl, h4, by rw [hs.block g ⟨h4, (Array.getElem?_eq_some_iff.1 h5).1⟩ (Array.getElem?_eq_some_iff.1 h5).1]; exact h5, h6⟩
theorem EnRow.lt {α : Type} {E : Enc α} {t : TypeId} {A : Nat → Prop} {base : Nat} {w : World} {v : Value} {l : List α} (h : EnRow E t A base w v l) : ∀ g, v.ownBlock = some g → base ≤ g ∧ g < w.heap.size := by
  obtain ⟨cs, h1, h2, h3⟩ := h.ex
  exact fun g hg => h3.lt g hg
theorem RunQ.ok {A : Nat → Prop} {l : List UInt8} {y : List OpD × Rd} {va : Value} {w w' : World} (hy : unpY l = y) (h : y.2.fin.e = 0) (hE : txE ⟨⟨(unpHead l).1.toArray⟩, y.1⟩ = 0) (hv : SlE Enc.op (fun b => A b ∨ w.heap.size ≤ b) w' va y.1) (hb : Below w.heap.size w w') :
    RunQ A (txUn l) w (.returned (.tuple #[.agg #[.string ⟨(unpHead l).1.toArray⟩, va], .int .i64 0])) w' := by
  rw [txUn_ok ((unpE_chk hy h).trans hE)]
  refine ⟨va, rfl, ?_, hb⟩
  show SlE _ _ _ _ (unpY l).1
  rw [hy]
  exact hv
theorem RunQ.bad {A : Nat → Prop} {l : List UInt8} {E : Int} {w w' : World} (h : unpE l = E) (hE : E ≠ 0) (hb : Below w.heap.size w w') : RunQ A (txUn l) w (.returned (.tuple #[.agg #[.string ⟨#[]⟩, .slice none 0 0], .int .i64 E])) w' := by
  rw [txUn_bad (by rw [h]; exact hE), h]
  exact ⟨_, rfl, SlE.nil _ _ _, hb⟩
theorem three_new (w : World) (a b c : Obj) : (((w.alloc a).alloc b).alloc c).heap[w.heap.size]? = (w.alloc a).heap[w.heap.size]? ∧ (((w.alloc a).alloc b).alloc c).heap[w.heap.size + 1]? = ((w.alloc a).alloc b).heap[w.heap.size + 1]? :=
  ⟨((Below.heap_alloc _ _ _ (by simp; omega)).trans (Below.heap_alloc _ _ _ (by simp))), Below.heap_alloc _ _ _ (by simp)⟩
set_option maxRecDepth 100000 in
set_option maxHeartbeats 16000000 in
theorem runpack_any (A : Nat → Prop) (v : Value) (l : List UInt8) (w : World) (hv : RB A w v l) (hl : l.length ≤ 100000) : Calls Tryz.prog 35 #[v] w (RunQ A (txUn l) w) := by
  obtain ⟨a0, c0, rfl⟩ := hv.shape
  have HV : Hid (RB (fun b => A b ∧ b < w.heap.size) w (.slice a0 l.length c0) l) := Lib.hid (SlA.cut hv)
  obtain ⟨i0, hi, hz0, hz1, hz2⟩ := info_parts infoOpT
  clear hv
  go_enter Tryz.func35, Tryz.ntmps35
  go_wp2_with fail
  obtain ⟨w0, hw0⟩ : ∃ w0, w0 = ((w.alloc (.cells #[.string ⟨#[]⟩, .slice none 0 0] 24)).alloc (.cells #[.slice a0 l.length c0, .int .i64 0] 75)).alloc (.cells #[.string ⟨#[]⟩, .slice none 0 0] 24) := ⟨_, rfl⟩
  rw [← hw0]
  have hb0 : Below w.heap.size w w0 := by rw [hw0]; ((repeat' (first | exact Below.refl _ _ | refine below_drewN ?_ _ | refine Below.drew ?_ | refine Below.alloc ?_ ?_ _ | refine Below.trans ?_ (Below.mono (by assumption) ?_))); all_goals (first | exact Nat.le_refl _ | exact Below.size (by assumption) | omega | (simp; done) | (simp; omega)))
  have RR := Lib.hid (show w0.heap[w.heap.size]? = some (.cells #[.string ⟨#[]⟩, .slice none 0 0] 24 (0, 0)) from by rw [hw0]; exact (three_new _ _ _ _).1.trans (heap_alloc_new _ _))
  have RQ : Hid (w0.heap[w.heap.size + 1]? = some (.cells #[.slice a0 l.length c0, .int .i64 ((0 : Nat) : Int)] 75 (0, 0))) := Lib.hid (by rw [hw0]; refine (three_new _ _ _ _).2.trans ?_; have := heap_alloc_new (w.alloc (.cells #[.string ⟨#[]⟩, .slice none 0 0] 24)) (.cells #[.slice a0 l.length c0, .int .i64 0] 75); simpa using this)
  have T := Lib.hid (show w0.heap[w.heap.size + 1 + 1]? = some (.cells #[.string ⟨#[]⟩, .slice none 0 0] 24 (0, 0)) from by rw [hw0]; have := heap_alloc_new ((w.alloc (.cells #[.string ⟨#[]⟩, .slice none 0 0] 24)).alloc (.cells #[.slice a0 l.length c0, .int .i64 0] 75)) (.cells #[.string ⟨#[]⟩, .slice none 0 0] 24); simpa using this)
  have hs0 : w.heap.size + 1 + 1 < w0.heap.size := by rw [hw0]; simp
  have RD : Hid (IsRq (fun b => A b ∧ b < w.heap.size) w0 (w.heap.size + 1) ⟨l, 0⟩) := Lib.hid ⟨⟨_, RQ.out, HV.out.ext hb0⟩, by omega⟩
  have HB := Lib.hid hb0
  have HSM : Hid (Rd.small ⟨l, 0⟩) := Lib.hid ⟨hl, (by show (0 : Nat) < 1000; decide)⟩
  clear hw0 hb0 HV RQ
  obtain ⟨p, hp⟩ : ∃ p, p = w.heap.size + 1 := ⟨_, rfl⟩
  rw [← hp] at RD T hs0 ⊢
  obtain ⟨pt, hpt⟩ : ∃ x, x = p + 1 := ⟨_, rfl⟩
  rw [← hpt] at T hs0 ⊢
  have hp1 : w.heap.size < p := by omega
  have hp2 : p < pt := by omega
  clear hp hpt
  refine (qblob_any _ p 12 ⟨l, 0⟩ _ RD.out (by omega) HSM.out.len HSM.out.err (HSM.out.num 2).err).mono ?_
  rintro e w2 ⟨vb, rfl, hvb, hr2, hf2⟩
  have HH : Hid (unpHead l = (⟨l, 0⟩ : Rd).blob 12) := Lib.hid rfl
  have HSM2 := Lib.hid (HSM.out.blob 12)
  rw [← HH.out] at hvb hr2 HSM2
  obtain ⟨ab, cb, rfl⟩ := hvb.shape
  have s2 := cnv_bytes hvb w2 (Below.refl _ _)
  have RD2 := Lib.hid hr2
  have RR2 := Lib.hid ((hf2.block _ (by omega) (by omega)).trans RR.out)
  have T2 := Lib.hid ((hf2.block _ (by omega) (by omega)).trans T.out)
  have HB2 := Lib.hid (HB.out.trans (hf2.below HB.out.size fun j hj h => by omega))
  have hs2 := hf2.size
  obtain ⟨y0, z0⟩ := blk_cell (i := 0) T2.out
  obtain ⟨y1, z1⟩ := blk_cell (i := 1) T2.out
  simp at y0 y1
  clear hvb hr2 hf2 RD RR T HB HSM HH
  go_upto_region 4 with fail
  obtain ⟨w3, hw3⟩ : ∃ w3, w3 = w2.setCell ⟨pt, 0, none⟩ (.string ⟨(unpHead l).1.toArray⟩) := ⟨_, rfl⟩
  rw [← hw3]
  have T3 := Lib.hid (show w3.heap[pt]? = some (.cells #[.string ⟨(unpHead l).1.toArray⟩, .slice none 0 0] 24 (0, 0)) from by rw [hw3]; exact setCell_blk T2.out)
  have RD3 : Hid (IsRq (fun b => A b ∧ b < w.heap.size) w3 p (unpHead l).2) := Lib.hid (by rw [hw3]; exact IsRq.set RD2.out (by omega) (fun b hb => by omega))
  have RR3 := Lib.hid (show w3.heap[w.heap.size]? = some (.cells #[.string ⟨#[]⟩, .slice none 0 0] 24 (0, 0)) from by rw [hw3]; exact (Below.heap_setCell _ _ _ _ (show w.heap.size ≠ pt by omega)).trans RR2.out)
  have HB3 := Lib.hid (show Below w.heap.size w w3 from by rw [hw3]; exact HB2.out.setCell (show w.heap.size ≤ pt by omega) _)
  have hs3 : pt < w3.heap.size := by rw [hw3]; simp [World.setCell]; omega
  clear hw3 RD2 RR2 T2 HB2 s2 y0 z0 y1 z1
  go_wp2_with fail
  refine (qnum_any _ p 1 _ _ RD3.out (by omega) (by omega) HSM2.out.len HSM2.out.err).mono ?_
  rintro e w4 ⟨rfl, hr4, hf4⟩
  have HN : Hid (unpN l = (unpHead l).2.num 1) := Lib.hid rfl
  have HSM4 := Lib.hid (HSM2.out.num 1)
  have hnl := Rd.num_lt (unpHead l).2 1
  rw [← HN.out] at hr4 HSM4 hnl ⊢
  have RD4 := Lib.hid hr4
  have RR4 := Lib.hid ((hf4.block _ (by omega) (by omega)).trans RR3.out)
  have T4 := Lib.hid ((hf4.block _ (by omega) (by omega)).trans T3.out)
  have HB4 := Lib.hid (HB3.out.trans (hf4.below HB3.out.size fun j hj h => by omega))
  have hs4 := hf4.size
  have HC : Hid (unpC l = if 12 < (unpN l).1 then (unpN l).2.fail 11 else (unpN l).2) := Lib.hid rfl
  have HY : Hid (unpY l = unpOps (unpN l).1 (unpC l)) := Lib.hid rfl
  clear hr4 hf4 RD3 RR3 T3 HB3 HN HSM2
  generalize unpC l = C at *
  generalize unpN l = N at *
  obtain ⟨n, rn⟩ := N
  simp only at HC HY HSM4 RD4 hnl ⊢
  go_upto_if 20 with fail
  go_cut [6] (fun s6 wx => s6 = .int .i64 (n : Nat) ∧ IsRq (fun b => A b ∧ b < w.heap.size) wx p C ∧ C.small ∧ wx.heap[w.heap.size]? = some (.cells #[.string ⟨#[]⟩, .slice none 0 0] 24 (0, 0)) ∧ wx.heap[pt]? = some (.cells #[.string ⟨(unpHead l).1.toArray⟩, .slice none 0 0] 24 (0, 0)) ∧ Below w.heap.size w wx)
  case first =>
    by_cases h12 : 12 < n
    · have h12' : (12 : Int) < n := by omega
      have HCC : Hid (C = rn.fail 11) := Lib.hid (by rw [HC.out, if_pos h12])
      clear h12 HC
      go_wp2_with fail
      refine (qfail_any _ p rn 11 _ RD4.out (by omega) HSM4.out.err).mono ?_
      rintro e w5 ⟨rfl, hr5, hf5⟩
      go_wp2_with fail
      go_meet
      exact ⟨rfl, by rw [HCC.out]; exact hr5, by rw [HCC.out]; exact HSM4.out.fail (by decide), (hf5.block _ (by omega) (by omega)).trans RR4.out, (hf5.block _ (by omega) (by omega)).trans T4.out, HB4.out.trans (hf5.below HB4.out.size fun j hj h => by omega)⟩
    · have h12' : ¬ (12 : Int) < n := by omega
      have HCC : Hid (C = rn) := Lib.hid (by rw [HC.out, if_neg h12])
      clear h12 HC
      go_wp2_with fail
      go_meet
      exact ⟨rfl, by rw [HCC.out]; exact RD4.out, by rw [HCC.out]; exact HSM4.out, RR4.out, T4.out, HB4.out⟩
  case rest =>
    obtain ⟨rfl, hR, hS, hRR, hT, hB⟩ := hcut
    have HS0 := Lib.hid hS
    have RD0 := Lib.hid hR
    have RR0 := Lib.hid hRR
    have T0 := Lib.hid hT
    have HB0 := Lib.hid hB
    have hpc : pt < wc.heap.size := (Array.getElem?_eq_some_iff.1 hT).1
    clear hR hS hRR hT hB RD4 RR4 T4 HB4 HSM4 HC
    go_wp2
    go_loopw [7] (fun q7 wr => ∃ k : Nat, k ≤ n ∧ q7 = .int .i64 k ∧ ∃ (r : Rd) (acc : List OpD) (va : Value), IsRq (fun b => A b ∧ b < w.heap.size) wr p r ∧ r.small ∧ wr.heap[w.heap.size]? = some (.cells #[.string ⟨#[]⟩, .slice none 0 0] 24 (0, 0)) ∧
      wr.heap[pt]? = some (.cells #[.string ⟨(unpHead l).1.toArray⟩, va] 24 (0, 0)) ∧ EnRow Enc.op 58 (fun b => A b ∧ b < w.heap.size) (pt + 1) wr va acc ∧ acc.length ≤ k ∧ unpY l = (acc ++ (unpOps (n - k) r).1, (unpOps (n - k) r).2) ∧ Below w.heap.size w wr) (fun q7 _ => n - (intOf q7).toNat)
    case atStart => exact ⟨0, Nat.zero_le _, rfl, C, [], _, RD0.out, HS0.out, RR0.out, T0.out, EnRow.nil _ _ _ _ _, Nat.zero_le _, by rw [HY.out]; rfl, HB0.out⟩
    case round =>
      obtain ⟨k, hk, rfl, r, acc, va, hR, hS, hRR, hT, hE, hal, hY, hB⟩ := hrel
      obtain ⟨ta, tc, rfl⟩ := hE.shape
      obtain ⟨vr, hbr, -⟩ := hR.ex
      obtain ⟨e0, g0⟩ := blk_cell (i := 0) hbr
      obtain ⟨e1, g1⟩ := blk_cell (i := 1) hbr
      simp at e0 e1
      have HS := Lib.hid hS
      have RD := Lib.hid hR
      have RR := Lib.hid hRR
      have T := Lib.hid hT
      have HE := Lib.hid hE
      have HYY := Lib.hid hY
      have HB := Lib.hid hB
      have hpr : pt < wr.heap.size := (Array.getElem?_eq_some_iff.1 hT).1
      clear hR hS hRR hT hE hY hB HS0 RD0 RR0 T0 HB0 HY hbr
      by_cases hlt : k < n
      · by_cases h0 : r.e = 0
        · have H0 := Lib.hid h0
          have t1 : ((r.e : Int) == 0) = true := by simp [h0]
          clear h0
          go_upto_region 11 with fail
          obtain ⟨wy, hwy⟩ : ∃ wy, wy = wr.alloc (.cells #[.int .i64 0, .int .i64 0, .int .i64 0, .string ⟨#[]⟩, .slice none 0 0] 58) := ⟨_, rfl⟩
          rw [← hwy]
          have hby : Below wr.heap.size wr wy := by rw [hwy]; ((repeat' (first | exact Below.refl _ _ | refine below_drewN ?_ _ | refine Below.drew ?_ | refine Below.alloc ?_ ?_ _ | refine Below.trans ?_ (Below.mono (by assumption) ?_))); all_goals (first | exact Nat.le_refl _ | exact Below.size (by assumption) | omega | (simp; done) | (simp; omega)))
          have OP := Lib.hid (show wy.heap[wr.heap.size]? = some (.cells #[.int .i64 0, .int .i64 0, .int .i64 0, .string ⟨#[]⟩, .slice none 0 0] 58 (0, 0)) from by rw [hwy]; exact heap_alloc_new _ _)
          have RDb : Hid (IsRq (fun b => A b ∧ b < w.heap.size) wy p r) := Lib.hid (RD.out.ext hby)
          have HF : Hid (Fr (fun k => k = p) wr wy) := Lib.hid (Fr.ext hby)
          have hpl : wr.heap.size < wy.heap.size := by rw [hwy]; simp
          have HU : Hid (unpOp r = (⟨(r.num 1).1, ((r.num 1).2.num 6).1, (((r.num 1).2.num 6).2.num 6).1, ⟨((((r.num 1).2.num 6).2.num 6).2.blob 12).1.toArray⟩, (((((r.num 1).2.num 6).2.num 6).2.blob 12).2.blob 2048).1⟩, (((((r.num 1).2.num 6).2.num 6).2.blob 12).2.blob 2048).2)) := Lib.hid rfl
          clear hwy hby RD e0 g0 e1 g1
          obtain ⟨po, hpo⟩ : ∃ po, po = wr.heap.size := ⟨_, rfl⟩
          have HPO := Lib.hid hpo
          rw [← hpo] at OP hpl hpr ⊢
          clear hpo
          have HSM := HS
          obtain ⟨y0, g0⟩ := blk_cell (i := 0) (OP.out)
          obtain ⟨y1, g1⟩ := blk_cell (i := 1) (OP.out)
          obtain ⟨y2, g2⟩ := blk_cell (i := 2) (OP.out)
          obtain ⟨y3, g3⟩ := blk_cell (i := 3) (OP.out)
          obtain ⟨y4, g4⟩ := blk_cell (i := 4) (OP.out)
          simp at y0 y1 y2 y3 y4
          go_wp2_with fail
          refine (qnum_any _ p 1 r _ RDb.out (by omega) (by omega) HSM.out.len HSM.out.err).mono ?_
          rintro e wa0 ⟨rfl, hr, hf⟩
          have HSM0 := Lib.hid (HSM.out.num 1)
          generalize r.num 1 = X at *
          obtain ⟨x0, r0⟩ := X
          simp only at hr HSM0 HU ⊢
          have OP0 := Lib.hid ((hf.block po (by omega) (by omega)).trans OP.out)
          have HF0 := Lib.hid (HF.out.trans hf fun _ _ h => h)
          have RDa0 := Lib.hid hr
          have hpl0 : po < wa0.heap.size := by have := hf.size; omega
          clear hr hf OP HF RDb HSM y0 g0 y1 g1 y2 g2 y3 g3 y4 g4
          have HSM := HSM0
          obtain ⟨y0, g0⟩ := blk_cell (i := 0) (OP0.out)
          obtain ⟨y1, g1⟩ := blk_cell (i := 1) (OP0.out)
          obtain ⟨y2, g2⟩ := blk_cell (i := 2) (OP0.out)
          obtain ⟨y3, g3⟩ := blk_cell (i := 3) (OP0.out)
          obtain ⟨y4, g4⟩ := blk_cell (i := 4) (OP0.out)
          simp at y0 y1 y2 y3 y4
          go_upto_region 12 with fail
          obtain ⟨wb0, hwz⟩ : ∃ wz, wz = wa0.setCell ⟨po, 0, none⟩ (.int .i64 (x0 : Nat)) := ⟨_, rfl⟩
          rw [← hwz]
          have OP := Lib.hid (show wb0.heap[po]? = some (.cells #[.int .i64 (x0 : Nat), .int .i64 0, .int .i64 0, .string ⟨#[]⟩, .slice none 0 0] 58 (0, 0)) from by rw [hwz]; exact set5_blk0 OP0.out)
          have HF : Hid (Fr (fun k => k = p) wr wb0) := Lib.hid (by rw [hwz]; exact HF0.out.setCell (a := ⟨po, 0, none⟩) (fun h => absurd h (by have := HPO.out; simp only; omega)) _)
          have RDb : Hid (IsRq (fun b => A b ∧ b < w.heap.size) wb0 p r0) := Lib.hid (by rw [hwz]; exact IsRq.set RDa0.out (by omega) (fun b hb => by omega))
          have hpl : po < wb0.heap.size := by rw [hwz]; simpa [World.setCell] using hpl0
          clear hwz OP0 HF0 RDa0 hpl0 y0 g0 y1 g1 y2 g2 y3 g3 y4 g4
          obtain ⟨y0, g0⟩ := blk_cell (i := 0) (OP.out)
          obtain ⟨y1, g1⟩ := blk_cell (i := 1) (OP.out)
          obtain ⟨y2, g2⟩ := blk_cell (i := 2) (OP.out)
          obtain ⟨y3, g3⟩ := blk_cell (i := 3) (OP.out)
          obtain ⟨y4, g4⟩ := blk_cell (i := 4) (OP.out)
          simp at y0 y1 y2 y3 y4
          go_wp2_with fail
          refine (qnum_any _ p 6 r0 _ RDb.out (by omega) (by omega) HSM.out.len HSM.out.err).mono ?_
          rintro e wa1 ⟨rfl, hr, hf⟩
          have HSM1 := Lib.hid (HSM.out.num 6)
          generalize r0.num 6 = X at *
          obtain ⟨x1, r1⟩ := X
          simp only at hr HSM1 HU ⊢
          have OP1 := Lib.hid ((hf.block po (by omega) (by omega)).trans OP.out)
          have HF1 := Lib.hid (HF.out.trans hf fun _ _ h => h)
          have RDa1 := Lib.hid hr
          have hpl1 : po < wa1.heap.size := by have := hf.size; omega
          clear hr hf OP HF RDb HSM y0 g0 y1 g1 y2 g2 y3 g3 y4 g4
          have HSM := HSM1
          obtain ⟨y0, g0⟩ := blk_cell (i := 0) (OP1.out)
          obtain ⟨y1, g1⟩ := blk_cell (i := 1) (OP1.out)
          obtain ⟨y2, g2⟩ := blk_cell (i := 2) (OP1.out)
          obtain ⟨y3, g3⟩ := blk_cell (i := 3) (OP1.out)
          obtain ⟨y4, g4⟩ := blk_cell (i := 4) (OP1.out)
          simp at y0 y1 y2 y3 y4
          go_upto_region 13 with fail
          obtain ⟨wb1, hwz⟩ : ∃ wz, wz = wa1.setCell ⟨po, 1, none⟩ (.int .i64 (x1 : Nat)) := ⟨_, rfl⟩
          rw [← hwz]
          have OP := Lib.hid (show wb1.heap[po]? = some (.cells #[.int .i64 (x0 : Nat), .int .i64 (x1 : Nat), .int .i64 0, .string ⟨#[]⟩, .slice none 0 0] 58 (0, 0)) from by rw [hwz]; exact set5_blk1 OP1.out)
          have HF : Hid (Fr (fun k => k = p) wr wb1) := Lib.hid (by rw [hwz]; exact HF1.out.setCell (a := ⟨po, 1, none⟩) (fun h => absurd h (by have := HPO.out; simp only; omega)) _)
          have RDb : Hid (IsRq (fun b => A b ∧ b < w.heap.size) wb1 p r1) := Lib.hid (by rw [hwz]; exact IsRq.set RDa1.out (by omega) (fun b hb => by omega))
          have hpl : po < wb1.heap.size := by rw [hwz]; simpa [World.setCell] using hpl1
          clear hwz OP1 HF1 RDa1 hpl1 y0 g0 y1 g1 y2 g2 y3 g3 y4 g4
          obtain ⟨y0, g0⟩ := blk_cell (i := 0) (OP.out)
          obtain ⟨y1, g1⟩ := blk_cell (i := 1) (OP.out)
          obtain ⟨y2, g2⟩ := blk_cell (i := 2) (OP.out)
          obtain ⟨y3, g3⟩ := blk_cell (i := 3) (OP.out)
          obtain ⟨y4, g4⟩ := blk_cell (i := 4) (OP.out)
          simp at y0 y1 y2 y3 y4
          go_wp2_with fail
          refine (qnum_any _ p 6 r1 _ RDb.out (by omega) (by omega) HSM.out.len HSM.out.err).mono ?_
          rintro e wa2 ⟨rfl, hr, hf⟩
          have HSM2 := Lib.hid (HSM.out.num 6)
          generalize r1.num 6 = X at *
          obtain ⟨x2, r2⟩ := X
          simp only at hr HSM2 HU ⊢
          have OP2 := Lib.hid ((hf.block po (by omega) (by omega)).trans OP.out)
          have HF2 := Lib.hid (HF.out.trans hf fun _ _ h => h)
          have RDa2 := Lib.hid hr
          have hpl2 : po < wa2.heap.size := by have := hf.size; omega
          clear hr hf OP HF RDb HSM y0 g0 y1 g1 y2 g2 y3 g3 y4 g4
          have HSM := HSM2
          obtain ⟨y0, g0⟩ := blk_cell (i := 0) (OP2.out)
          obtain ⟨y1, g1⟩ := blk_cell (i := 1) (OP2.out)
          obtain ⟨y2, g2⟩ := blk_cell (i := 2) (OP2.out)
          obtain ⟨y3, g3⟩ := blk_cell (i := 3) (OP2.out)
          obtain ⟨y4, g4⟩ := blk_cell (i := 4) (OP2.out)
          simp at y0 y1 y2 y3 y4
          go_upto_region 14 with fail
          obtain ⟨wb2, hwz⟩ : ∃ wz, wz = wa2.setCell ⟨po, 2, none⟩ (.int .i64 (x2 : Nat)) := ⟨_, rfl⟩
          rw [← hwz]
          have OP := Lib.hid (show wb2.heap[po]? = some (.cells #[.int .i64 (x0 : Nat), .int .i64 (x1 : Nat), .int .i64 (x2 : Nat), .string ⟨#[]⟩, .slice none 0 0] 58 (0, 0)) from by rw [hwz]; exact set5_blk2 OP2.out)
          have HF : Hid (Fr (fun k => k = p) wr wb2) := Lib.hid (by rw [hwz]; exact HF2.out.setCell (a := ⟨po, 2, none⟩) (fun h => absurd h (by have := HPO.out; simp only; omega)) _)
          have RDb : Hid (IsRq (fun b => A b ∧ b < w.heap.size) wb2 p r2) := Lib.hid (by rw [hwz]; exact IsRq.set RDa2.out (by omega) (fun b hb => by omega))
          have hpl : po < wb2.heap.size := by rw [hwz]; simpa [World.setCell] using hpl2
          clear hwz OP2 HF2 RDa2 hpl2 y0 g0 y1 g1 y2 g2 y3 g3 y4 g4
          obtain ⟨y0, g0⟩ := blk_cell (i := 0) (OP.out)
          obtain ⟨y1, g1⟩ := blk_cell (i := 1) (OP.out)
          obtain ⟨y2, g2⟩ := blk_cell (i := 2) (OP.out)
          obtain ⟨y3, g3⟩ := blk_cell (i := 3) (OP.out)
          obtain ⟨y4, g4⟩ := blk_cell (i := 4) (OP.out)
          simp at y0 y1 y2 y3 y4
          go_wp2_with fail
          refine (qblob_any _ p 12 r2 _ RDb.out (by omega) HSM.out.len HSM.out.err (HSM.out.num 2).err).mono ?_
          rintro e wa3 ⟨vb3, rfl, hvb3, hr, hf⟩
          have HSM3 := Lib.hid (HSM.out.blob 12)
          generalize r2.blob 12 = X at *
          obtain ⟨x3, r3⟩ := X
          simp only at hr HSM3 HU hvb3 ⊢
          obtain ⟨ab3, cb3, rfl⟩ := hvb3.shape
          have s3 := cnv_bytes hvb3 wa3 (Below.refl _ _)
          have OP3 := Lib.hid ((hf.block po (by omega) (by omega)).trans OP.out)
          have HF3 := Lib.hid (HF.out.trans hf fun _ _ h => h)
          have RDa3 := Lib.hid hr
          have hpl3 : po < wa3.heap.size := by have := hf.size; omega
          clear hr hf OP HF RDb HSM y0 g0 y1 g1 y2 g2 y3 g3 y4 g4
          have HSM := HSM3
          obtain ⟨y0, g0⟩ := blk_cell (i := 0) (OP3.out)
          obtain ⟨y1, g1⟩ := blk_cell (i := 1) (OP3.out)
          obtain ⟨y2, g2⟩ := blk_cell (i := 2) (OP3.out)
          obtain ⟨y3, g3⟩ := blk_cell (i := 3) (OP3.out)
          obtain ⟨y4, g4⟩ := blk_cell (i := 4) (OP3.out)
          simp at y0 y1 y2 y3 y4
          go_upto_region 15 with fail
          obtain ⟨wb3, hwz⟩ : ∃ wz, wz = wa3.setCell ⟨po, 3, none⟩ (.string ⟨x3.toArray⟩) := ⟨_, rfl⟩
          rw [← hwz]
          have OP := Lib.hid (show wb3.heap[po]? = some (.cells #[.int .i64 (x0 : Nat), .int .i64 (x1 : Nat), .int .i64 (x2 : Nat), .string ⟨x3.toArray⟩, .slice none 0 0] 58 (0, 0)) from by rw [hwz]; exact set5_blk3 OP3.out)
          have HF : Hid (Fr (fun k => k = p) wr wb3) := Lib.hid (by rw [hwz]; exact HF3.out.setCell (a := ⟨po, 3, none⟩) (fun h => absurd h (by have := HPO.out; simp only; omega)) _)
          have RDb : Hid (IsRq (fun b => A b ∧ b < w.heap.size) wb3 p r3) := Lib.hid (by rw [hwz]; exact IsRq.set RDa3.out (by omega) (fun b hb => by omega))
          have hpl : po < wb3.heap.size := by rw [hwz]; simpa [World.setCell] using hpl3
          clear hwz OP3 HF3 RDa3 hpl3 y0 g0 y1 g1 y2 g2 y3 g3 y4 g4 hvb3 s3
          obtain ⟨y0, g0⟩ := blk_cell (i := 0) (OP.out)
          obtain ⟨y1, g1⟩ := blk_cell (i := 1) (OP.out)
          obtain ⟨y2, g2⟩ := blk_cell (i := 2) (OP.out)
          obtain ⟨y3, g3⟩ := blk_cell (i := 3) (OP.out)
          obtain ⟨y4, g4⟩ := blk_cell (i := 4) (OP.out)
          simp at y0 y1 y2 y3 y4
          go_wp2_with fail
          refine (qblob_any _ p 2048 r3 _ RDb.out (by omega) HSM.out.len HSM.out.err (HSM.out.num 2).err).mono ?_
          rintro e wa4 ⟨vb4, rfl, hvb4, hr, hf⟩
          have HSM4 := Lib.hid (HSM.out.blob 2048)
          generalize r3.blob 2048 = X at *
          obtain ⟨x4, r4⟩ := X
          simp only at hr HSM4 HU hvb4 ⊢
          obtain ⟨ab4, cb4, rfl⟩ := hvb4.shape
          have OP4 := Lib.hid ((hf.block po (by omega) (by omega)).trans OP.out)
          have HF4 := Lib.hid (HF.out.trans hf fun _ _ h => h)
          have RDa4 := Lib.hid hr
          have hpl4 : po < wa4.heap.size := by have := hf.size; omega
          clear hr hf OP HF RDb HSM y0 g0 y1 g1 y2 g2 y3 g3 y4 g4
          have HSM := HSM4
          obtain ⟨y0, g0⟩ := blk_cell (i := 0) (OP4.out)
          obtain ⟨y1, g1⟩ := blk_cell (i := 1) (OP4.out)
          obtain ⟨y2, g2⟩ := blk_cell (i := 2) (OP4.out)
          obtain ⟨y3, g3⟩ := blk_cell (i := 3) (OP4.out)
          obtain ⟨y4, g4⟩ := blk_cell (i := 4) (OP4.out)
          simp at y0 y1 y2 y3 y4
          go_upto_region 16 with fail
          obtain ⟨wb4, hwz⟩ : ∃ wz, wz = wa4.setCell ⟨po, 4, none⟩ (.slice ab4 x4.length cb4) := ⟨_, rfl⟩
          rw [← hwz]
          have OP := Lib.hid (show wb4.heap[po]? = some (.cells #[.int .i64 (x0 : Nat), .int .i64 (x1 : Nat), .int .i64 (x2 : Nat), .string ⟨x3.toArray⟩, .slice ab4 x4.length cb4] 58 (0, 0)) from by rw [hwz]; exact set5_blk4 OP4.out)
          have HF : Hid (Fr (fun k => k = p) wr wb4) := Lib.hid (by rw [hwz]; exact HF4.out.setCell (a := ⟨po, 4, none⟩) (fun h => absurd h (by have := HPO.out; simp only; omega)) _)
          have RDb : Hid (IsRq (fun b => A b ∧ b < w.heap.size) wb4 p r4) := Lib.hid (by rw [hwz]; exact IsRq.set RDa4.out (by omega) (fun b hb => by omega))
          have hpl : po < wb4.heap.size := by rw [hwz]; simpa [World.setCell] using hpl4
          have HD : Hid (RB (fun b => A b ∧ b < w.heap.size) wb4 (.slice ab4 x4.length cb4) x4) := Lib.hid (by rw [hwz]; exact hvb4.mono (Same.setCell (Same.refl _ _) (by simp; omega) _))
          clear hwz OP4 HF4 RDa4 hpl4 y0 g0 y1 g1 y2 g2 y3 g3 y4 g4 hvb4
          obtain ⟨y0, g0⟩ := blk_cell (i := 0) (OP.out)
          obtain ⟨y1, g1⟩ := blk_cell (i := 1) (OP.out)
          obtain ⟨y2, g2⟩ := blk_cell (i := 2) (OP.out)
          obtain ⟨y3, g3⟩ := blk_cell (i := 3) (OP.out)
          obtain ⟨y4, g4⟩ := blk_cell (i := 4) (OP.out)
          simp at y0 y1 y2 y3 y4
          have hpt2 : pt < wr.heap.size := by have := HPO.out; omega
          have Tq := Lib.hid ((HF.out.block pt hpt2 (by omega)).trans T.out)
          obtain ⟨t0', u0⟩ := blk_cell (i := 0) Tq.out
          obtain ⟨t1', u1⟩ := blk_cell (i := 1) Tq.out
          simp at t0' t1'
          have EQ := Lib.hid (HE.out.same2 ⟨HF.out.size, fun b hb hl => HF.out.block b hl (by omega)⟩ ⟨HF.out.size, fun b hb hl => HF.out.block b hl (by omega)⟩)
          have hpq : pt < wb4.heap.size := by omega
          have HK1 : Hid (Enc.op.rd (fun b => A b ∧ b < w.heap.size) wb4 [.int .i64 (x0 : Nat), .int .i64 (x1 : Nat), .int .i64 (x2 : Nat), .string ⟨x3.toArray⟩, .slice ab4 x4.length cb4] ⟨x0, x1, x2, ⟨x3.toArray⟩, x4⟩) := Lib.hid ⟨_, rfl, HD.out⟩
          go_wp2_with (first | (at_builtin; refine stop_in ?_) | go_in)
          unfold Stop
          refine wpList_push wb4 (by rfl) (.tmp 52) (.tmp 54) 22 (by rfl) Enc.op (fun b => A b ∧ b < w.heap.size) (pt + 1) 58 i0 _ 64 Tryz.underlying22 hi hz0 hz1 hz2 (by rfl) (by decide) (by decide) _ acc (by rfl) EQ.out [.int .i64 (x0 : Nat), .int .i64 (x1 : Nat), .int .i64 (x2 : Nat), .string ⟨x3.toArray⟩, .slice ab4 x4.length cb4] 58 ⟨x0, x1, x2, ⟨x3.toArray⟩, x4⟩ (by rfl) HK1.out (by omega) (by omega) (fun b hb => by omega) ?_
          intro v' w' hE' hB'
          have Tw := Lib.hid ((hB'.block pt (Nat.lt_succ_self _)).trans Tq.out)
          obtain ⟨va', ca', rfl⟩ := hE'.shape
          have HYN : Hid (unpY l = ((acc ++ [⟨x0, x1, x2, ⟨x3.toArray⟩, x4⟩]) ++ (unpOps (n - (k + 1)) r4).1, (unpOps (n - (k + 1)) r4).2)) := Lib.hid (by
            have := HYY.out
            rw [show n - k = (n - (k + 1)) + 1 by omega, unpOps_go H0.out, HU.out] at this
            simpa using this)
          have HRD : Hid (IsRq (fun b => A b ∧ b < w.heap.size) w' p r4) := Lib.hid (RDb.out.same (B := fun b => b < pt + 1) ⟨hB'.size, fun b hb _ => hB'.block b hb⟩ (by omega) (fun b hb => by omega))
          have HRR : Hid (w'.heap[w.heap.size]? = some (.cells #[.string ⟨#[]⟩, .slice none 0 0] 24 (0, 0))) := Lib.hid ((hB'.block _ (by omega)).trans ((HF.out.block _ (by omega) (by omega)).trans RR.out))
          have HBN : Hid (Below w.heap.size w w') := Lib.hid ((HB.out.trans (HF.out.below HB.out.size fun j hj h => by omega)).trans (hB'.mono (by omega)))
          have HEN := Lib.hid (show EnRow Enc.op 58 (fun b => A b ∧ b < w.heap.size) (pt + 1) w' (.slice va' (acc.length + 1) ca') (acc ++ [⟨x0, x1, x2, ⟨x3.toArray⟩, x4⟩]) from by have h := hE'; rw [List.length_append] at h; exact h)
          have hpw2 : pt < w'.heap.size := by have := hB'.size; omega
          clear hE' hB' Tq EQ HK1 t0' u0 t1' u1 y0 g0 y1 g1 y2 g2 y3 g3 y4 g4 HYY HU RDb HF RR HB HE OP HD T
          obtain ⟨t0', u0⟩ := blk_cell (i := 0) Tw.out
          obtain ⟨t1', u1⟩ := blk_cell (i := 1) Tw.out
          simp at t0' t1'
          go_wp2
          go_roundw
          case rel => exact ⟨k + 1, by omega, by go_num, r4, _, _, IsRq.set HRD.out (by omega) (fun b hb => by omega), HSM.out, (Below.heap_setCell _ _ _ _ (show w.heap.size ≠ pt by omega)).trans HRR.out, set2_blk1 Tw.out, HEN.out.set (fun e => by have := HEN.out.lt _ e; omega) (by omega), by simp; omega, HYN.out, HBN.out.setCell (show w.heap.size ≤ pt by omega) _⟩
          case measure => simp [intOf]; omega
        · have HYE : Hid (unpY l = (acc, r)) := Lib.hid (by have := HYY.out; rw [unpOps_halt h0] at this; simpa using this)
          have t1 : ((r.e : Int) == 0) = false := by simp [h0]
          clear h0 HYY
          go_wp2_with fail
          refine (qend_any _ p r _ RD.out HS.out.len HS.out.err).mono ?_
          rintro e w8 ⟨rfl, hr8, hf8⟩
          have RR8 := Lib.hid ((hf8.block _ (by omega) (by omega)).trans RR.out)
          have T8 := Lib.hid ((hf8.block _ (by omega) (by omega)).trans T.out)
          have HB8 := Lib.hid (HB.out.trans (hf8.below HB.out.size fun j hj h => by omega))
          have HE8 := Lib.hid (HE.out.same2 ⟨hf8.size, fun b hb hl => hf8.block b hl (by omega)⟩ ⟨hf8.size, fun b hb hl => hf8.block b hl (by omega)⟩)
          have hwl : w.heap.size < w8.heap.size := (Array.getElem?_eq_some_iff.1 RR8.out).1
          clear hr8 hf8 RR T HB HE RD e0 g0 e1 g1
          obtain ⟨x0, f0⟩ := blk_cell (i := 0) RR8.out
          obtain ⟨x1, f1⟩ := blk_cell (i := 1) RR8.out
          obtain ⟨y0, -⟩ := blk_cell (i := 0) T8.out
          obtain ⟨y1, -⟩ := blk_cell (i := 1) T8.out
          simp at x0 x1 y0 y1
          by_cases hfe : r.fin.e = 0
          · have HFE := Lib.hid hfe
            have u0 : ((r.fin.e : Int) != 0) = false := by simp [hfe]
            have u1 : ((r.fin.e : Int) == 0) = true := by simp [hfe]
            clear hfe
            go_wp2_with fail
            refine (rcheck9_any (fun _ => True) ⟨⟨(unpHead l).1.toArray⟩, acc⟩ _ _ (HE8.out.sle (fun _ _ _ => trivial) (fun _ _ => trivial))).mono ?_
            rintro e w9 ⟨rfl, hb9⟩
            have RR9 := Lib.hid (dblk hb9 RR8.out)
            have T9 := Lib.hid (dblk hb9 T8.out)
            have HB9 := Lib.hid (dcall HB8.out hb9)
            have HE9 := Lib.hid (HE8.out.ext hb9)
            clear hb9 RR8 T8 HB8 HE8 x0 f0 x1 f1 y0 y1
            obtain ⟨x0, f0⟩ := blk_cell (i := 0) RR9.out
            obtain ⟨x1, f1⟩ := blk_cell (i := 1) RR9.out
            obtain ⟨y0, -⟩ := blk_cell (i := 0) T9.out
            obtain ⟨y1, -⟩ := blk_cell (i := 1) T9.out
            simp at x0 x1 y0 y1
            by_cases hte : txE ⟨⟨(unpHead l).1.toArray⟩, acc⟩ = 0
            · have HTE := Lib.hid hte
              rw [hte]
              clear hte
              go_wp2
              refine bodyPost_ret (results_cell_t1 rfl _ _ w.heap.size 24 _ (0, 0) _ rfl (set2_blk RR9.out) Tryz.underlying24 rfl (by kernel_rfl)) rfl ?_
              exact RunQ.ok HYE.out HFE.out HTE.out ((HE9.out.same2 ⟨by simp [World.setCell], fun b hb _ => (Below.heap_setCell _ _ _ _ (show b ≠ w.heap.size by omega)).trans (Below.heap_setCell _ _ _ _ (show b ≠ w.heap.size by omega))⟩ ⟨by simp [World.setCell], fun b hb _ => (Below.heap_setCell _ _ _ _ (show b ≠ w.heap.size by omega)).trans (Below.heap_setCell _ _ _ _ (show b ≠ w.heap.size by omega))⟩).sle (fun b _ hb => .inl hb.1) (fun b hb => .inr (by omega))) ((HB9.out.setCell (Nat.le_refl _) _).setCell (Nat.le_refl _) _)
            · have HBAD := Lib.hid (unpE_chk HYE.out HFE.out)
              have HTE := Lib.hid hte
              generalize txE ⟨⟨(unpHead l).1.toArray⟩, acc⟩ = E at *
              have v0 : (E != 0) = true := by simpa using hte
              have v1 : (E == 0) = false := by simpa using hte
              clear hte
              go_wp2
              refine bodyPost_ret (results_cell_t1 rfl _ _ w.heap.size 24 _ (0, 0) _ rfl (set2_blk RR9.out) Tryz.underlying24 rfl (by kernel_rfl)) rfl ?_
              exact RunQ.bad HBAD.out HTE.out ((HB9.out.setCell (Nat.le_refl _) _).setCell (Nat.le_refl _) _)
          · have HBAD := Lib.hid (unpE_fin HYE.out hfe)
            have u0 : ((r.fin.e : Int) != 0) = true := by simp [hfe]
            have u1 : ((r.fin.e : Int) == 0) = false := by simp [hfe]
            have HTE : Hid ((r.fin.e : Int) ≠ 0) := Lib.hid (by simpa using hfe)
            clear hfe
            go_wp2
            refine bodyPost_ret (results_cell_t1 rfl _ _ w.heap.size 24 _ (0, 0) _ rfl (set2_blk RR8.out) Tryz.underlying24 rfl (by kernel_rfl)) rfl ?_
            exact RunQ.bad HBAD.out HTE.out ((HB8.out.setCell (Nat.le_refl _) _).setCell (Nat.le_refl _) _)
      · obtain rfl : k = n := by omega
        have HYE : Hid (unpY l = (acc, r)) := Lib.hid (by have := HYY.out; simp [unpOps] at this; exact this)
        clear HYY
        go_wp2_with fail
        refine (qend_any _ p r _ RD.out HS.out.len HS.out.err).mono ?_
        rintro e w8 ⟨rfl, hr8, hf8⟩
        have RR8 := Lib.hid ((hf8.block _ (by omega) (by omega)).trans RR.out)
        have T8 := Lib.hid ((hf8.block _ (by omega) (by omega)).trans T.out)
        have HB8 := Lib.hid (HB.out.trans (hf8.below HB.out.size fun j hj h => by omega))
        have HE8 := Lib.hid (HE.out.same2 ⟨hf8.size, fun b hb hl => hf8.block b hl (by omega)⟩ ⟨hf8.size, fun b hb hl => hf8.block b hl (by omega)⟩)
        have hwl : w.heap.size < w8.heap.size := (Array.getElem?_eq_some_iff.1 RR8.out).1
        clear hr8 hf8 RR T HB HE RD e0 g0 e1 g1
        obtain ⟨x0, f0⟩ := blk_cell (i := 0) RR8.out
        obtain ⟨x1, f1⟩ := blk_cell (i := 1) RR8.out
        obtain ⟨y0, -⟩ := blk_cell (i := 0) T8.out
        obtain ⟨y1, -⟩ := blk_cell (i := 1) T8.out
        simp at x0 x1 y0 y1
        by_cases hfe : r.fin.e = 0
        · have HFE := Lib.hid hfe
          have u0 : ((r.fin.e : Int) != 0) = false := by simp [hfe]
          have u1 : ((r.fin.e : Int) == 0) = true := by simp [hfe]
          clear hfe
          go_wp2_with fail
          refine (rcheck9_any (fun _ => True) ⟨⟨(unpHead l).1.toArray⟩, acc⟩ _ _ (HE8.out.sle (fun _ _ _ => trivial) (fun _ _ => trivial))).mono ?_
          rintro e w9 ⟨rfl, hb9⟩
          have RR9 := Lib.hid (dblk hb9 RR8.out)
          have T9 := Lib.hid (dblk hb9 T8.out)
          have HB9 := Lib.hid (dcall HB8.out hb9)
          have HE9 := Lib.hid (HE8.out.ext hb9)
          clear hb9 RR8 T8 HB8 HE8 x0 f0 x1 f1 y0 y1
          obtain ⟨x0, f0⟩ := blk_cell (i := 0) RR9.out
          obtain ⟨x1, f1⟩ := blk_cell (i := 1) RR9.out
          obtain ⟨y0, -⟩ := blk_cell (i := 0) T9.out
          obtain ⟨y1, -⟩ := blk_cell (i := 1) T9.out
          simp at x0 x1 y0 y1
          by_cases hte : txE ⟨⟨(unpHead l).1.toArray⟩, acc⟩ = 0
          · have HTE := Lib.hid hte
            rw [hte]
            clear hte
            go_wp2
            refine bodyPost_ret (results_cell_t1 rfl _ _ w.heap.size 24 _ (0, 0) _ rfl (set2_blk RR9.out) Tryz.underlying24 rfl (by kernel_rfl)) rfl ?_
            exact RunQ.ok HYE.out HFE.out HTE.out ((HE9.out.same2 ⟨by simp [World.setCell], fun b hb _ => (Below.heap_setCell _ _ _ _ (show b ≠ w.heap.size by omega)).trans (Below.heap_setCell _ _ _ _ (show b ≠ w.heap.size by omega))⟩ ⟨by simp [World.setCell], fun b hb _ => (Below.heap_setCell _ _ _ _ (show b ≠ w.heap.size by omega)).trans (Below.heap_setCell _ _ _ _ (show b ≠ w.heap.size by omega))⟩).sle (fun b _ hb => .inl hb.1) (fun b hb => .inr (by omega))) ((HB9.out.setCell (Nat.le_refl _) _).setCell (Nat.le_refl _) _)
          · have HBAD := Lib.hid (unpE_chk HYE.out HFE.out)
            have HTE := Lib.hid hte
            generalize txE ⟨⟨(unpHead l).1.toArray⟩, acc⟩ = E at *
            have v0 : (E != 0) = true := by simpa using hte
            have v1 : (E == 0) = false := by simpa using hte
            clear hte
            go_wp2
            refine bodyPost_ret (results_cell_t1 rfl _ _ w.heap.size 24 _ (0, 0) _ rfl (set2_blk RR9.out) Tryz.underlying24 rfl (by kernel_rfl)) rfl ?_
            exact RunQ.bad HBAD.out HTE.out ((HB9.out.setCell (Nat.le_refl _) _).setCell (Nat.le_refl _) _)
        · have HBAD := Lib.hid (unpE_fin HYE.out hfe)
          have u0 : ((r.fin.e : Int) != 0) = true := by simp [hfe]
          have u1 : ((r.fin.e : Int) == 0) = false := by simp [hfe]
          have HTE : Hid ((r.fin.e : Int) ≠ 0) := Lib.hid (by simpa using hfe)
          clear hfe
          go_wp2
          refine bodyPost_ret (results_cell_t1 rfl _ _ w.heap.size 24 _ (0, 0) _ rfl (set2_blk RR8.out) Tryz.underlying24 rfl (by kernel_rfl)) rfl ?_
          exact RunQ.bad HBAD.out HTE.out ((HB8.out.setCell (Nat.le_refl _) _).setCell (Nat.le_refl _) _)
end Go.Proofs.YtlgefkaafoidmaaGreatDoor
