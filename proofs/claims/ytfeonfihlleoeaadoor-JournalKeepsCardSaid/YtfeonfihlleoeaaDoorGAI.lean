/- The walks of object.refuse, object.limit, object.key. Rows of bytes of the call's own: noughts put behind, bytes laid over, noughts laid over, cut. The walks of object.data, kind by kind. The walks of object.data: noughts, cuts. The walk of object.change, kind by kind. The walk of object.change, the other kinds. The walks of bytes.Equal, slices.EqualFunc at keys, object.Same. The walk of object.guard. The walk of object.change, the rest; object.change at any kind. errors.As at a refusal of object: the walk. -/
import Derived.Test.YtfeonfihlleoeaaDoorGAH
import Derived.Lib.AppendZerosOnto
import Derived.Lib.SliceRun
import Derived.BigRegion
import Derived.Test.YtfeonfihlleoeaaDoorGAG
import Derived.Laws.IdiomStrings
namespace Go.Proofs.YtfeonfihlleoeaaDoor
open Go.RowKit Go.WideShapes

/-- an object in a box of its own, its parts the call's own -/
structure IsO (base pb : Nat) (w : World) (dv kv : Value) (o : ObD) : Prop where
  lt : pb < base
  le : base ≤ w.heap.size
  blk : w.heap[pb]? = some (.cells #[dv, kv, .int .i64 o.seq] 39 (0, 0))
  own : Own8 base w dv kv o
theorem IsO.ext {base pb : Nat} {w w' : World} {dv kv : Value} {o : ObD} (h : IsO base pb w dv kv o) (hb : Below w.heap.size w w') : IsO base pb w' dv kv o :=
  ⟨h.lt, Nat.le_trans h.le hb.size, (hb.block _ (by have := h.lt; have := h.le; omega)).trans h.blk, h.own.keep (Same.of_ext hb)⟩
/-- what stands in blocks below base, but for the box, stays -/
def Chg (base pb : Nat) : Nat → Prop := fun k => k = pb ∨ base ≤ k
/-- an op as a value -/
def opV (k off n : Int) (nm : ByteArray) (a : Option Addr) (l c : Nat) : Value := .agg #[.int .i64 k, .int .i64 off, .int .i64 n, .string nm, .slice a l c]
theorem fr_ext {S : Nat → Prop} {w w' : World} (h : Below w.heap.size w w') : Fr S w w' := Fr.ext h
theorem mid_get {α : Type} (A B : List α) (s u : α) {p : Nat} (hA : A.length = p) : (A ++ [s, u] ++ B)[p + 1]? = some u := by
  subst hA
  rw [List.append_assoc, List.getElem?_append_right (by omega), show A.length + 1 - A.length = 1 by omega]
  rfl
theorem key_end {base pb g N c p q : Nat} {dv kv v5 : Value} {o : ObD} {nm : ByteArray} {l : List UInt8} {cs : List (List Value)} {ys : List Value} {w w4 w5 : World}
    (hO : IsO base pb w dv kv o) (hc : CI Fb.key (fun _ b => base ≤ b ∧ kv.ownBlock ≠ some b ∧ dv.ownBlock ≠ some b ∧ U8 w b) w cs o.keys)
    (hP4 : w4.heap[pb]? = some (.cells #[dv, .slice (some ⟨g, 0, none⟩) N c, .int .i64 o.seq] 39 (0, 0)))
    (hR4 : w4.ownsRow base 51 2 (.slice (some ⟨g, 0, none⟩) N c) N ys) (hD4 : OB base w4 dv o.data)
    (hS4 : Same (fun b => (base ≤ b ∧ kv.ownBlock ≠ some b ∧ dv.ownBlock ≠ some b) ∧ b < w.heap.size) w w4) (hgo : ∀ b, b < w.heap.size → kv.ownBlock ≠ some b → b ≠ g)
    (hb5 : Below w4.heap.size w4 w5) (hv5 : OB w4.heap.size w5 v5 l) (hp : p ≤ o.keys.length) (hN : N = p + 1 + (o.keys.length - q))
    (hys : ∀ u, ys.set (p * 2 + 1) u = cs.flatten.take (p * 2) ++ [.string nm, u] ++ cs.flatten.drop (q * 2)) :
    IsO base pb (w5.setCell ⟨g, p * 2 + 1, none⟩ v5) dv (.slice (some ⟨g, 0, none⟩) N c) ⟨o.data, o.keys.take p ++ ⟨nm, l⟩ :: o.keys.drop q, o.seq⟩ := by
  obtain ⟨hg1, hg2⟩ := hR4.lt g rfl
  have h5 := hb5.size
  have hpb := hO.lt
  have hle := hO.le
  have hw4 := hS4.size
  have hset : ∀ k, k ≠ g → (w5.setCell ⟨g, p * 2 + 1, none⟩ v5).heap[k]? = w5.heap[k]? := fun k hk => Below.heap_setCell _ ⟨g, _, none⟩ _ _ hk
  have hdg : ∀ b, dv.ownBlock = some b → b ≠ g ∧ b < w4.heap.size := by
    intro b hb
    refine ⟨?_, (hD4.lt b hb).2⟩
    rcases own_ne hD4 hR4 (by decide) with e | e
    · rw [e] at hb; cases hb
    · intro e2; rw [hb, e2] at e; exact e rfl
  refine ⟨hpb, ?_, ?_, ?_, cs.take p ++ (Fb.key.front ⟨nm, l⟩ ++ [v5]) :: cs.drop q, ?_, ?_⟩
  · simp only [World.setCell, Array.size_modify]; omega
  · rw [hset pb (by omega), hb5.block pb (by omega)]; exact hP4
  · exact (hD4.ext hb5).keep fun b hb => hset b (hdg b hb).1
  · have h1 := owns_set (owns_ext hR4 hb5) (p * 2 + 1) v5
    rw [hys v5] at h1
    have hl := hc.lens
    have e : (cs.take p ++ (Fb.key.front ⟨nm, l⟩ ++ [v5]) :: cs.drop q).flatten = cs.flatten.take (p * 2) ++ [.string nm, v5] ++ cs.flatten.drop (q * 2) := by
      rw [List.flatten_append, List.flatten_cons, flat_take cs p hl, flat_drop cs q hl, ← List.append_assoc]
      rfl
    have e2 : (o.keys.take p ++ (⟨nm, l⟩ : KyD) :: o.keys.drop q).length = N := by simp; omega
    show World.ownsRow _ base _ 2 _ (o.keys.take p ++ (⟨nm, l⟩ : KyD) :: o.keys.drop q).length _
    rw [e, e2]
    exact h1
  · have hc3 : CI Fb.key (fun _ b => base ≤ b ∧ (Value.slice (some ⟨g, 0, none⟩) N c).ownBlock ≠ some b ∧ dv.ownBlock ≠ some b ∧ U8 (w5.setCell ⟨g, p * 2 + 1, none⟩ v5) b) (w5.setCell ⟨g, p * 2 + 1, none⟩ v5) cs o.keys := by
      refine hc.sameU (fun i b h hl => (hset b (hgo b hl h.2.1)).trans ((hb5.block b (by omega)).trans (hS4.block b ⟨⟨h.1, h.2.1, h.2.2.1⟩, hl⟩ hl))) (by simp only [World.setCell, Array.size_modify]; omega) fun i b _ hl h e => ⟨h.1, ?_, h.2.2.1, h.2.2.2.of_eq e⟩
      simp only [Value.ownBlock, ne_eq, Option.some.injEq]
      exact fun e => hgo b hl h.2.1 e.symm
    have hv6 : RB (fun b => base ≤ b ∧ (Value.slice (some ⟨g, 0, none⟩) N c).ownBlock ≠ some b ∧ dv.ownBlock ≠ some b ∧ U8 (w5.setCell ⟨g, p * 2 + 1, none⟩ v5) b) (w5.setCell ⟨g, p * 2 + 1, none⟩ v5) v5 l := by
      refine (hv5.rbU.mono (w' := w5.setCell ⟨g, p * 2 + 1, none⟩ v5) ⟨by simp [World.setCell], fun b hb _ => hset b (by have := hb.1; omega)⟩).weak fun b _ h => ⟨by have := h.1; omega, ?_, ?_, h.2.of_eq (hset b (by have := h.1; omega))⟩
      · have := h.1
        simp only [Value.ownBlock, ne_eq, Option.some.injEq]
        omega
      · intro e
        have := (hdg b e).2
        have := h.1
        omega
    exact hc3.cut (p := p) (q := q) hp (x := ⟨nm, l⟩) hv6
end Go.Proofs.YtfeonfihlleoeaaDoor
namespace Go.Proofs.YtfeonfihlleoeaaDoor
open Go.RowKit Go.WideShapes Go.Lib

theorem zc1 (k : Nat) : (Builtin.zeroCells (Value.int .u8 0).cells k).toList = List.replicate k (Value.int .u8 0) := by
  simp [Builtin.zeroCells, Value.cells]
  apply List.ext_getElem
  · simp
  · intro i h1 h2
    simp [Nat.mod_one]
theorem zc1' (k : Nat) : Builtin.zeroCells (Value.int .u8 0).cells k = (List.replicate k (Value.int .u8 0)).toArray := by
  apply Array.toList_inj.1
  rw [zc1]
theorem one_rep (k : Nat) : ∀ v ∈ List.replicate k (Value.int .u8 0), v.oneCell' = true := by
  intro v hv
  rw [List.eq_of_mem_replicate hv]
  rfl
/-- append(b, make([]byte, k)...), b a row of the call's own -/
theorem app_zeros (base : Nat) (v : Value) (l : List UInt8) (k : Nat) (w : World) (ho : OB base w v l) (hbase : base ≤ w.heap.size) (h0 : 0 < k) (hl : l.length + k ≤ 100000) :
    ∃ v' w', (∀ ty, (Builtin.append_ #[22, 3] ty #[v, .int .i64 (k : Int)]).run Tryd.prog w = .ok v' w') ∧ OB base w' v' (l ++ List.replicate k 0) ∧ Fr (fun b => some b = v.ownBlock) w w' ∧ (v'.ownBlock = v.ownBlock ∨ ∃ g, v'.ownBlock = some g ∧ w.heap.size ≤ g) := by
  obtain ⟨i0, hi, hz0, hz1, hz2⟩ := info_parts infoByte
  have hmap : (l ++ List.replicate k (0 : UInt8)).map bv = l.map bv ++ List.replicate k (Value.int .u8 0) := by
    rw [List.map_append, List.map_replicate]; rfl
  have grow : ∀ (bs : Option Addr) (c : Nat), c < l.length + k → (Builtin.firstCells i0.size l.length (.slice bs l.length c)).run Tryd.prog w.drew = .ok (l.map bv).toArray w.drew →
      ∃ v' w', (∀ ty, (Builtin.append_ #[22, 3] ty #[.slice bs l.length c, .int .i64 (k : Int)]).run Tryd.prog w = .ok v' w') ∧ OB base w' v' (l ++ List.replicate k 0) ∧ Fr (fun b => some b = (Value.slice bs l.length c).ownBlock) w w' ∧ (v'.ownBlock = (Value.slice bs l.length c).ownBlock ∨ ∃ g, v'.ownBlock = some g ∧ w.heap.size ≤ g) := by
    intro bs c hc hold
    have hG := grownCap_ge w (l.length + k) c 5
    have hG2 := grownCap_le_maxLen w (l.length + k) c 5 (by unfold maxLen; omega)
    refine ⟨_, _, fun ty => Lib.run_append_grow_zeros w 22 3 ty 5 i0 _ .i64 .i64 Tryd.underlying22 Tryd.underlying3 hi hz0 bs l.length c (l.map bv) hold k h0 (by rw [hz1]; decide) hc (by omega) (by rw [hz2]; omega) (by rw [hz2]; exact growslice_fits hc (by omega)), ?_, ?_, .inr ⟨w.heap.size, rfl, Nat.le_refl _⟩⟩
    · refine ⟨by simp, .inr ⟨w.heap.size, _, _, by simp, hbase, heap_alloc_new w.drew _, by simpa using hG, hG2, ?_, ?_⟩⟩
      · rw [zc1', zc1']
        simp
        omega
      · rw [zc1', zc1', hmap]
        simp only [List.append_toArray, List.length_append, List.length_replicate, Nat.mul_one]
        rw [List.take_append_of_le_length (by simp)]
        exact List.take_of_length_le (by simp)
    · exact (Fr.refl _ w).drew.alloc _
  rcases ho.2 with ⟨rfl, h⟩ | ⟨g, c, cur, rfl, hbg, hg, hnc, hcm, hcs, ht⟩
  · have hl0 : l = [] := List.eq_nil_of_length_eq_zero h
    subst hl0
    exact grow none 0 (by simpa using h0) (by simpa using run_firstCells_none w.drew i0.size 0 0 0)
  · rcases Nat.lt_or_ge c (l.length + k) with hr | hr
    · refine grow _ c hr ?_
      rw [hz1]
      refine run_firstCells_some w.drew 1 l.length ⟨g, 0, none⟩ l.length c (l.map bv) (by simp) fun j u hj => ?_
      rw [WideShapes.add_plain, Nat.zero_add]
      have hjl := (List.getElem?_eq_some_iff.1 hj).1
      rw [List.length_map] at hjl
      rw [← ht, List.getElem?_take, if_pos (by omega)] at hj
      show w.cell? _ = _
      rw [(blk_cell hg).1, ← Array.getElem?_toList]
      exact hj
    · have hst := run_storeCells_at Tryd.prog g (l.length * 1) 5 (List.replicate k (Value.int .u8 0)) 0 cur w hg (by simp; omega) (one_rep k)
      simp only [Nat.add_zero] at hst
      have hw : IntKind.i64.wrap (k : Int) = k := by rw [IntKind.wrap_i64]; omega
      have hneg : ¬ ((k : Int) < 0) := by omega
      have hk : k ≠ 0 := by omega
      have h48i : ¬ (281474976710656 < (k : Int) * (i0.bytes : Int)) := by rw [hz2]; omega
      have hz3 : i0.zero = some (Value.int .u8 0) := hz0
      refine ⟨.slice (some ⟨g, 0, none⟩) (l.length + k) c, w.setRow g (cur.toList.take l.length ++ List.replicate k (Value.int .u8 0) ++ cur.toList.drop (l.length + k)).toArray, fun ty => ?_, ?_, setRow_fr w g _ |>.weaken fun b _ h => by rw [h]; rfl, .inl rfl⟩
      · have hr' : l.length + k ≤ c := hr
        simp only [Nat.mul_one, List.length_replicate] at hst
        simp [Builtin.append_, run_underlying Tryd.underlying22, run_underlying Tryd.underlying3, sizeOf, typeInfo, zeroValue, hi, hz3, hz1, asInt, asIntOf, hw, hneg, hk, hr', h48i, zc1', Addr.add_lit, hst]
      · have hlen : (cur.toList.take l.length).length = l.length := by simp; omega
        have ht' : cur.toList.take l.length = l.map bv := by simpa using ht
        refine ⟨by simp, .inr ⟨g, c, _, by simp, hbg, setRow_heap w g _ _ _ _ hg, by simpa using hr, hcm, ?_, ?_⟩⟩
        · simp
          omega
        · rw [hmap, ht']
          have e : (l ++ List.replicate k (0 : UInt8)).length * 1 = (l.map bv ++ List.replicate k (Value.int .u8 0)).length := by simp
          rw [e]
          show List.take _ (l.map bv ++ List.replicate k (Value.int .u8 0) ++ cur.toList.drop (l.length + k)) = _
          exact List.take_left
section
variable {P : Program} {w : World} {ops : Array Oper} {rest : List Oper} {o : Oper} {a : Act} {Q : Exit → Act → World → Prop}
/-- copy into a row of bytes that is known whole, as one step of a region that draws its order -/
theorem step_copy_fr1 {K : Act → World → Prop} {E : Prop} (hgd : o.guard = none) (d s : Operand) (dT sT : TypeId)
    (ho : o.op = .call { callee := .builtin .copy, args := #[d, s], argTypes := #[dT, sT] }) (elem : TypeId) (hu : P.underlying dT = some (.slice elem)) (hsz : (P.info? elem).map (·.size) = some 1)
    (dp sp : Option Addr) (dLen dCap sLen sCap : Nat) (hd : a.eval d = .slice dp dLen dCap) (hs : a.eval s = .slice sp sLen sCap)
    (cs : List Value) (hn : cs.length = Nat.min sLen dLen) (D : World → Prop) (h0 : cs = [] → D w)
    (hpos : 0 < cs.length → ∃ g off ad, dp = some ⟨g, off, none⟩ ∧ sp = some ad ∧ (∀ j v, cs[j]? = some v → w.cell? (ad.add j) = some v) ∧ ∃ cur t, w.heap[g]? = some (.cells cur t (0, 0)) ∧ off + cs.length ≤ cur.size ∧ D (w.setRow g (cur.toList.take off ++ cs ++ cur.toList.drop (off + cs.length)).toArray))
    (h1 : ∀ v ∈ cs, v.oneCell' = true)
    (h : ∀ w', D w' → K (a.put o.dst (goInt cs.length)) w') :
    if Region.wanted o (yielded ops a.tmps) = true then Oper.wp P o a w K Q else E := by
  have hw : Region.wanted o (yielded ops a.tmps) = true := by simp [Region.wanted, hgd]
  rw [if_pos hw]
  by_cases hc : cs.length = 0
  · obtain rfl : cs = [] := List.eq_nil_of_length_eq_zero hc
    have hrun := run_copy_none (P := P) w dT sT o.type elem dp sp dLen dCap sLen sCap hu hsz (by simpa using hn.symm)
    unfold Oper.wp
    simp [execOp, ho, resolve, invoke, builtin, hd, hs, hrun, Result.andThen]
    exact h w (h0 rfl)
  · obtain ⟨g, off, ad, rfl, rfl, hsrc, cur, t, hg, hfit, hD⟩ := hpos (by omega)
    have hrun := run_copy_row (P := P) w dT sT o.type elem g off dLen dCap ad sLen sCap cur t cs hu hsz hg hn hsrc hfit h1
    unfold Oper.wp
    simp [execOp, ho, resolve, invoke, builtin, hd, hs, hrun, Result.andThen]
    exact h _ (by simpa using hD)
end
/-- noughts over so many bytes of a row that is known whole -/
theorem run_clear_fr1 (w : World) (ty : TypeId) (g o n c : Nat) (hn : 0 < n) (cur : Array Value) (tt : TypeId) (hg : w.heap[g]? = some (.cells cur tt (0, 0))) (hfit : o + n ≤ cur.size) :
    (Builtin.clear_ #[22] ty #[.slice (some ⟨g, o, none⟩) n c]).run Tryd.prog w = .ok (.tuple #[]) (w.setRow g (cur.toList.take o ++ List.replicate n (Value.int .u8 0) ++ cur.toList.drop (o + n)).toArray) := by
  have hst := run_storeCells_at Tryd.prog g o tt (List.replicate n (Value.int .u8 0)) 0 cur w hg (by simpa using hfit) (one_rep n)
  simp only [Nat.add_zero, List.length_replicate] at hst
  have hv : ∀ w, (zeroValue 5).run Tryd.prog w = .ok (Value.int .u8 0) w := fun w => by kernel_rfl
  obtain ⟨m, rfl⟩ : ∃ m, n = m + 1 := ⟨n - 1, by omega⟩
  simp [Builtin.clear_, run_underlying Tryd.underlying22, hv, zc1, hst]
/-- bytes laid over a row of the call's own -/
theorem OB.over {base g n c off : Nat} {w : World} {l x : List UInt8} {cur : Array Value} (ho : OB base w (.slice (some ⟨g, 0, none⟩) n c) l) (hg : w.heap[g]? = some (.cells cur 5 (0, 0))) (hf : off + x.length ≤ l.length) :
    OB base (w.setRow g (cur.toList.take off ++ x.map bv ++ cur.toList.drop (off + (x.map bv).length)).toArray) (.slice (some ⟨g, 0, none⟩) n c) (l.take off ++ x ++ l.drop (off + x.length)) := by
  obtain ⟨hl, ⟨e, -⟩ | ⟨g', c', cur', e, hbg, hg', hnc, hcm, hcs, ht⟩⟩ := ho
  · simp at e
  · simp only [Value.slice.injEq, Option.some.injEq, Addr.mk.injEq] at e
    obtain ⟨⟨rfl, -⟩, rfl, rfl⟩ := e
    rw [hg] at hg'
    simp only [Option.some.injEq, Obj.cells.injEq] at hg'
    obtain ⟨rfl, -, -⟩ := hg'
    have hlen : (l.take off ++ x ++ l.drop (off + x.length)).length = l.length := by simp; omega
    refine ⟨by simp, .inr ⟨g, c, _, by rw [hlen], hbg, setRow_heap w g _ _ _ _ hg, by omega, hcm, ?_, ?_⟩⟩
    · simp; omega
    · rw [hlen]
      have e1 : cur.toList.take l.length = l.map bv := by simpa using ht
      have e2 : cur.toList.take off = (l.map bv).take off := by rw [← e1, List.take_take]; congr 1; omega
      have e3 : (cur.toList.drop (off + x.length)).take (l.length - (off + x.length)) = (l.map bv).drop (off + x.length) := by rw [← e1, List.drop_take]
      rw [Nat.mul_one, List.length_map, e2]
      have hk : l.length = ((l.map bv).take off ++ x.map bv).length + (l.length - (off + x.length)) := by simp; omega
      rw [hk, List.take_length_add_append, e3]
      simp
theorem OB.cutN {base n c k : Nat} {a : Option Addr} {w : World} {l : List UInt8} (ho : OB base w (.slice a n c) l) (hk : k ≤ n) : OB base w (.slice a k c) (l.take k) := by
  obtain ⟨hl, ⟨e, h0⟩ | ⟨g, c', cur, e, hbg, hg, hnc, hcm, hcs, ht⟩⟩ := ho
  · simp only [Value.slice.injEq] at e
    obtain ⟨rfl, rfl, rfl⟩ := e
    obtain rfl : k = 0 := by omega
    simpa using OB.nil base w
  · simp only [Value.slice.injEq] at e
    obtain ⟨rfl, rfl, rfl⟩ := e
    have e : (l.take k).length = k := by simp; omega
    refine ⟨by simp, .inr ⟨g, c, cur, by rw [e], hbg, hg, by omega, hcm, hcs, ?_⟩⟩
    rw [e, Nat.mul_one, List.map_take, ← ht, List.take_take]
    congr 1
    omega
/-- an object whose data are other ones -/
theorem data_end {base pb : Nat} {dv kv dv' : Value} {o : ObD} {D : List UInt8} {w w' : World} (hO : IsO base pb w dv kv o) (hP : w'.heap[pb]? = some (.cells #[dv', kv, .int .i64 o.seq] 39 (0, 0)))
    (hD : OB base w' dv' D) (hF : Fr (fun k => k = pb ∨ some k = dv.ownBlock) w w') (hat : dv'.ownBlock = dv.ownBlock ∨ dv'.ownBlock = none ∨ ∃ g, dv'.ownBlock = some g ∧ w.heap.size ≤ g) :
    IsO base pb w' dv' kv ⟨D, o.keys, o.seq⟩ ∧ Fr (Chg base pb) w w' := by
  obtain ⟨hd, cs, hk, hc⟩ := hO.own
  have hlt := hO.lt
  refine ⟨⟨hO.lt, Nat.le_trans hO.le hF.size, hP, hD, cs, ?_, ?_⟩, hF.weaken fun k hk' h => ?_⟩
  · refine owns_keep hk fun b hb => hF.block b (hk.lt b hb).2 fun h => ?_
    rcases h with h | h
    · have := (hk.lt b hb).1; omega
    · rcases own_ne hk hd (by decide) with e | e
      · rw [e] at hb; cases hb
      · exact e (hb.trans h)
  · refine hc.sameU (fun i b hb hl => hF.block b hl fun h => ?_) hF.size fun i b _ hl h e0 => ⟨h.1, h.2.1, ?_, h.2.2.2.of_eq e0⟩
    · rcases h with h | h
      · have := hb.1; omega
      · exact hb.2.2.1 h.symm
    · rcases hat with e | e | ⟨g, e, hg⟩
      · rw [e]; exact h.2.2.1
      · rw [e]; exact fun h => by cases h
      · rw [e]
        intro h2
        have := Option.some.inj h2
        omega
  · rcases h with h | h
    · exact .inl h
    · exact .inr (hd.lt k h.symm).1
end Go.Proofs.YtfeonfihlleoeaaDoor
namespace Go.Proofs.YtfeonfihlleoeaaDoor
open Go.RowKit Go.WideShapes Go.Lib

theorem write_eq (l d : List UInt8) (f : Nat) : ((l ++ List.replicate (f + d.length - l.length) 0).take f ++ d ++ (l ++ List.replicate (f + d.length - l.length) (0 : UInt8)).drop (f + d.length)) = writeD l f d := by
  unfold writeD
  congr 1
  rcases Nat.lt_or_ge l.length (f + d.length) with h | h
  · rw [List.drop_of_length_le (by simp; omega), List.drop_of_length_le (by omega)]
  · rw [show f + d.length - l.length = 0 by omega]
    simp
theorem hn8x : Hid ((Tryd.prog.info? 5).map (·.size) = some 1) := by
  show _ = _
  kernel_rfl
end Go.Proofs.YtfeonfihlleoeaaDoor
namespace Go.Proofs.YtfeonfihlleoeaaDoor
open Go.RowKit Go.WideShapes Go.Lib

theorem zero_eq (l : List UInt8) (f m : Nat) (h : f < l.length) : l.take f ++ List.replicate (min (f + m) l.length - f) 0 ++ l.drop (f + (List.replicate (min (f + m) l.length - f) (0 : UInt8)).length) = zeroD l f m := by
  unfold zeroD
  congr 1
  rw [List.length_replicate]
  rcases Nat.lt_or_ge (f + m) l.length with h1 | h1
  · congr 1; omega
  · rw [List.drop_of_length_le (by omega), List.drop_of_length_le (by omega)]
theorem zero_none (l : List UInt8) (f m : Nat) (h : l.length ≤ f ∨ m = 0) : zeroD l f m = l := by
  unfold zeroD
  rcases h with h | rfl
  · rw [List.take_of_length_le h, List.drop_of_length_le (by omega), show min (f + m) l.length - f = 0 by omega]
    simp
  · rw [Nat.add_zero, show min f l.length - f = 0 by omega]
    simp
theorem rep_map (k : Nat) : (List.replicate k (0 : UInt8)).map bv = List.replicate k (Value.int .u8 0) := by rw [List.map_replicate]; rfl
theorem clear_none (w : World) (ty : TypeId) (a : Option Addr) (c : Nat) : (Builtin.clear_ #[22] ty #[.slice a 0 c]).run Tryd.prog w = .ok (.tuple #[]) w := by
  cases a <;> simp [Builtin.clear_, run_underlying Tryd.underlying22]
theorem spot_nat0 {n : Int} (h : spotB 0 n = true) : ∃ m : Nat, n = m ∧ m ≤ 64 := by
  obtain ⟨f, m, h1, h2, h3⟩ := spot_nat h
  exact ⟨m, h2, by omega⟩
end Go.Proofs.YtfeonfihlleoeaaDoor
namespace Go.Proofs.YtfeonfihlleoeaaDoor
open Go.RowKit Go.WideShapes

end Go.Proofs.YtfeonfihlleoeaaDoor
namespace Go.Proofs.YtfeonfihlleoeaaDoor
open Go.RowKit Go.WideShapes

/-- other data, new bytes, in the box -/
theorem set_data {base pb B : Nat} {dv kv v2 : Value} {o : ObD} {D : List UInt8} {w w2 : World} (hO : IsO base pb w dv kv o) (hb : Below w.heap.size w w2) (hv : OB B w2 v2 D) (hB : w.heap.size ≤ B) :
    IsO base pb (w2.setCell ⟨pb, 0, none⟩ v2) v2 kv ⟨D, o.keys, o.seq⟩ ∧ Fr (Chg base pb) w (w2.setCell ⟨pb, 0, none⟩ v2) := by
  have hlt := hO.lt
  have hle := hO.le
  have hset := set_blk3 (j := 0) (v := v2) (hO.ext hb).blk
  refine data_end hO (by simpa using hset) ?_ ((Fr.ext hb).setCell (a := ⟨pb, 0, none⟩) (fun _ => .inl rfl) _) ?_
  · exact (hv.base_le (by omega)).keep fun b hb => Below.heap_setCell _ ⟨pb, 0, none⟩ _ _ (by have := (hv.lt b hb).1; show b ≠ pb; omega)
  · cases h : v2.ownBlock with
    | none => exact .inr (.inl rfl)
    | some g => exact .inr (.inr ⟨g, rfl, by have := (hv.lt g h).1; omega⟩)
theorem IsO.after {base pb : Nat} {dv kv : Value} {o0 : ObD} {w w' w2 : World} (h : IsO base pb w' dv kv o0 ∧ Fr (Chg base pb) w w') (hb : Below w'.heap.size w' w2) : IsO base pb w2 dv kv o0 ∧ Fr (Chg base pb) w w2 :=
  ⟨h.1.ext hb, Fr.trans (S := Chg base pb) (T := Chg base pb) h.2 (Fr.ext hb) (fun _ _ h => h)⟩
end Go.Proofs.YtfeonfihlleoeaaDoor
namespace Go.Proofs.YtfeonfihlleoeaaDoor
open Go.RowKit Go.WideShapes

theorem cnv_bytes {A : Nat → Prop} {w : World} {v : Value} {l : List UInt8} (h : RB A w v l) (W : World) (hW : Below w.heap.size w W) : (Go.convert 22 9 v).run Tryd.prog W = .ok (.string ⟨l.toArray⟩) W := by
  obtain ⟨a, c, rfl⟩ := h.shape
  cases a with
  | none =>
    obtain ⟨h0, -, -⟩ := SlA.none_ h
    obtain rfl := List.eq_nil_of_length_eq_zero h0
    exact run_convert_bytes_nil W _ 5 Tryd.underlying22 Tryd.underlying5 _ _ _ Tryd.underlying9
  | some p =>
    refine run_convert_bytes_back W 22 9 5 p c l Tryd.underlying22 Tryd.underlying5 Tryd.underlying9 fun j hj => ?_
    exact cellExt hW ((SlA.src h).2.2 j _ (bv_at hj))
theorem eqBL (l m : List UInt8) : ((⟨l.toArray⟩ : ByteArray).toList == (⟨m.toArray⟩ : ByteArray).toList) = decide (l = m) := by
  rw [Lib.toList_data, Lib.toList_data, Bool.eq_iff_iff, beq_iff_eq, decide_eq_true_eq]
def keyEq (a b : KyD) : Bool := decide (a.name = b.name) && decide (a.value = b.value)
theorem keyEq_iff (a b : KyD) : keyEq a b = true ↔ a = b := by
  cases a; cases b
  simp [keyEq]
def eqAt (xs ys : List KyD) (i : Nat) : Bool := match xs[i]?, ys[i]? with
  | some a, some b => keyEq a b
  | _, _ => true
def eqTo (xs ys : List KyD) : Nat → Bool
  | 0 => true
  | k + 1 => eqTo xs ys k && eqAt xs ys k
def sameK (xs ys : List KyD) : Bool := decide (xs.length = ys.length) && eqTo xs ys xs.length
theorem eqTo_not {xs ys : List KyD} {n i : Nat} (hi : i < n) (h : eqAt xs ys i = false) : eqTo xs ys n = false := by
  induction n with
  | zero => omega
  | succ n ih =>
    by_cases e : i = n
    · subst e; simp [eqTo, h]
    · simp [eqTo, ih (by omega)]
theorem eqTo_all {xs ys : List KyD} {n : Nat} (h : eqTo xs ys n = true) : ∀ i, i < n → eqAt xs ys i = true := by
  intro i hi
  cases hx : eqAt xs ys i with
  | true => rfl
  | false => rw [eqTo_not hi hx] at h; cases h
theorem sameK_iff (xs ys : List KyD) : sameK xs ys = true ↔ xs = ys := by
  unfold sameK
  rw [Bool.and_eq_true, decide_eq_true_eq]
  constructor
  · rintro ⟨hl, h⟩
    apply List.ext_getElem hl
    intro i h1 h2
    have := eqTo_all h i h1
    simp only [eqAt, List.getElem?_eq_getElem h1, List.getElem?_eq_getElem h2] at this
    exact (keyEq_iff _ _).1 this
  · rintro rfl
    refine ⟨rfl, ?_⟩
    have : ∀ n, eqTo xs xs n = true := by
      intro n
      induction n with
      | zero => rfl
      | succ n ih =>
        simp only [eqTo, ih, Bool.true_and, eqAt]
        cases xs[n]? with
        | none => rfl
        | some k => exact (keyEq_iff k k).2 rfl
    exact this _
def sameB (a b : ObD) : Bool := decide (a.data = b.data) && decide (a.seq = b.seq) && sameK a.keys b.keys
theorem sameB_iff (a b : ObD) : sameB a b = true ↔ a = b := by
  cases a; cases b
  simp only [sameB, Bool.and_eq_true, decide_eq_true_eq, sameK_iff, ObD.mk.injEq]
  exact ⟨fun ⟨⟨a, b⟩, c⟩ => ⟨a, c, b⟩, fun ⟨a, c, b⟩ => ⟨⟨a, b⟩, c⟩⟩
/-- a call that answers so and makes nothing but memory -/
def Says (b : Bool) (w : World) (e : Ending) (w' : World) : Prop := e = .returned (.bool b) ∧ Below w.heap.size w w'
end Go.Proofs.YtfeonfihlleoeaaDoor
namespace Go.Proofs.YtfeonfihlleoeaaDoor
open Go.RowKit Go.WideShapes

/-- a kind that is none of those asked for -/
theorem kne {k j : Int} (h : ¬ k = j) : Hid ((k == j) = false ∧ decide (k = j) = false) := ⟨by simp [h], by simp [h]⟩
end Go.Proofs.YtfeonfihlleoeaaDoor
namespace Go.Proofs.YtfeonfihlleoeaaDoor
open Go.RowKit Go.WideShapes

theorem any_find {p : KyD → Bool} {ks : List KyD} : (ks.find? p = none → ks.any p = false) ∧ (∀ x, ks.find? p = some x → ks.any p = true) := by
  constructor
  · intro h
    rw [List.any_eq_false]
    intro x hx
    have := List.find?_eq_none.1 h x hx
    simpa using this
  · intro x h
    rw [List.any_eq_true]
    exact ⟨x, List.mem_of_find?_eq_some h, List.find?_some h⟩
end Go.Proofs.YtfeonfihlleoeaaDoor
namespace Go.Proofs.YtfeonfihlleoeaaDoor
open Go.RowKit Go.Extern.Stop Go.Stop Go.Extern

end Go.Proofs.YtfeonfihlleoeaaDoor
