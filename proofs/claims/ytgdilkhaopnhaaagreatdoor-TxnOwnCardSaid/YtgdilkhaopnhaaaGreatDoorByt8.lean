/- Rows of bytes of the call's own: noughts put behind, bytes laid over, noughts laid over, cut. -/
import Derived.Test.YtgdilkhaopnhaaaGreatDoorKey8
import Derived.Lib.AppendZerosOnto
import Derived.Lib.SliceRun
namespace Go.Proofs.YtgdilkhaopnhaaaGreatDoor
open Go.RowKit Go.WideShapes Go.Lib

theorem zc1 (k : Nat) : (Builtin.zeroCells (Value.int .u8 0).cells k).toList = List.replicate k (Value.int .u8 0) := by
  simp [Builtin.zeroCells, Value.cells]
  apply List.ext_getElem
  · simp
  · intro i h1 h2
    simp [Nat.mod_one]
theorem zc1' (k : Nat) : Builtin.zeroCells (Value.int .u8 0).cells k = (List.replicate k (Value.int .u8 0)).toArray := by
  apply Array.toList_inj.1
  rw [zc1]
theorem one_rep (k : Nat) : ∀ v ∈ List.replicate k (Value.int .u8 0), v.oneCell' = true := by
  intro v hv
  rw [List.eq_of_mem_replicate hv]
  rfl
/-- append(b, make([]byte, k)...), b a row of the call's own -/
theorem app_zeros (base : Nat) (v : Value) (l : List UInt8) (k : Nat) (w : World) (ho : OB base w v l) (hbase : base ≤ w.heap.size) (h0 : 0 < k) (hl : l.length + k ≤ 100000) :
    ∃ v' w', (∀ ty, (Builtin.append_ #[22, 3] ty #[v, .int .i64 (k : Int)]).run Tryz.prog w = .ok v' w') ∧ OB base w' v' (l ++ List.replicate k 0) ∧ Fr (fun b => some b = v.ownBlock) w w' ∧ (v'.ownBlock = v.ownBlock ∨ ∃ g, v'.ownBlock = some g ∧ w.heap.size ≤ g) := by
  obtain ⟨i0, hi, hz0, hz1, hz2⟩ := info_parts infoByte
  have hmap : (l ++ List.replicate k (0 : UInt8)).map bv = l.map bv ++ List.replicate k (Value.int .u8 0) := by
    rw [List.map_append, List.map_replicate]; rfl
  have grow : ∀ (bs : Option Addr) (c : Nat), c < l.length + k → (Builtin.firstCells i0.size l.length (.slice bs l.length c)).run Tryz.prog w.drew = .ok (l.map bv).toArray w.drew →
      ∃ v' w', (∀ ty, (Builtin.append_ #[22, 3] ty #[.slice bs l.length c, .int .i64 (k : Int)]).run Tryz.prog w = .ok v' w') ∧ OB base w' v' (l ++ List.replicate k 0) ∧ Fr (fun b => some b = (Value.slice bs l.length c).ownBlock) w w' ∧ (v'.ownBlock = (Value.slice bs l.length c).ownBlock ∨ ∃ g, v'.ownBlock = some g ∧ w.heap.size ≤ g) := by
    intro bs c hc hold
    have hG := grownCap_ge w (l.length + k) c 5
    have hG2 := grownCap_le_maxLen w (l.length + k) c 5 (by unfold maxLen; omega)
    refine ⟨_, _, fun ty => Lib.run_append_grow_zeros w 22 3 ty 5 i0 _ .i64 .i64 Tryz.underlying22 Tryz.underlying3 hi hz0 bs l.length c (l.map bv) hold k h0 (by rw [hz1]; decide) hc (by omega) (by rw [hz2]; omega) (by rw [hz2]; exact growslice_fits hc (by omega)), ?_, ?_, .inr ⟨w.heap.size, rfl, Nat.le_refl _⟩⟩
    · refine ⟨by simp, .inr ⟨w.heap.size, _, _, by simp, hbase, heap_alloc_new w.drew _, by simpa using hG, hG2, ?_, ?_⟩⟩
      · rw [zc1', zc1']
        simp
        omega
      · rw [zc1', zc1', hmap]
        simp only [List.append_toArray, List.length_append, List.length_replicate, Nat.mul_one]
        rw [List.take_append_of_le_length (by simp)]
        exact List.take_of_length_le (by simp)
    · exact (Fr.refl _ w).drew.alloc _
  rcases ho.2 with ⟨rfl, h⟩ | ⟨g, c, cur, rfl, hbg, hg, hnc, hcm, hcs, ht⟩
  · have hl0 : l = [] := List.eq_nil_of_length_eq_zero h
    subst hl0
    exact grow none 0 (by simpa using h0) (by simpa using run_firstCells_none w.drew i0.size 0 0 0)
  · rcases Nat.lt_or_ge c (l.length + k) with hr | hr
    · refine grow _ c hr ?_
      rw [hz1]
      refine run_firstCells_some w.drew 1 l.length ⟨g, 0, none⟩ l.length c (l.map bv) (by simp) fun j u hj => ?_
      rw [add_plain, Nat.zero_add]
      have hjl := (List.getElem?_eq_some_iff.1 hj).1
      rw [List.length_map] at hjl
      rw [← ht, List.getElem?_take, if_pos (by omega)] at hj
      show w.cell? _ = _
      rw [(blk_cell hg).1, ← Array.getElem?_toList]
      exact hj
    · have hst := run_storeCells_at Tryz.prog g (l.length * 1) 5 (List.replicate k (Value.int .u8 0)) 0 cur w hg (by simp; omega) (one_rep k)
      simp only [Nat.add_zero] at hst
      have hw : IntKind.i64.wrap (k : Int) = k := by rw [IntKind.wrap_i64]; omega
      have hneg : ¬ ((k : Int) < 0) := by omega
      have hk : k ≠ 0 := by omega
      have h48i : ¬ (281474976710656 < (k : Int) * (i0.bytes : Int)) := by rw [hz2]; omega
      have hz3 : i0.zero = some (Value.int .u8 0) := hz0
      refine ⟨.slice (some ⟨g, 0, none⟩) (l.length + k) c, w.setRow g (cur.toList.take l.length ++ List.replicate k (Value.int .u8 0) ++ cur.toList.drop (l.length + k)).toArray, fun ty => ?_, ?_, setRow_fr w g _ |>.weaken fun b _ h => by rw [h]; rfl, .inl rfl⟩
      · have hr' : l.length + k ≤ c := hr
        simp only [Nat.mul_one, List.length_replicate] at hst
        simp [Builtin.append_, run_underlying Tryz.underlying22, run_underlying Tryz.underlying3, sizeOf, typeInfo, zeroValue, hi, hz3, hz1, asInt, asIntOf, hw, hneg, hk, hr', h48i, zc1', Addr.add_lit, hst]
      · have hlen : (cur.toList.take l.length).length = l.length := by simp; omega
        have ht' : cur.toList.take l.length = l.map bv := by simpa using ht
        refine ⟨by simp, .inr ⟨g, c, _, by simp, hbg, setRow_heap w g _ _ _ _ hg, by simpa using hr, hcm, ?_, ?_⟩⟩
        · simp
          omega
        · rw [hmap, ht']
          have e : (l ++ List.replicate k (0 : UInt8)).length * 1 = (l.map bv ++ List.replicate k (Value.int .u8 0)).length := by simp
          rw [e]
          show List.take _ (l.map bv ++ List.replicate k (Value.int .u8 0) ++ cur.toList.drop (l.length + k)) = _
          exact List.take_left
section
variable {P : Program} {w : World} {ops : Array Oper} {rest : List Oper} {o : Oper} {a : Act} {Q : Exit → Act → World → Prop}
/-- copy into a row of bytes that is known whole, as one step of a region that draws its order -/
theorem step_copy_fr1 {K : Act → World → Prop} {E : Prop} (hgd : o.guard = none) (d s : Operand) (dT sT : TypeId)
    (ho : o.op = .call { callee := .builtin .copy, args := #[d, s], argTypes := #[dT, sT] }) (elem : TypeId) (hu : P.underlying dT = some (.slice elem)) (hsz : (P.info? elem).map (·.size) = some 1)
    (dp sp : Option Addr) (dLen dCap sLen sCap : Nat) (hd : a.eval d = .slice dp dLen dCap) (hs : a.eval s = .slice sp sLen sCap)
    (cs : List Value) (hn : cs.length = Nat.min sLen dLen) (D : World → Prop) (h0 : cs = [] → D w)
    (hpos : 0 < cs.length → ∃ g off ad, dp = some ⟨g, off, none⟩ ∧ sp = some ad ∧ (∀ j v, cs[j]? = some v → w.cell? (ad.add j) = some v) ∧ ∃ cur t, w.heap[g]? = some (.cells cur t (0, 0)) ∧ off + cs.length ≤ cur.size ∧ D (w.setRow g (cur.toList.take off ++ cs ++ cur.toList.drop (off + cs.length)).toArray))
    (h1 : ∀ v ∈ cs, v.oneCell' = true)
    (h : ∀ w', D w' → K (a.put o.dst (goInt cs.length)) w') :
    if Region.wanted o (yielded ops a.tmps) = true then Oper.wp P o a w K Q else E := by
  have hw : Region.wanted o (yielded ops a.tmps) = true := by simp [Region.wanted, hgd]
  rw [if_pos hw]
  by_cases hc : cs.length = 0
  · obtain rfl : cs = [] := List.eq_nil_of_length_eq_zero hc
    have hrun := run_copy_none (P := P) w dT sT o.type elem dp sp dLen dCap sLen sCap hu hsz (by simpa using hn.symm)
    unfold Oper.wp
    simp [execOp, ho, resolve, invoke, builtin, hd, hs, hrun, Result.andThen]
    exact h w (h0 rfl)
  · obtain ⟨g, off, ad, rfl, rfl, hsrc, cur, t, hg, hfit, hD⟩ := hpos (by omega)
    have hrun := run_copy_row (P := P) w dT sT o.type elem g off dLen dCap ad sLen sCap cur t cs hu hsz hg hn hsrc hfit h1
    unfold Oper.wp
    simp [execOp, ho, resolve, invoke, builtin, hd, hs, hrun, Result.andThen]
    exact h _ (by simpa using hD)
end
/-- noughts over so many bytes of a row that is known whole -/
theorem run_clear_fr1 (w : World) (ty : TypeId) (g o n c : Nat) (hn : 0 < n) (cur : Array Value) (tt : TypeId) (hg : w.heap[g]? = some (.cells cur tt (0, 0))) (hfit : o + n ≤ cur.size) :
    (Builtin.clear_ #[22] ty #[.slice (some ⟨g, o, none⟩) n c]).run Tryz.prog w = .ok (.tuple #[]) (w.setRow g (cur.toList.take o ++ List.replicate n (Value.int .u8 0) ++ cur.toList.drop (o + n)).toArray) := by
  have hst := run_storeCells_at Tryz.prog g o tt (List.replicate n (Value.int .u8 0)) 0 cur w hg (by simpa using hfit) (one_rep n)
  simp only [Nat.add_zero, List.length_replicate] at hst
  have hv : ∀ w, (zeroValue 5).run Tryz.prog w = .ok (Value.int .u8 0) w := fun w => by kernel_rfl
  obtain ⟨m, rfl⟩ : ∃ m, n = m + 1 := ⟨n - 1, by omega⟩
  simp [Builtin.clear_, run_underlying Tryz.underlying22, hv, zc1, hst]
/-- bytes laid over a row of the call's own -/
theorem OB.over {base g n c off : Nat} {w : World} {l x : List UInt8} {cur : Array Value} (ho : OB base w (.slice (some ⟨g, 0, none⟩) n c) l) (hg : w.heap[g]? = some (.cells cur 5 (0, 0))) (hf : off + x.length ≤ l.length) :
    OB base (w.setRow g (cur.toList.take off ++ x.map bv ++ cur.toList.drop (off + (x.map bv).length)).toArray) (.slice (some ⟨g, 0, none⟩) n c) (l.take off ++ x ++ l.drop (off + x.length)) := by
  obtain ⟨hl, ⟨e, -⟩ | ⟨g', c', cur', e, hbg, hg', hnc, hcm, hcs, ht⟩⟩ := ho
  · simp at e
  · simp only [Value.slice.injEq, Option.some.injEq, Addr.mk.injEq] at e
    obtain ⟨⟨rfl, -⟩, rfl, rfl⟩ := e
    rw [hg] at hg'
    simp only [Option.some.injEq, Obj.cells.injEq] at hg'
    obtain ⟨rfl, -, -⟩ := hg'
    have hlen : (l.take off ++ x ++ l.drop (off + x.length)).length = l.length := by simp; omega
    refine ⟨by simp, .inr ⟨g, c, _, by rw [hlen], hbg, setRow_heap w g _ _ _ _ hg, by omega, hcm, ?_, ?_⟩⟩
    · simp; omega
    · rw [hlen]
      have e1 : cur.toList.take l.length = l.map bv := by simpa using ht
      have e2 : cur.toList.take off = (l.map bv).take off := by rw [← e1, List.take_take]; congr 1; omega
      have e3 : (cur.toList.drop (off + x.length)).take (l.length - (off + x.length)) = (l.map bv).drop (off + x.length) := by rw [← e1, List.drop_take]
      rw [Nat.mul_one, List.length_map, e2]
      have hk : l.length = ((l.map bv).take off ++ x.map bv).length + (l.length - (off + x.length)) := by simp; omega
      rw [hk, List.take_length_add_append, e3]
      simp
theorem OB.cutN {base n c k : Nat} {a : Option Addr} {w : World} {l : List UInt8} (ho : OB base w (.slice a n c) l) (hk : k ≤ n) : OB base w (.slice a k c) (l.take k) := by
  obtain ⟨hl, ⟨e, h0⟩ | ⟨g, c', cur, e, hbg, hg, hnc, hcm, hcs, ht⟩⟩ := ho
  · simp only [Value.slice.injEq] at e
    obtain ⟨rfl, rfl, rfl⟩ := e
    obtain rfl : k = 0 := by omega
    simpa using OB.nil base w
  · simp only [Value.slice.injEq] at e
    obtain ⟨rfl, rfl, rfl⟩ := e
    have e : (l.take k).length = k := by simp; omega
    refine ⟨by simp, .inr ⟨g, c, cur, by rw [e], hbg, hg, by omega, hcm, hcs, ?_⟩⟩
    rw [e, Nat.mul_one, List.map_take, ← ht, List.take_take]
    congr 1
    omega
/-- an object whose data are other ones -/
theorem data_end {base pb : Nat} {dv kv dv' : Value} {o : ObD} {D : List UInt8} {w w' : World} (hO : IsO base pb w dv kv o) (hP : w'.heap[pb]? = some (.cells #[dv', kv, .int .i64 o.seq] 25 (0, 0)))
    (hD : OB base w' dv' D) (hF : Fr (fun k => k = pb ∨ some k = dv.ownBlock) w w') (hat : dv'.ownBlock = dv.ownBlock ∨ dv'.ownBlock = none ∨ ∃ g, dv'.ownBlock = some g ∧ w.heap.size ≤ g) :
    IsO base pb w' dv' kv ⟨D, o.keys, o.seq⟩ ∧ Fr (Chg base pb) w w' := by
  obtain ⟨hd, cs, hk, hc⟩ := hO.own
  have hlt := hO.lt
  refine ⟨⟨hO.lt, Nat.le_trans hO.le hF.size, hP, hD, cs, ?_, ?_⟩, hF.weaken fun k hk' h => ?_⟩
  · refine owns_keep hk fun b hb => hF.block b (hk.lt b hb).2 fun h => ?_
    rcases h with h | h
    · have := (hk.lt b hb).1; omega
    · rcases own_ne hk hd (by decide) with e | e
      · rw [e] at hb; cases hb
      · exact e (hb.trans h)
  · refine hc.sameU (fun i b hb hl => hF.block b hl fun h => ?_) hF.size fun i b _ hl h e0 => ⟨h.1, h.2.1, ?_, h.2.2.2.of_eq e0⟩
    · rcases h with h | h
      · have := hb.1; omega
      · exact hb.2.2.1 h.symm
    · rcases hat with e | e | ⟨g, e, hg⟩
      · rw [e]; exact h.2.2.1
      · rw [e]; exact fun h => by cases h
      · rw [e]
        intro h2
        have := Option.some.inj h2
        omega
  · rcases h with h | h
    · exact .inl h
    · exact .inr (hd.lt k h.symm).1
end Go.Proofs.YtgdilkhaopnhaaaGreatDoor
