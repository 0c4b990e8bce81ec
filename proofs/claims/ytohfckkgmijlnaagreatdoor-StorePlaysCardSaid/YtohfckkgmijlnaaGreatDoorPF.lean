/- Rows of bytes of the call's own: noughts put behind, bytes laid over, noughts laid over, cut. The walks of object.data, kind by kind. -/
import Derived.Test.YtohfckkgmijlnaaGreatDoorKey8
import Derived.Lib.AppendZerosOnto
import Derived.Lib.SliceRun
import Derived.BigRegion
namespace Go.Proofs.YtohfckkgmijlnaaGreatDoor
open Go.RowKit Go.WideShapes Go.Lib

theorem zc1 (k : Nat) : (Builtin.zeroCells (Value.int .u8 0).cells k).toList = List.replicate k (Value.int .u8 0) := by
  simp [Builtin.zeroCells, Value.cells]
  apply List.ext_getElem
  · simp
  · intro i h1 h2
    simp [Nat.mod_one]
theorem zc1' (k : Nat) : Builtin.zeroCells (Value.int .u8 0).cells k = (List.replicate k (Value.int .u8 0)).toArray := by
  apply Array.toList_inj.1
  rw [zc1]
theorem one_rep (k : Nat) : ∀ v ∈ List.replicate k (Value.int .u8 0), v.oneCell' = true := by
  intro v hv
  rw [List.eq_of_mem_replicate hv]
  rfl
/-- append(b, make([]byte, k)...), b a row of the call's own -/
theorem app_zeros (base : Nat) (v : Value) (l : List UInt8) (k : Nat) (w : World) (ho : OB base w v l) (hbase : base ≤ w.heap.size) (h0 : 0 < k) (hl : l.length + k ≤ 100000) :
    ∃ v' w', (∀ ty, (Builtin.append_ #[38, 3] ty #[v, .int .i64 (k : Int)]).run Tryz.prog w = .ok v' w') ∧ OB base w' v' (l ++ List.replicate k 0) ∧ Fr (fun b => some b = v.ownBlock) w w' ∧ (v'.ownBlock = v.ownBlock ∨ ∃ g, v'.ownBlock = some g ∧ w.heap.size ≤ g) := by
  obtain ⟨i0, hi, hz0, hz1, hz2⟩ := info_parts infoByte
  have hmap : (l ++ List.replicate k (0 : UInt8)).map bv = l.map bv ++ List.replicate k (Value.int .u8 0) := by
    rw [List.map_append, List.map_replicate]; rfl
  have grow : ∀ (bs : Option Addr) (c : Nat), c < l.length + k → (Builtin.firstCells i0.size l.length (.slice bs l.length c)).run Tryz.prog w.drew = .ok (l.map bv).toArray w.drew →
      ∃ v' w', (∀ ty, (Builtin.append_ #[38, 3] ty #[.slice bs l.length c, .int .i64 (k : Int)]).run Tryz.prog w = .ok v' w') ∧ OB base w' v' (l ++ List.replicate k 0) ∧ Fr (fun b => some b = (Value.slice bs l.length c).ownBlock) w w' ∧ (v'.ownBlock = (Value.slice bs l.length c).ownBlock ∨ ∃ g, v'.ownBlock = some g ∧ w.heap.size ≤ g) := by
    intro bs c hc hold
    have hG := grownCap_ge w (l.length + k) c 5
    have hG2 := grownCap_le_maxLen w (l.length + k) c 5 (by unfold maxLen; omega)
    refine ⟨_, _, fun ty => Lib.run_append_grow_zeros w 38 3 ty 5 i0 _ .i64 .i64 Tryz.underlying38 Tryz.underlying3 hi hz0 bs l.length c (l.map bv) hold k h0 (by rw [hz1]; decide) hc (by omega) (by rw [hz2]; omega) (by rw [hz2]; exact growslice_fits hc (by omega)), ?_, ?_, .inr ⟨w.heap.size, rfl, Nat.le_refl _⟩⟩
    · refine ⟨by simp, .inr ⟨w.heap.size, _, _, by simp, hbase, heap_alloc_new w.drew _, by simpa using hG, hG2, ?_, ?_⟩⟩
      · rw [zc1', zc1']
        simp
        omega
      · rw [zc1', zc1', hmap]
        simp only [List.append_toArray, List.length_append, List.length_replicate, Nat.mul_one]
        rw [List.take_append_of_le_length (by simp)]
        exact List.take_of_length_le (by simp)
    · exact (Fr.refl _ w).drew.alloc _
  rcases ho.2 with ⟨rfl, h⟩ | ⟨g, c, cur, rfl, hbg, hg, hnc, hcm, hcs, ht⟩
  · have hl0 : l = [] := List.eq_nil_of_length_eq_zero h
    subst hl0
    exact grow none 0 (by simpa using h0) (by simpa using run_firstCells_none w.drew i0.size 0 0 0)
  · rcases Nat.lt_or_ge c (l.length + k) with hr | hr
    · refine grow _ c hr ?_
      rw [hz1]
      refine run_firstCells_some w.drew 1 l.length ⟨g, 0, none⟩ l.length c (l.map bv) (by simp) fun j u hj => ?_
      rw [add_plain, Nat.zero_add]
      have hjl := (List.getElem?_eq_some_iff.1 hj).1
      rw [List.length_map] at hjl
      rw [← ht, List.getElem?_take, if_pos (by omega)] at hj
      show w.cell? _ = _
      rw [(blk_cell hg).1, ← Array.getElem?_toList]
      exact hj
    · have hst := run_storeCells_at Tryz.prog g (l.length * 1) 5 (List.replicate k (Value.int .u8 0)) 0 cur w hg (by simp; omega) (one_rep k)
      simp only [Nat.add_zero] at hst
      have hw : IntKind.i64.wrap (k : Int) = k := by rw [IntKind.wrap_i64]; omega
      have hneg : ¬ ((k : Int) < 0) := by omega
      have hk : k ≠ 0 := by omega
      have h48i : ¬ (281474976710656 < (k : Int) * (i0.bytes : Int)) := by rw [hz2]; omega
      have hz3 : i0.zero = some (Value.int .u8 0) := hz0
      refine ⟨.slice (some ⟨g, 0, none⟩) (l.length + k) c, w.setRow g (cur.toList.take l.length ++ List.replicate k (Value.int .u8 0) ++ cur.toList.drop (l.length + k)).toArray, fun ty => ?_, ?_, setRow_fr w g _ |>.weaken fun b _ h => by rw [h]; rfl, .inl rfl⟩
      · have hr' : l.length + k ≤ c := hr
        simp only [Nat.mul_one, List.length_replicate] at hst
        simp [Builtin.append_, run_underlying Tryz.underlying38, run_underlying Tryz.underlying3, sizeOf, typeInfo, zeroValue, hi, hz3, hz1, asInt, asIntOf, hw, hneg, hk, hr', h48i, zc1', Addr.add_lit, hst]
      · have hlen : (cur.toList.take l.length).length = l.length := by simp; omega
        have ht' : cur.toList.take l.length = l.map bv := by simpa using ht
        refine ⟨by simp, .inr ⟨g, c, _, by simp, hbg, setRow_heap w g _ _ _ _ hg, by simpa using hr, hcm, ?_, ?_⟩⟩
        · simp
          omega
        · rw [hmap, ht']
          have e : (l ++ List.replicate k (0 : UInt8)).length * 1 = (l.map bv ++ List.replicate k (Value.int .u8 0)).length := by simp
          rw [e]
          show List.take _ (l.map bv ++ List.replicate k (Value.int .u8 0) ++ cur.toList.drop (l.length + k)) = _
          exact List.take_left
section
variable {P : Program} {w : World} {ops : Array Oper} {rest : List Oper} {o : Oper} {a : Act} {Q : Exit → Act → World → Prop}
/-- copy into a row of bytes that is known whole, as one step of a region that draws its order -/
theorem step_copy_fr1 {K : Act → World → Prop} {E : Prop} (hgd : o.guard = none) (d s : Operand) (dT sT : TypeId)
    (ho : o.op = .call { callee := .builtin .copy, args := #[d, s], argTypes := #[dT, sT] }) (elem : TypeId) (hu : P.underlying dT = some (.slice elem)) (hsz : (P.info? elem).map (·.size) = some 1)
    (dp sp : Option Addr) (dLen dCap sLen sCap : Nat) (hd : a.eval d = .slice dp dLen dCap) (hs : a.eval s = .slice sp sLen sCap)
    (cs : List Value) (hn : cs.length = Nat.min sLen dLen) (D : World → Prop) (h0 : cs = [] → D w)
    (hpos : 0 < cs.length → ∃ g off ad, dp = some ⟨g, off, none⟩ ∧ sp = some ad ∧ (∀ j v, cs[j]? = some v → w.cell? (ad.add j) = some v) ∧ ∃ cur t, w.heap[g]? = some (.cells cur t (0, 0)) ∧ off + cs.length ≤ cur.size ∧ D (w.setRow g (cur.toList.take off ++ cs ++ cur.toList.drop (off + cs.length)).toArray))
    (h1 : ∀ v ∈ cs, v.oneCell' = true)
    (h : ∀ w', D w' → K (a.put o.dst (goInt cs.length)) w') :
    if Region.wanted o (yielded ops a.tmps) = true then Oper.wp P o a w K Q else E := by
  have hw : Region.wanted o (yielded ops a.tmps) = true := by simp [Region.wanted, hgd]
  rw [if_pos hw]
  by_cases hc : cs.length = 0
  · obtain rfl : cs = [] := List.eq_nil_of_length_eq_zero hc
    have hrun := run_copy_none (P := P) w dT sT o.type elem dp sp dLen dCap sLen sCap hu hsz (by simpa using hn.symm)
    unfold Oper.wp
    simp [execOp, ho, resolve, invoke, builtin, hd, hs, hrun, Result.andThen]
    exact h w (h0 rfl)
  · obtain ⟨g, off, ad, rfl, rfl, hsrc, cur, t, hg, hfit, hD⟩ := hpos (by omega)
    have hrun := run_copy_row (P := P) w dT sT o.type elem g off dLen dCap ad sLen sCap cur t cs hu hsz hg hn hsrc hfit h1
    unfold Oper.wp
    simp [execOp, ho, resolve, invoke, builtin, hd, hs, hrun, Result.andThen]
    exact h _ (by simpa using hD)
end
/-- noughts over so many bytes of a row that is known whole -/
theorem run_clear_fr1 (w : World) (ty : TypeId) (g o n c : Nat) (hn : 0 < n) (cur : Array Value) (tt : TypeId) (hg : w.heap[g]? = some (.cells cur tt (0, 0))) (hfit : o + n ≤ cur.size) :
    (Builtin.clear_ #[38] ty #[.slice (some ⟨g, o, none⟩) n c]).run Tryz.prog w = .ok (.tuple #[]) (w.setRow g (cur.toList.take o ++ List.replicate n (Value.int .u8 0) ++ cur.toList.drop (o + n)).toArray) := by
  have hst := run_storeCells_at Tryz.prog g o tt (List.replicate n (Value.int .u8 0)) 0 cur w hg (by simpa using hfit) (one_rep n)
  simp only [Nat.add_zero, List.length_replicate] at hst
  have hv : ∀ w, (zeroValue 5).run Tryz.prog w = .ok (Value.int .u8 0) w := fun w => by kernel_rfl
  obtain ⟨m, rfl⟩ : ∃ m, n = m + 1 := ⟨n - 1, by omega⟩
  simp [Builtin.clear_, run_underlying Tryz.underlying38, hv, zc1, hst]
/-- bytes laid over a row of the call's own -/
theorem OB.over {base g n c off : Nat} {w : World} {l x : List UInt8} {cur : Array Value} (ho : OB base w (.slice (some ⟨g, 0, none⟩) n c) l) (hg : w.heap[g]? = some (.cells cur 5 (0, 0))) (hf : off + x.length ≤ l.length) :
    OB base (w.setRow g (cur.toList.take off ++ x.map bv ++ cur.toList.drop (off + (x.map bv).length)).toArray) (.slice (some ⟨g, 0, none⟩) n c) (l.take off ++ x ++ l.drop (off + x.length)) := by
  obtain ⟨hl, ⟨e, -⟩ | ⟨g', c', cur', e, hbg, hg', hnc, hcm, hcs, ht⟩⟩ := ho
  · simp at e
  · simp only [Value.slice.injEq, Option.some.injEq, Addr.mk.injEq] at e
    obtain ⟨⟨rfl, -⟩, rfl, rfl⟩ := e
    rw [hg] at hg'
    simp only [Option.some.injEq, Obj.cells.injEq] at hg'
    obtain ⟨rfl, -, -⟩ := hg'
    have hlen : (l.take off ++ x ++ l.drop (off + x.length)).length = l.length := by simp; omega
    refine ⟨by simp, .inr ⟨g, c, _, by rw [hlen], hbg, setRow_heap w g _ _ _ _ hg, by omega, hcm, ?_, ?_⟩⟩
    · simp; omega
    · rw [hlen]
      have e1 : cur.toList.take l.length = l.map bv := by simpa using ht
      have e2 : cur.toList.take off = (l.map bv).take off := by rw [← e1, List.take_take]; congr 1; omega
      have e3 : (cur.toList.drop (off + x.length)).take (l.length - (off + x.length)) = (l.map bv).drop (off + x.length) := by rw [← e1, List.drop_take]
      rw [Nat.mul_one, List.length_map, e2]
      have hk : l.length = ((l.map bv).take off ++ x.map bv).length + (l.length - (off + x.length)) := by simp; omega
      rw [hk, List.take_length_add_append, e3]
      simp
theorem OB.cutN {base n c k : Nat} {a : Option Addr} {w : World} {l : List UInt8} (ho : OB base w (.slice a n c) l) (hk : k ≤ n) : OB base w (.slice a k c) (l.take k) := by
  obtain ⟨hl, ⟨e, h0⟩ | ⟨g, c', cur, e, hbg, hg, hnc, hcm, hcs, ht⟩⟩ := ho
  · simp only [Value.slice.injEq] at e
    obtain ⟨rfl, rfl, rfl⟩ := e
    obtain rfl : k = 0 := by omega
    simpa using OB.nil base w
  · simp only [Value.slice.injEq] at e
    obtain ⟨rfl, rfl, rfl⟩ := e
    have e : (l.take k).length = k := by simp; omega
    refine ⟨by simp, .inr ⟨g, c, cur, by rw [e], hbg, hg, by omega, hcm, hcs, ?_⟩⟩
    rw [e, Nat.mul_one, List.map_take, ← ht, List.take_take]
    congr 1
    omega
/-- an object whose data are other ones -/
theorem data_end {base pb : Nat} {dv kv dv' : Value} {o : ObD} {D : List UInt8} {w w' : World} (hO : IsO base pb w dv kv o) (hP : w'.heap[pb]? = some (.cells #[dv', kv, .int .i64 o.seq] 41 (0, 0)))
    (hD : OB base w' dv' D) (hF : Fr (fun k => k = pb ∨ some k = dv.ownBlock) w w') (hat : dv'.ownBlock = dv.ownBlock ∨ dv'.ownBlock = none ∨ ∃ g, dv'.ownBlock = some g ∧ w.heap.size ≤ g) :
    IsO base pb w' dv' kv ⟨D, o.keys, o.seq⟩ ∧ Fr (Chg base pb) w w' := by
  obtain ⟨hd, cs, hk, hc⟩ := hO.own
  have hlt := hO.lt
  refine ⟨⟨hO.lt, Nat.le_trans hO.le hF.size, hP, hD, cs, ?_, ?_⟩, hF.weaken fun k hk' h => ?_⟩
  · refine owns_keep hk fun b hb => hF.block b (hk.lt b hb).2 fun h => ?_
    rcases h with h | h
    · have := (hk.lt b hb).1; omega
    · rcases own_ne hk hd (by decide) with e | e
      · rw [e] at hb; cases hb
      · exact e (hb.trans h)
  · refine hc.sameU (fun i b hb hl => hF.block b hl fun h => ?_) hF.size fun i b _ hl h e0 => ⟨h.1, h.2.1, ?_, h.2.2.2.of_eq e0⟩
    · rcases h with h | h
      · have := hb.1; omega
      · exact hb.2.2.1 h.symm
    · rcases hat with e | e | ⟨g, e, hg⟩
      · rw [e]; exact h.2.2.1
      · rw [e]; exact fun h => by cases h
      · rw [e]
        intro h2
        have := Option.some.inj h2
        omega
  · rcases h with h | h
    · exact .inl h
    · exact .inr (hd.lt k h.symm).1
end Go.Proofs.YtohfckkgmijlnaaGreatDoor
namespace Go.Proofs.YtohfckkgmijlnaaGreatDoor
open Go.RowKit Go.WideShapes Go.Lib

theorem write_eq (l d : List UInt8) (f : Nat) : ((l ++ List.replicate (f + d.length - l.length) 0).take f ++ d ++ (l ++ List.replicate (f + d.length - l.length) (0 : UInt8)).drop (f + d.length)) = writeD l f d := by
  unfold writeD
  congr 1
  rcases Nat.lt_or_ge l.length (f + d.length) with h | h
  · rw [List.drop_of_length_le (by simp; omega), List.drop_of_length_le (by omega)]
  · rw [show f + d.length - l.length = 0 by omega]
    simp
theorem hn8x : Hid ((Tryz.prog.info? 5).map (·.size) = some 1) := by
  show _ = _
  kernel_rfl
set_option maxRecDepth 100000 in
set_option maxHeartbeats 8000000 in
theorem data_write (base pb : Nat) (dv kv : Value) (o : ObD) (off n : Int) (nm : ByteArray) (A : Nat → Prop) (oa : Option Addr) (oc : Nat) (d : List UInt8) (w : World)
    (hO : IsO base pb w dv kv o) (hol : o.data.length ≤ 1000) (hd : RB A w (.slice oa d.length oc) d) (hl : d.length ≤ 50000) (hA : ∀ b, A b → b ≠ pb ∧ dv.ownBlock ≠ some b) :
    Calls Tryz.prog 83 #[.pointer (some ⟨pb, 0, none⟩), opV 5 off n nm oa d.length oc] w (ChR base pb 5 (changeB o ⟨5, off, n, nm, d⟩) w) := by
  have hr := fun W => refuse_any 5 off n nm oa d.length oc 2 W
  unfold opV at hr ⊢
  have hlt := hO.lt
  have hle := hO.le
  obtain ⟨a0, c0, rfl⟩ : ∃ a c, dv = .slice a o.data.length c := hO.own.data.rb.shape
  have HO := Lib.hid hO
  have HV := Lib.hid hd
  have HA := Lib.hid hA
  have hpl : pb < w.heap.size := by omega
  clear hO hd hA
  have HC : Hid (changeB o ⟨5, off, n, nm, d⟩ = if spotB off d.length then some ⟨writeD o.data off.toNat d, o.keys, o.seq⟩ else none) := rfl
  cases hs : spotB off d.length with
  | false =>
    have HX : Hid (changeB o ⟨5, off, n, nm, d⟩ = none) := by show changeB _ _ = none; rw [HC.out, hs]; rfl
    go_enter Tryz.func83, Tryz.ntmps83
    go_wp2
    go_quiet (fail)
    go_wp2_with (go_at_call 107; refine (spot_any _ _ _).mono ?_; rintro e w' ⟨rfl, rfl⟩; rw [hs]; clear hs)
    refine (hr _).mono ?_
    rintro e w3 ⟨rfl, hb3⟩
    have HB3 : Hid (Below w.heap.size w w3) := Lib.hid (Below.trans (by ((repeat' (first | exact Below.refl _ _ | refine below_drewN ?_ _ | refine Below.drew ?_ | refine Below.alloc ?_ ?_ _ | refine Below.trans ?_ (Below.mono (by assumption) ?_))); all_goals (first | exact Nat.le_refl _ | exact Below.size (by assumption) | omega | (simp; done) | (simp; omega)))) (hb3.mono (by simp; try omega)))
    clear hb3
    go_wp2
    go_ret
    exact ChR.no HX.out (Fr.ext HB3.out)
  | true =>
    obtain ⟨f, m, rfl, hm, hfm⟩ := spot_nat hs
    have hm' : d.length = m := by omega
    clear hm
    have HX : Hid (changeB o ⟨5, f, n, nm, d⟩ = some ⟨writeD o.data f d, o.keys, o.seq⟩) := by show changeB _ _ = _; rw [HC.out, hs]; simp
    have hfd : f + d.length ≤ 64 := by omega
    clear hm' hfm
    go_enter Tryz.func83, Tryz.ntmps83
    go_wp2
    go_quiet (fail)
    obtain ⟨w1, hw1⟩ : ∃ w1, w1 = (w.alloc (.cells #[.int .i64 5, .int .i64 (f : Int), .int .i64 n, .string nm, .slice oa d.length oc] 57)).drewN nq := ⟨_, rfl⟩
    rw [← hw1]
    have hb1 : Below w.heap.size w w1 := by rw [hw1]; ((repeat' (first | exact Below.refl _ _ | refine below_drewN ?_ _ | refine Below.drew ?_ | refine Below.alloc ?_ ?_ _ | refine Below.trans ?_ (Below.mono (by assumption) ?_))); all_goals (first | exact Nat.le_refl _ | exact Below.size (by assumption) | omega | (simp; done) | (simp; omega)))
    have K1 : w1.heap[w.heap.size]? = some (.cells #[.int .i64 5, .int .i64 (f : Int), .int .i64 n, .string nm, .slice oa d.length oc] 57 (0, 0)) := by rw [hw1]; exact heap_alloc_new _ _
    have hO1 := HO.out.ext hb1
    have HO1 := Lib.hid hO1
    have HB1 := Lib.hid hb1
    have HK1 := Lib.hid K1
    have hwl1 : w.heap.size < w1.heap.size := (Array.getElem?_eq_some_iff.1 K1).1
    have hpl1 : pb < w1.heap.size := by omega
    obtain ⟨x0, f0⟩ := blk_cell (i := 0) hO1.blk
    obtain ⟨z0, g0⟩ := blk_cell (i := 0) K1
    obtain ⟨z4, g4⟩ := blk_cell (i := 4) K1
    simp at x0 z0 z4
    have HP1 := Lib.hid hO1.blk
    have HD1 := Lib.hid hO1.own.data
    clear hw1 hb1 K1 hO1
    rcases Nat.lt_or_ge o.data.length (f + d.length) with hgr | hgr
    · have hcast : (f : Int) + d.length - o.data.length = ((f + d.length - o.data.length : Nat) : Int) := by omega
      obtain ⟨v2, w2, hrun, hd2, hf2, hat2⟩ := app_zeros base (.slice a0 o.data.length c0) o.data (f + d.length - o.data.length) w1 HD1.out HO1.out.le (by omega) (by omega)
      rw [← hcast] at hrun
      clear hcast
      obtain ⟨L, hL⟩ : ∃ L, L = f + d.length := ⟨_, rfl⟩
      have hgt : (0 : Int) < (f : Int) + d.length - o.data.length := by omega
      have hlen2 : (o.data ++ List.replicate (f + d.length - o.data.length) (0 : UInt8)).length = L := by simp; omega
      obtain ⟨a3, c3, rfl⟩ : ∃ a c, v2 = .slice a L c := by
        obtain ⟨a, c, e⟩ := hd2.rb.shape
        exact ⟨a, c, by rw [e, hlen2]⟩
      have hp2 : w2.heap[pb]? = _ := (hf2.block pb hpl1 (fun e => by have := (HD1.out.lt _ e.symm).1; omega)).trans HP1.out
      have hk2 : w2.heap[w.heap.size]? = _ := (hf2.block w.heap.size hwl1 (fun e => by have := (HD1.out.lt _ e.symm).1; have := HO.out.own.data.lt _ e.symm; omega)).trans HK1.out
      have hp2' : w2.heap[pb]? = some (.cells #[.slice a0 o.data.length c0, kv, .int .i64 o.seq] 41 (0, 0)) := hp2
      obtain ⟨xx, ff⟩ := blk_cell (i := 0) hp2'
      simp at xx
      obtain ⟨w3, hw3⟩ : ∃ w3, w3 = w2.setCell ⟨pb, 0, none⟩ (.slice a3 L c3) := ⟨_, rfl⟩
      have HP3 : Hid (w3.heap[pb]? = some (.cells #[.slice a3 L c3, kv, .int .i64 o.seq] 41 (0, 0))) := by
        show w3.heap[pb]? = _
        rw [hw3]
        have := set_blk3 (j := 0) (v := .slice a3 L c3) hp2'
        simpa using this
      have HK3 : Hid (w3.heap[w.heap.size]? = some (.cells #[.int .i64 5, .int .i64 (f : Int), .int .i64 n, .string nm, .slice oa d.length oc] 57 (0, 0))) := by
        show w3.heap[w.heap.size]? = _
        rw [hw3]
        exact (Below.heap_setCell _ ⟨pb, 0, none⟩ _ _ (by show w.heap.size ≠ pb; omega)).trans hk2
      have HD3 : Hid (OB base w3 (.slice a3 L c3) (o.data ++ List.replicate (f + d.length - o.data.length) 0)) := by
        show OB _ _ _ _
        rw [hw3]
        exact hd2.keep fun b hb => Below.heap_setCell _ ⟨pb, 0, none⟩ _ _ (by have := (hd2.lt b hb).1; show b ≠ pb; omega)
      have HF03 : Hid (Fr (fun k => k = pb ∨ some k = (Value.slice a0 o.data.length c0).ownBlock) w w3) := by
        show Fr _ _ _
        rw [hw3]
        exact ((Fr.trans (S := fun k => some k = (Value.slice a0 o.data.length c0).ownBlock) (Fr.ext HB1.out) hf2 (fun _ _ h => h)).weaken fun _ _ h => .inr h).setCell (a := ⟨pb, 0, none⟩) (fun _ => .inl rfl) _
      have hat3 : (Value.slice a3 L c3).ownBlock = (Value.slice a0 o.data.length c0).ownBlock ∨ (Value.slice a3 L c3).ownBlock = none ∨ ∃ g, (Value.slice a3 L c3).ownBlock = some g ∧ w.heap.size ≤ g := by
        rcases hat2 with h | ⟨g, h, h'⟩
        · exact .inl h
        · exact .inr (.inr ⟨g, h, by have := HB1.out.size; omega⟩)
      have HWE : Hid (_ = writeD o.data f d) := Lib.hid (write_eq o.data d f)
      have hDl : (o.data ++ List.replicate (f + d.length - o.data.length) (0 : UInt8)).length = L := hlen2
      obtain ⟨D1, hD1⟩ : ∃ D1, D1 = o.data ++ List.replicate (f + d.length - o.data.length) (0 : UInt8) := ⟨_, rfl⟩
      rw [← hD1] at HD3 HWE hDl
      have HDL := Lib.hid hDl
      clear hp2 hp2' hk2 hd2 hf2 hat2 hlen2 hD1 hDl HD1
      have hfL : f + d.length ≤ L := by omega
      have hLf : L ≤ f + d.length := by omega
      have HLL := Lib.hid hL
      clear hL
      go_wp2_with (first | (go_at_call 107; refine (spot_any _ _ _).mono ?_; rintro e w' ⟨rfl, rfl⟩; rw [hs]; clear hs) | (at_builtin; refine Lib.wpList_append_run _ rfl _ _ _ _ rfl _ _ rfl rfl _ _ (hrun _) ?_))
      rw [← hw3]
      have HAT3 := Lib.hid hat3
      clear hw3 hrun xx ff x0 f0 z0 g0 z4 g4 hgt
      have hfL2 : f ≤ L := by omega
      have hcap3 := (HD3.out.rb : RB _ w3 (.slice a3 L c3) _)
      obtain ⟨X, hX⟩ : ∃ X, X = d.map bv := ⟨_, rfl⟩
      have HX1 : Hid (∀ v ∈ X, v.oneCell' = true) := by show ∀ v ∈ X, _; rw [hX]; exact one_bytes _
      have hXl : X.length = d.length := by rw [hX]; simp
      have HMN : Hid (X.length = Nat.min d.length (L - f)) := by show _ = _; rw [hXl]; simp only [Nat.min_def]; split <;> omega
      obtain ⟨DD, hDD⟩ : ∃ DD : World → Prop, DD = fun w' => OB base w' (.slice a3 L c3) (D1.take f ++ d ++ D1.drop (f + d.length)) ∧ Fr (fun k => some k = (Value.slice a3 L c3).ownBlock) w3 w' := ⟨_, rfl⟩
      have HZ0 : Hid (X = [] → DD w3.drew) := by
        show X = [] → _
        intro e
        have e0 : d = [] := by
          have := congrArg List.length e
          rw [hXl] at this
          exact List.eq_nil_of_length_eq_zero this
        rw [hDD]
        refine ⟨?_, (Fr.refl _ w3).drew⟩
        rw [e0]
        have hh : OB base w3 (.slice a3 L c3) (D1.take f ++ ([] : List UInt8) ++ D1.drop (f + ([] : List UInt8).length)) := by simpa using HD3.out
        exact hh
      have HEND : Hid (∀ w4, DD w4 → IsO base pb w4 (.slice a3 L c3) kv ⟨writeD o.data f d, o.keys, o.seq⟩ ∧ Fr (Chg base pb) w w4) := by
        show ∀ w4, _
        intro w4 h
        rw [hDD] at h
        refine data_end HO.out ((h.2.block pb (by have := HF03.out.size; omega) (fun e => by have := (HD3.out.lt _ e.symm).1; omega)).trans HP3.out) (by rw [← HWE.out]; exact h.1) ?_ hat3
        refine Fr.trans (S := fun k => k = pb ∨ some k = (Value.slice a0 o.data.length c0).ownBlock) (T := fun k => some k = (Value.slice a3 L c3).ownBlock) HF03.out h.2 fun k hk e => ?_
        rcases hat3 with h3 | h3 | ⟨g, h3, h4⟩
        · exact .inr (e.trans h3)
        · rw [h3] at e; cases e
        · rw [h3] at e; have := Option.some.inj e; omega
      have HLIE : Hid (0 < d.length → ∃ ad, oa = some ad ∧ ∀ j v, X[j]? = some v → w3.drew.cell? (ad.add j) = some v) := by
        show 0 < d.length → _
        intro h
        have hv3 : RB A w3 (.slice oa d.length oc) d := HV.out.mono (Same.of_fr HF03.out fun b hb _ e => by
          rcases e with e | e
          · exact (HA.out b hb).1 e
          · exact (HA.out b hb).2 e.symm)
        obtain ⟨b, ofs, e, -, -, -, hcc⟩ := hv3.lie h
        refine ⟨_, e, fun j v hj => ?_⟩
        have hjl := (List.getElem?_eq_some_iff.1 hj).1
        rw [add_plain]
        exact (hcc j (by omega)).trans (by rw [← hX]; exact hj)
      have HXX := Lib.hid hX
      have HXL := Lib.hid hXl
      have HDDE := Lib.hid hDD
      obtain ⟨x0, f0⟩ := blk_cell (i := 0) HP3.out
      obtain ⟨z0, g0⟩ := blk_cell (i := 0) HK3.out
      obtain ⟨z4, g4⟩ := blk_cell (i := 4) HK3.out
      simp at x0 z0 z4
      clear hX hXl hDD
      rcases a3 with _ | ⟨ga, go_, gs⟩
      · have hL0 : L = 0 := (SlA.none_ hcap3).1
        have hc0 : c3 = 0 := (SlA.none_ hcap3).2.2
        obtain rfl : f = 0 := by omega
        have HD0 : Hid (d.length = 0) := by show _ = _; omega
        subst hL0 hc0
        clear hcap3
        have HPS : Hid (0 < X.length → ∃ g off ad, (none : Option Addr) = some ⟨g, off, none⟩ ∧ oa = some ad ∧ (∀ j v, X[j]? = some v → w3.drew.cell? (ad.add j) = some v) ∧ ∃ cur t, w3.drew.heap[g]? = some (.cells cur t (0, 0)) ∧ off + X.length ≤ cur.size ∧ DD (w3.drew.setRow g (cur.toList.take off ++ X ++ cur.toList.drop (off + X.length)).toArray)) := by
          show 0 < X.length → _
          (intro h; rw [HXL.out, HD0.out] at h; omega)
        go_wp2
        go_region_law (refine step_copy_fr1 rfl (.tmp 56) (.tmp 58) 38 38 rfl 5 Tryz.underlying38 hn8x.out (none) oa (0) (0) d.length oc (by simp [Act.eval, Act.put]) (by simp [Act.eval, Act.put]) X HMN.out DD HZ0.out HPS.out HX1.out ?_; intro w4 hd4)
        all_goals
          have HFIN := Lib.hid (HEND.out w4 hd4)
          clear hd4
          go_wp2
          go_ret
          exact ChR.yes HX.out HFIN.out.1 HFIN.out.2
      · obtain ⟨rfl, rfl⟩ : go_ = 0 ∧ gs = none := by
          rcases HD3.out.2 with ⟨e, -⟩ | ⟨g, cap, cur, e, -⟩
          · simp at e
          · simp only [Value.slice.injEq, Option.some.injEq, Addr.mk.injEq] at e
            exact ⟨e.1.2.1, e.1.2.2⟩
        have hLc : L ≤ c3 := by
          have := (SlA.src hcap3).2.1
          have := (SlA.src hcap3).1
          omega
        clear hcap3
        by_cases hcf : c3 = f
        · subst hcf
          have HLF : Hid (L = c3) := by show _ = _; omega
          have HD0 : Hid (d.length = 0) := by show _ = _; omega
          have HMB : Hid (X.length = Nat.min d.length 0) := by show _ = _; rw [HXL.out, HD0.out]; rfl
          have HPS : Hid (0 < X.length → ∃ g off ad, ((some ⟨ga, 0, none⟩) : Option Addr) = some ⟨g, off, none⟩ ∧ oa = some ad ∧ (∀ j v, X[j]? = some v → w3.drew.cell? (ad.add j) = some v) ∧ ∃ cur t, w3.drew.heap[g]? = some (.cells cur t (0, 0)) ∧ off + X.length ≤ cur.size ∧ DD (w3.drew.setRow g (cur.toList.take off ++ X ++ cur.toList.drop (off + X.length)).toArray)) := by
            show 0 < X.length → _
            (intro h; rw [HXL.out, HD0.out] at h; omega)
          go_wp2
          go_region_law (refine step_copy_fr1 rfl (.tmp 56) (.tmp 58) 38 38 rfl 5 Tryz.underlying38 hn8x.out ((some ⟨ga, 0, none⟩)) oa (0) (0) d.length oc (by simp [Act.eval, Act.put]) (by simp [Act.eval, Act.put]) X HMB.out DD HZ0.out HPS.out HX1.out ?_; intro w4 hd4)
          all_goals
            have HFIN := Lib.hid (HEND.out w4 hd4)
            clear hd4
            go_wp2
            go_ret
            exact ChR.yes HX.out HFIN.out.1 HFIN.out.2
        · have HPS : Hid (0 < X.length → ∃ g off ad, ((some ⟨ga, f, none⟩) : Option Addr) = some ⟨g, off, none⟩ ∧ oa = some ad ∧ (∀ j v, X[j]? = some v → w3.drew.cell? (ad.add j) = some v) ∧ ∃ cur t, w3.drew.heap[g]? = some (.cells cur t (0, 0)) ∧ off + X.length ≤ cur.size ∧ DD (w3.drew.setRow g (cur.toList.take off ++ X ++ cur.toList.drop (off + X.length)).toArray)) := by
            show 0 < X.length → _
            (intro h; rw [HXL.out] at h; obtain ⟨ad, e1, e2⟩ := HLIE.out h; obtain ⟨g, cap, cur, e, -, hg, -, -, hcs, -⟩ := (HD3.out.2.resolve_left fun e => by simp at e); simp only [Value.slice.injEq, Option.some.injEq, Addr.mk.injEq] at e; obtain ⟨⟨rfl, -⟩, -, rfl⟩ := e; refine ⟨_, f, ad, rfl, e1, e2, cur, _, hg, by rw [HXL.out]; omega, ?_⟩; rw [HDDE.out, HXX.out]; exact ⟨OB.over (w := w3.drew) HD3.out hg (by have := HDL.out; omega), Fr.trans (S := fun k => some k = (Value.slice (some ⟨ga, 0, none⟩) L c3).ownBlock) ((Fr.refl _ w3).drew) ((setRow_fr w3.drew _ _).weaken fun k _ h => by rw [h]; rfl) (fun _ _ h => h)⟩)
          go_wp2
          go_region_law (refine step_copy_fr1 rfl (.tmp 56) (.tmp 58) 38 38 rfl 5 Tryz.underlying38 hn8x.out ((some ⟨ga, f, none⟩)) oa (L - f) (c3 - f) d.length oc (by simp [Act.eval, Act.put]) (by simp [Act.eval, Act.put]) X HMN.out DD HZ0.out HPS.out HX1.out ?_; intro w4 hd4)
          all_goals
            have HFIN := Lib.hid (HEND.out w4 hd4)
            clear hd4
            go_wp2
            go_ret
            exact ChR.yes HX.out HFIN.out.1 HFIN.out.2
    · have HWE : Hid (_ = writeD o.data f d) := Lib.hid (write_eq o.data d f)
      rw [show f + d.length - o.data.length = 0 by omega, List.replicate_zero, List.append_nil] at HWE
      have hngt : ¬ (0 : Int) < (f : Int) + d.length - o.data.length := by omega
      obtain ⟨w3, hw3⟩ : ∃ w3, w3 = w1 := ⟨_, rfl⟩
      subst hw3
      obtain ⟨a3, ha3⟩ : ∃ a3, a3 = a0 := ⟨_, rfl⟩
      subst ha3
      obtain ⟨c3, hc3⟩ : ∃ c3, c3 = c0 := ⟨_, rfl⟩
      subst hc3
      obtain ⟨D1, hD1⟩ : ∃ D1, D1 = o.data := ⟨_, rfl⟩
      have HD3 : Hid (OB base w3 (.slice a3 o.data.length c3) D1) := by show OB _ _ _ _; rw [hD1]; exact HD1.out
      have HDL : Hid (D1.length = o.data.length) := by show _ = _; rw [hD1]
      have hHWE : Hid (D1.take f ++ d ++ D1.drop (f + d.length) = writeD o.data f d) := by show _ = _; rw [hD1]; exact HWE.out
      clear HWE hD1 HD1
      have HWE := hHWE
      have HP3 := HP1
      have HK3 := HK1
      have HF03 : Hid (Fr (fun k => k = pb ∨ some k = (Value.slice a3 o.data.length c3).ownBlock) w w3) := Lib.hid (Fr.ext HB1.out)
      generalize hL : o.data.length = L at *
      have HLL := Lib.hid hL
      clear hL
      go_wp2_with (go_at_call 107; refine (spot_any _ _ _).mono ?_; rintro e w' ⟨rfl, rfl⟩; rw [hs]; clear hs)
      have hat3 : (Value.slice a3 L c3).ownBlock = (Value.slice a3 L c3).ownBlock ∨ (Value.slice a3 L c3).ownBlock = none ∨ ∃ g, (Value.slice a3 L c3).ownBlock = some g ∧ w.heap.size ≤ g := .inl rfl
      have hfL : f + d.length ≤ L := hgr
      clear hgr hngt x0 f0 z0 g0 z4 g4
      have hfL2 : f ≤ L := by omega
      have hcap3 := (HD3.out.rb : RB _ w3 (.slice a3 L c3) _)
      obtain ⟨X, hX⟩ : ∃ X, X = d.map bv := ⟨_, rfl⟩
      have HX1 : Hid (∀ v ∈ X, v.oneCell' = true) := by show ∀ v ∈ X, _; rw [hX]; exact one_bytes _
      have hXl : X.length = d.length := by rw [hX]; simp
      have HMN : Hid (X.length = Nat.min d.length (L - f)) := by show _ = _; rw [hXl]; simp only [Nat.min_def]; split <;> omega
      obtain ⟨DD, hDD⟩ : ∃ DD : World → Prop, DD = fun w' => OB base w' (.slice a3 L c3) (D1.take f ++ d ++ D1.drop (f + d.length)) ∧ Fr (fun k => some k = (Value.slice a3 L c3).ownBlock) w3 w' := ⟨_, rfl⟩
      have HZ0 : Hid (X = [] → DD w3.drew) := by
        show X = [] → _
        intro e
        have e0 : d = [] := by
          have := congrArg List.length e
          rw [hXl] at this
          exact List.eq_nil_of_length_eq_zero this
        rw [hDD]
        refine ⟨?_, (Fr.refl _ w3).drew⟩
        rw [e0]
        have hh : OB base w3 (.slice a3 L c3) (D1.take f ++ ([] : List UInt8) ++ D1.drop (f + ([] : List UInt8).length)) := by simpa using HD3.out
        exact hh
      have HEND : Hid (∀ w4, DD w4 → IsO base pb w4 (.slice a3 L c3) kv ⟨writeD o.data f d, o.keys, o.seq⟩ ∧ Fr (Chg base pb) w w4) := by
        show ∀ w4, _
        intro w4 h
        rw [hDD] at h
        refine data_end HO.out ((h.2.block pb (by have := HF03.out.size; omega) (fun e => by have := (HD3.out.lt _ e.symm).1; omega)).trans HP3.out) (by rw [← HWE.out]; exact h.1) ?_ hat3
        refine Fr.trans (S := fun k => k = pb ∨ some k = (Value.slice a3 L c3).ownBlock) (T := fun k => some k = (Value.slice a3 L c3).ownBlock) HF03.out h.2 fun k hk e => ?_
        rcases hat3 with h3 | h3 | ⟨g, h3, h4⟩
        · exact .inr (e.trans h3)
        · rw [h3] at e; cases e
        · rw [h3] at e; have := Option.some.inj e; omega
      have HLIE : Hid (0 < d.length → ∃ ad, oa = some ad ∧ ∀ j v, X[j]? = some v → w3.drew.cell? (ad.add j) = some v) := by
        show 0 < d.length → _
        intro h
        have hv3 : RB A w3 (.slice oa d.length oc) d := HV.out.mono (Same.of_fr HF03.out fun b hb _ e => by
          rcases e with e | e
          · exact (HA.out b hb).1 e
          · exact (HA.out b hb).2 e.symm)
        obtain ⟨b, ofs, e, -, -, -, hcc⟩ := hv3.lie h
        refine ⟨_, e, fun j v hj => ?_⟩
        have hjl := (List.getElem?_eq_some_iff.1 hj).1
        rw [add_plain]
        exact (hcc j (by omega)).trans (by rw [← hX]; exact hj)
      have HXX := Lib.hid hX
      have HXL := Lib.hid hXl
      have HDDE := Lib.hid hDD
      obtain ⟨x0, f0⟩ := blk_cell (i := 0) HP3.out
      obtain ⟨z0, g0⟩ := blk_cell (i := 0) HK3.out
      obtain ⟨z4, g4⟩ := blk_cell (i := 4) HK3.out
      simp at x0 z0 z4
      clear hX hXl hDD
      rcases a3 with _ | ⟨ga, go_, gs⟩
      · have hL0 : L = 0 := (SlA.none_ hcap3).1
        have hc0 : c3 = 0 := (SlA.none_ hcap3).2.2
        obtain rfl : f = 0 := by omega
        have HD0 : Hid (d.length = 0) := by show _ = _; omega
        subst hL0 hc0
        clear hcap3
        have HPS : Hid (0 < X.length → ∃ g off ad, (none : Option Addr) = some ⟨g, off, none⟩ ∧ oa = some ad ∧ (∀ j v, X[j]? = some v → w3.drew.cell? (ad.add j) = some v) ∧ ∃ cur t, w3.drew.heap[g]? = some (.cells cur t (0, 0)) ∧ off + X.length ≤ cur.size ∧ DD (w3.drew.setRow g (cur.toList.take off ++ X ++ cur.toList.drop (off + X.length)).toArray)) := by
          show 0 < X.length → _
          (intro h; rw [HXL.out, HD0.out] at h; omega)
        go_wp2
        go_region_law (refine step_copy_fr1 rfl (.tmp 56) (.tmp 58) 38 38 rfl 5 Tryz.underlying38 hn8x.out (none) oa (0) (0) d.length oc (by simp [Act.eval, Act.put]) (by simp [Act.eval, Act.put]) X HMN.out DD HZ0.out HPS.out HX1.out ?_; intro w4 hd4)
        all_goals
          have HFIN := Lib.hid (HEND.out w4 hd4)
          clear hd4
          go_wp2
          go_ret
          exact ChR.yes HX.out HFIN.out.1 HFIN.out.2
      · obtain ⟨rfl, rfl⟩ : go_ = 0 ∧ gs = none := by
          rcases HD3.out.2 with ⟨e, -⟩ | ⟨g, cap, cur, e, -⟩
          · simp at e
          · simp only [Value.slice.injEq, Option.some.injEq, Addr.mk.injEq] at e
            exact ⟨e.1.2.1, e.1.2.2⟩
        have hLc : L ≤ c3 := by
          have := (SlA.src hcap3).2.1
          have := (SlA.src hcap3).1
          omega
        clear hcap3
        by_cases hcf : c3 = f
        · subst hcf
          have HLF : Hid (L = c3) := by show _ = _; omega
          have HD0 : Hid (d.length = 0) := by show _ = _; omega
          have HMB : Hid (X.length = Nat.min d.length 0) := by show _ = _; rw [HXL.out, HD0.out]; rfl
          have HPS : Hid (0 < X.length → ∃ g off ad, ((some ⟨ga, 0, none⟩) : Option Addr) = some ⟨g, off, none⟩ ∧ oa = some ad ∧ (∀ j v, X[j]? = some v → w3.drew.cell? (ad.add j) = some v) ∧ ∃ cur t, w3.drew.heap[g]? = some (.cells cur t (0, 0)) ∧ off + X.length ≤ cur.size ∧ DD (w3.drew.setRow g (cur.toList.take off ++ X ++ cur.toList.drop (off + X.length)).toArray)) := by
            show 0 < X.length → _
            (intro h; rw [HXL.out, HD0.out] at h; omega)
          go_wp2
          go_region_law (refine step_copy_fr1 rfl (.tmp 56) (.tmp 58) 38 38 rfl 5 Tryz.underlying38 hn8x.out ((some ⟨ga, 0, none⟩)) oa (0) (0) d.length oc (by simp [Act.eval, Act.put]) (by simp [Act.eval, Act.put]) X HMB.out DD HZ0.out HPS.out HX1.out ?_; intro w4 hd4)
          all_goals
            have HFIN := Lib.hid (HEND.out w4 hd4)
            clear hd4
            go_wp2
            go_ret
            exact ChR.yes HX.out HFIN.out.1 HFIN.out.2
        · have HPS : Hid (0 < X.length → ∃ g off ad, ((some ⟨ga, f, none⟩) : Option Addr) = some ⟨g, off, none⟩ ∧ oa = some ad ∧ (∀ j v, X[j]? = some v → w3.drew.cell? (ad.add j) = some v) ∧ ∃ cur t, w3.drew.heap[g]? = some (.cells cur t (0, 0)) ∧ off + X.length ≤ cur.size ∧ DD (w3.drew.setRow g (cur.toList.take off ++ X ++ cur.toList.drop (off + X.length)).toArray)) := by
            show 0 < X.length → _
            (intro h; rw [HXL.out] at h; obtain ⟨ad, e1, e2⟩ := HLIE.out h; obtain ⟨g, cap, cur, e, -, hg, -, -, hcs, -⟩ := (HD3.out.2.resolve_left fun e => by simp at e); simp only [Value.slice.injEq, Option.some.injEq, Addr.mk.injEq] at e; obtain ⟨⟨rfl, -⟩, -, rfl⟩ := e; refine ⟨_, f, ad, rfl, e1, e2, cur, _, hg, by rw [HXL.out]; omega, ?_⟩; rw [HDDE.out, HXX.out]; exact ⟨OB.over (w := w3.drew) HD3.out hg (by have := HDL.out; omega), Fr.trans (S := fun k => some k = (Value.slice (some ⟨ga, 0, none⟩) L c3).ownBlock) ((Fr.refl _ w3).drew) ((setRow_fr w3.drew _ _).weaken fun k _ h => by rw [h]; rfl) (fun _ _ h => h)⟩)
          go_wp2
          go_region_law (refine step_copy_fr1 rfl (.tmp 56) (.tmp 58) 38 38 rfl 5 Tryz.underlying38 hn8x.out ((some ⟨ga, f, none⟩)) oa (L - f) (c3 - f) d.length oc (by simp [Act.eval, Act.put]) (by simp [Act.eval, Act.put]) X HMN.out DD HZ0.out HPS.out HX1.out ?_; intro w4 hd4)
          all_goals
            have HFIN := Lib.hid (HEND.out w4 hd4)
            clear hd4
            go_wp2
            go_ret
            exact ChR.yes HX.out HFIN.out.1 HFIN.out.2
end Go.Proofs.YtohfckkgmijlnaaGreatDoor
