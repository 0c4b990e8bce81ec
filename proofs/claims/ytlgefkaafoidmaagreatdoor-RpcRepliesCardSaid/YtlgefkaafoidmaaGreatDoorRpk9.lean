/- txn.Pack at any transaction; the walk of terrazzoref09.Pack. -/
import Derived.Test.YtlgefkaafoidmaaGreatDoorGN
import Derived.Test.YtlgefkaafoidmaaGreatDoorGK
namespace Go.Proofs.YtlgefkaafoidmaaGreatDoor
open Go.RowKit Go.WideShapes

/-- a transaction's bytes; none, if it may not be -/
def packL (t : TxD) : List UInt8 := if txE t = 0 then txL t t.ops.length else []
theorem tpack_bad (A : Nat → Prop) (t : TxD) (va : Value) (w : World) (h : SlE Enc.op A w va t.ops) (hE : txE t ≠ 0) : Calls Tryz.prog 38 #[.agg #[.string t.obj, va]] w fun e w' => ∃ v, e = .returned v ∧ OB w.heap.size w' v [] ∧ Below w.heap.size w w' := by
  obtain ⟨a, c, rfl⟩ := h.shape
  obtain ⟨ob, ops⟩ := t
  simp only at *
  have HS := Lib.hid h
  have HE := Lib.hid (bne_iff_ne.2 hE)
  clear h hE
  go_enter Tryz.func38, Tryz.ntmps38
  go_wp2_with fail
  refine (tcheck_any A ⟨ob, ops⟩ _ _ (HS.out.ext ((Below.refl _ w).alloc (Nat.le_refl _) _))).mono ?_
  rintro e w1 ⟨rfl, hb1⟩
  have HW : Hid (Below w.heap.size w w1) := ((Below.refl _ w).alloc (Nat.le_refl _) _).trans (hb1.mono (by simp))
  have hne := HE.out
  have hne' : txE ⟨ob, ops⟩ ≠ 0 := bne_iff_ne.1 hne
  generalize txE ⟨ob, ops⟩ = E at *
  clear hb1
  go_wp2
  go_ret
  exact ⟨_, rfl, OB.nil _ _, HW.out⟩
theorem tpackL_any (A : Nat → Prop) (t : TxD) (va : Value) (w : World) (h : SlE Enc.op A w va t.ops) : Calls Tryz.prog 38 #[.agg #[.string t.obj, va]] w fun e w' => ∃ v, e = .returned v ∧ OB w.heap.size w' v (packL t) ∧ Below w.heap.size w w' := by
  by_cases hE : txE t = 0
  · rw [show packL t = txL t t.ops.length from if_pos hE]
    exact tpack_ok A t va w h hE
  · rw [show packL t = [] from if_neg hE]
    exact tpack_bad A t va w h hE
theorem rpack_bad (A : Nat → Prop) (t : TxD) (va : Value) (w : World) (h : SlE Enc.op A w va t.ops) (hE : txE t ≠ 0) : Calls Tryz.prog 43 #[.agg #[.string t.obj, va]] w fun e w' => ∃ v, e = .returned v ∧ OB w.heap.size w' v [] ∧ Below w.heap.size w w' := by
  obtain ⟨a, c, rfl⟩ := h.shape
  obtain ⟨ob, ops⟩ := t
  simp only at *
  have HS := Lib.hid h
  have HE := Lib.hid (bne_iff_ne.2 hE)
  clear h hE
  go_enter Tryz.func43, Tryz.ntmps43
  go_wp2_with fail
  refine (rcheck9_any A ⟨ob, ops⟩ _ _ (HS.out.ext ((Below.refl _ w).alloc (Nat.le_refl _) _))).mono ?_
  rintro e w1 ⟨rfl, hb1⟩
  have HW : Hid (Below w.heap.size w w1) := ((Below.refl _ w).alloc (Nat.le_refl _) _).trans (hb1.mono (by simp))
  have hne := HE.out
  have hne' : txE ⟨ob, ops⟩ ≠ 0 := bne_iff_ne.1 hne
  generalize txE ⟨ob, ops⟩ = E at *
  clear hb1
  go_wp2
  go_ret
  exact ⟨_, rfl, OB.nil _ _, HW.out⟩
/-- what an append of bytes leaves: the blocks that the row does not lie in stay -/
def AppOut (base : Nat) (W : World) (v : Value) (l : List UInt8) (v' : Value) (W' : World) : Prop :=
  OB base W' v' l ∧ Below base W W' ∧ ∀ (p : Nat) (o : Obj), W.heap[p]? = some o → v.ownBlock ≠ some p → W'.heap[p]? = some o ∧ v'.ownBlock ≠ some p
section
variable {ops : Array Oper} {rest : List Oper} {o : Oper} {a : Act} {Q : Exit → Act → World → Prop}
/-- 'append(out, src...)', and what stays -/
theorem wpList_appO (w : World) (hgd : o.guard = none) (s x : Operand) (ho : o.op = .call { callee := .builtin .append, args := #[s, x], argTypes := #[27, 27] })
    (base : Nat) (v : Value) (l : List UInt8) (hs : a.eval s = v) (hown : OB base w v l) (A : Nat → Prop) (sv : Value) (m : List UInt8)
    (hx : a.eval x = sv) (hsl : RB A w sv m) (hl : l.length + m.length ≤ 1000000) (hbase : base ≤ w.heap.size)
    (h : ∀ v' w', AppOut base w v (l ++ m) v' w' → wpList Tryz.prog ops Q rest (a.put o.dst v') w') : wpList Tryz.prog ops Q (o :: rest) a w := by
  obtain ⟨i0, hi, hz0, hz1, hz2⟩ := info_parts infoByte
  have fin : ∀ v' w', w'.ownsRow base 5 1 v' (l.length + m.length) (l.map bv ++ m.map bv) → w.grownBy w' v.ownBlock → (v'.ownBlock = v.ownBlock ∨ v'.ownBlock = some w.heap.size) → wpList Tryz.prog ops Q rest (a.put o.dst v') w' := by
    intro v' w' h4 h5 h6
    refine h v' w' ⟨OB.cast h4 (by simp) (by simp), (Below.refl base w).grown h5 hbase fun j hj => (hown.lt j hj).1, fun p ob hp hne => ?_⟩
    have hlt := (Array.getElem?_eq_some_iff.1 hp).1
    refine ⟨(h5.block p hlt fun e => hne e.symm).trans hp, ?_⟩
    rcases h6 with e | e
    · rw [e]; exact hne
    · rw [e]
      simp only [ne_eq, Option.some.injEq]
      omega
  rcases hsl.2 with ⟨⟨a0, rfl⟩, hm0⟩ | ⟨b, off, cap, rfl, hlb, hA, hc, hcell⟩
  · have hn : m = [] := List.length_eq_zero_iff.1 hm0
    subst hn
    cases a0 with
    | none => exact wpList_append_own_none hgd s x 27 ho base 5 i0 1 Tryz.underlying27 hi v l.length (l.map bv) hs hown hx (fin v w (by rw [List.map_nil, List.append_nil]; exact hown) (World.grownBy.refl w _) (.inl rfl))
    | some p => exact wpList_append_own_at w hgd s x 27 ho base 5 i0 (.int .u8 0) 1 1 Tryz.underlying27 hi hz0 hz1 hz2 rfl (by decide) v l.length (l.map bv) hs hown p 0 0 [] hx (by simp) (fun j u hj => by simp at hj) (by simp) (by unfold maxLen; simp at hl; omega) (by simp at hl; omega) hbase fun v' w' h2 h3 _ h6 => fin v' w' (by simpa using h2) h3 h6
  · refine wpList_append_own_at w hgd s x 27 ho base 5 i0 (.int .u8 0) 1 1 Tryz.underlying27 hi hz0 hz1 hz2 rfl (by decide) v l.length (l.map bv) hs hown ⟨b, off, none⟩ m.length cap (m.map bv) hx (by simp) (fun j u hj => ?_) (one_bytes m) (by unfold maxLen; omega) (by omega) hbase fun v' w' h2 h3 _ h6 => fin v' w' h2 h3 h6
    have hjl : j < m.length * 1 := by have := (List.getElem?_eq_some_iff.1 hj).1; simpa using this
    rw [add_plain, hcell j hjl, hj]
end
/-- a row of the call's own that two boxes are no part of -/
structure St (w : World) (p q : Nat) (op oq : Obj) (W : World) (v : Value) (l : List UInt8) : Prop where
  bp : W.heap[p]? = some op
  bq : W.heap[q]? = some oq
  np : v.ownBlock ≠ some p
  nq : v.ownBlock ≠ some q
  ob : OB w.heap.size W v l
  bl : Below w.heap.size w W
theorem St.call {w : World} {p q : Nat} {op oq : Obj} {W W' : World} {v : Value} {l : List UInt8} (h : St w p q op oq W v l) (hb : Below W.heap.size W W') : St w p q op oq W' v l :=
  ⟨blkk hb h.bp, blkk hb h.bq, h.np, h.nq, h.ob.ext hb, below_call h.bl hb⟩
theorem St.app {w : World} {p q : Nat} {op oq : Obj} {W W' : World} {v v' : Value} {l l' : List UInt8} (h : St w p q op oq W v l) (ha : AppOut w.heap.size W v l' v' W') : St w p q op oq W' v' l' :=
  ⟨(ha.2.2 p op h.bp h.np).1, (ha.2.2 q oq h.bq h.nq).1, (ha.2.2 p op h.bp h.np).2, (ha.2.2 q oq h.bq h.nq).2, ha.1, h.bl.trans ha.2.1⟩
theorem OB.not_at {base p : Nat} {W : World} {v : Value} {l : List UInt8} (h : OB base W v l) (hp : p < base ∨ W.heap.size ≤ p) : v.ownBlock ≠ some p := fun e => by
  have := h.lt p e
  omega
/-- a new box beside it -/
theorem St.box {w : World} {p : Nat} {op : Obj} {W : World} {v : Value} {l : List UInt8} (h : St w p p op op W v l) (o : Obj) : St w p W.heap.size op o (W.alloc o) v l :=
  ⟨blka h.bp o, heap_alloc_new W o, h.np, h.ob.not_at (.inr (Nat.le_refl _)), h.ob.ext ((Below.refl _ W).alloc (Nat.le_refl _) _), below_new h.bl o⟩
theorem St.one {w : World} {p q : Nat} {op oq : Obj} {W : World} {v : Value} {l : List UInt8} (h : St w p q op oq W v l) : St w p p op op W v l := ⟨h.bp, h.bp, h.np, h.np, h.ob, h.bl⟩
theorem St.cast {w : World} {p q : Nat} {op oq : Obj} {W : World} {v : Value} {l l' : List UInt8} (h : St w p q op oq W v l) (e : l = l') : St w p q op oq W v l' := e ▸ h
set_option maxRecDepth 100000 in
set_option maxHeartbeats 8000000 in
theorem rpack_ok (A : Nat → Prop) (t : TxD) (va : Value) (w : World) (h : SlE Enc.op A w va t.ops) (hE : txE t = 0) : Calls Tryz.prog 43 #[.agg #[.string t.obj, va]] w fun e w' => ∃ v, e = .returned v ∧ OB w.heap.size w' v (txL t t.ops.length) ∧ Below w.heap.size w w' := by
  obtain ⟨a, c, rfl⟩ := h.shape
  obtain ⟨hl, hnm, hall⟩ := txE_ok hE
  have hol := nameB_len hnm
  obtain ⟨ob, ops⟩ := t
  simp only at *
  have HS := Lib.hid h
  have HALL : Hid (∀ o ∈ ops, opP o) := fun o ho => of_decide_eq_true (List.all_eq_true.1 hall o ho)
  have HE := Lib.hid hE
  have hobl : ob.data.toList.length = ob.size := by simp
  have HOBL := Lib.hid hobl
  clear h hnm hall hE hobl
  go_enter Tryz.func43, Tryz.ntmps43
  go_wp2_with fail
  refine (rcheck9_any A ⟨ob, ops⟩ _ _ (HS.out.ext ((Below.refl _ w).alloc (Nat.le_refl _) _))).mono ?_
  rintro e w1 ⟨rfl, hb1⟩
  rw [HE.out]
  have B1 := Lib.hid ((hb1.block w.heap.size (by simp)).trans (heap_alloc_new w _))
  have HW : Hid (Below w.heap.size w w1) := ((Below.refl _ w).alloc (Nat.le_refl _) _).trans (hb1.mono (by simp))
  obtain ⟨x0, -⟩ := blk_cell (i := 0) B1.out
  simp at x0
  have lx := (Array.getElem?_eq_some_iff.1 B1.out).1
  have hcs := fun W : World => run_bytes_of_string (P := Tryz.prog) W 9 27 5 ob Tryz.underlying9 Tryz.underlying27 Tryz.underlying5
  clear hb1
  go_wp2_with fail
  refine (bblob_any (fun b => w1.heap.size ≤ b) _ ob.data.toList _ (str_row w1 ob) (by rw [HOBL.out]; omega)).mono ?_
  rintro e w2 ⟨v2, rfl, ho2, hb2⟩
  have hb12 : Below w1.heap.size w1 w2 := (str_below w1 ob).trans (hb2.mono (str_below w1 ob).size)
  have B2 := Lib.hid (blkk hb12 B1.out)
  have HW2 : Hid (Below w.heap.size w w2) := below_call HW.out hb12
  have HS2 : Hid (St w w.heap.size w.heap.size (.cells #[.string ob, .slice a ops.length c] 24) (.cells #[.string ob, .slice a ops.length c] 24) w2 v2 (be 2 ob.data.toList.length ++ ob.data.toList)) := ⟨B2.out, B2.out, ho2.not_at (.inl (Nat.lt_of_lt_of_le lx (str_below w1 ob).size)), ho2.not_at (.inl (Nat.lt_of_lt_of_le lx (str_below w1 ob).size)), ho2.base_le (Nat.le_trans HW.out.size (str_below w1 ob).size), HW2.out⟩
  obtain ⟨x1, -⟩ := blk_cell (i := 1) B2.out
  simp at x1
  have lx2 := (Array.getElem?_eq_some_iff.1 B2.out).1
  clear ho2 hb2 hb12 B1 x0 lx hcs HW B2
  go_wp2_with fail
  refine (bnum_any 1 ops.length (by omega) (by omega) (by omega) _).mono ?_
  rintro e w3 ⟨v3, rfl, ho3, hb3⟩
  have HS3 := Lib.hid (HS2.out.call hb3)
  have HO3 := Lib.hid ho3
  have hsz3 := HS3.out.bl.size
  have lx3 := (Array.getElem?_eq_some_iff.1 HS3.out.bp).1
  clear ho3 hb3 lx2 HW2 HS2 x1
  go_wp2_with (first | (at_builtin; refine wpList_appO _ rfl _ _ rfl w.heap.size _ _ rfl HS3.out.ob _ _ _ rfl HO3.out.rb (by rw [List.length_append, HOBL.out]; simp [be_length]; omega) hsz3 ?_) | go_in)
  intro v4 w4 ho4
  have HS4 : Hid (St w w.heap.size w.heap.size (.cells #[.string ob, .slice a ops.length c] 24) (.cells #[.string ob, .slice a ops.length c] 24) w4 v4 (txL ⟨ob, ops⟩ 0)) := by
    have := HS3.out.app ho4
    show St _ _ _ _ _ _ _ _
    unfold txL
    simpa using this
  have HL0 : Hid ((txL ⟨ob, ops⟩ 0).length ≤ 100) := by
    show _ ≤ _
    unfold txL
    simp [be_length]
    omega
  clear ho4 HS3 HO3 hsz3 lx3
  go_wp2
  go_loopw [3, 4] (fun q3 q4 wr => ∃ (k : Nat), k ≤ ops.length ∧ q4 = .int .i64 k ∧ St w w.heap.size w.heap.size (.cells #[.string ob, .slice a ops.length c] 24) (.cells #[.string ob, .slice a ops.length c] 24) wr q3 (txL ⟨ob, ops⟩ k) ∧ (txL ⟨ob, ops⟩ k).length ≤ 100 + 3000 * k) (fun _ q4 _ => ops.length - (intOf q4).toNat)
  case atStart => exact ⟨0, Nat.zero_le _, rfl, HS4.out, by have := HL0.out; omega⟩
  case round =>
    obtain ⟨k, hk, rfl, hst, hlk⟩ := hrel
    have HLK := Lib.hid hlk
    have HST := Lib.hid hst
    obtain ⟨x1, -⟩ := blk_cell (i := 1) hst.bp
    simp at x1
    have lx := (Array.getElem?_eq_some_iff.1 hst.bp).1
    generalize u3 = v at *
    clear hst HL0 hlk HS4
    by_cases hlt : k < ops.length
    · have HSU := Lib.hid (txL_succ ⟨ob, ops⟩ k hlt)
      have HOP : Hid (opP ops[k]) := HALL.out _ (List.getElem_mem hlt)
      obtain ⟨b, off, v0, rfl, hb, -, c0, c1, c2, c3, c4, hv⟩ := Ops.at HS.out hlt
      replace c0 := cellB HST.out.bl hb c0
      replace c1 := cellB HST.out.bl hb c1
      replace c2 := cellB HST.out.bl hb c2
      replace c3 := cellB HST.out.bl hb c3
      replace c4 := cellB HST.out.bl hb c4
      replace hb := Nat.lt_of_lt_of_le hb HST.out.bl.size
      obtain ⟨va, vc, rfl⟩ := hv.shape
      have HV := Lib.hid hv
      simp only at HSU
      generalize ops[k] = o at *
      obtain ⟨k1, f1, n1, nm, d1⟩ := o
      obtain ⟨p1, p2, p3, p4, p5, p6, p7, p8⟩ := HOP.out
      simp only at p1 p2 p3 p4 p5 p6 p7 p8 c0 c1 c2 c3 c4
      obtain ⟨k1, rfl⟩ := Int.eq_ofNat_of_zero_le (by omega : 0 ≤ k1)
      obtain ⟨f1, rfl⟩ := Int.eq_ofNat_of_zero_le p3
      obtain ⟨n1, rfl⟩ := Int.eq_ofNat_of_zero_le p5
      have p7' : nm.size ≤ 12 := by omega
      have p8' : d1.length ≤ 2048 := by omega
      have hnl : nm.data.toList.length = nm.size := by simp
      have HNL := Lib.hid hnl
      simp only [Int.toNat_natCast] at HSU
      have hcs := fun W : World => run_bytes_of_string (P := Tryz.prog) W 9 27 5 nm Tryz.underlying9 Tryz.underlying27 Tryz.underlying5
      have T0 := Lib.hid (HST.out.box (.cells #[.int .i64 (k1 : Nat), .int .i64 (f1 : Nat), .int .i64 (n1 : Nat), .string nm, .slice va d1.length vc] 58))
      have hz0 := T0.out.bl.size
      clear hv hnl HOP HST
      go_wp2_with fail
      refine (bnum_any 1 k1 (by omega) (by omega) (by omega) _).mono ?_
      rintro e z0 ⟨r0, rfl, ho, hb⟩
      have T0c := Lib.hid (T0.out.call hb)
      have HR0 := Lib.hid ho
      have hz0c := T0c.out.bl.size
      clear ho hb  c0 c1 c2 c3 c4 T0 hz0
      go_wp2_with (first | (at_builtin; refine wpList_appO _ rfl _ _ rfl w.heap.size _ _ rfl T0c.out.ob _ _ _ rfl HR0.out.rb (by have := HLK.out; have := HNL.out; simp [be_length]; omega) hz0c ?_) | go_in)
      intro v0' t0 ho
      have T1 := Lib.hid (T0c.out.app ho)
      have hz1 := T1.out.bl.size
      have lk0 := (Array.getElem?_eq_some_iff.1 T1.out.bq).1
      obtain ⟨y1, -⟩ := blk_cell (i := 1) T1.out.bq
      simp at y1
      clear ho T0c HR0 hz0c 
      go_wp2_with fail
      refine (bnum_any 6 f1 (by omega) (by omega) (by omega) _).mono ?_
      rintro e z1 ⟨r1, rfl, ho, hb⟩
      have T1c := Lib.hid (T1.out.call hb)
      have HR1 := Lib.hid ho
      have hz1c := T1c.out.bl.size
      clear ho hb  y1 T1 hz1
      go_wp2_with (first | (at_builtin; refine wpList_appO _ rfl _ _ rfl w.heap.size _ _ rfl T1c.out.ob _ _ _ rfl HR1.out.rb (by have := HLK.out; have := HNL.out; simp [be_length]; omega) hz1c ?_) | go_in)
      intro v1' t1 ho
      have T2 := Lib.hid (T1c.out.app ho)
      have hz2 := T2.out.bl.size
      have lk1 := (Array.getElem?_eq_some_iff.1 T2.out.bq).1
      obtain ⟨y2, -⟩ := blk_cell (i := 2) T2.out.bq
      simp at y2
      clear ho T1c HR1 hz1c lk0
      go_wp2_with fail
      refine (bnum_any 6 n1 (by omega) (by omega) (by omega) _).mono ?_
      rintro e z2 ⟨r2, rfl, ho, hb⟩
      have T2c := Lib.hid (T2.out.call hb)
      have HR2 := Lib.hid ho
      have hz2c := T2c.out.bl.size
      clear ho hb  y2 T2 hz2
      go_wp2_with (first | (at_builtin; refine wpList_appO _ rfl _ _ rfl w.heap.size _ _ rfl T2c.out.ob _ _ _ rfl HR2.out.rb (by have := HLK.out; have := HNL.out; simp [be_length]; omega) hz2c ?_) | go_in)
      intro v2' t2 ho
      have T3 := Lib.hid (T2c.out.app ho)
      have hz3 := T3.out.bl.size
      have lk2 := (Array.getElem?_eq_some_iff.1 T3.out.bq).1
      obtain ⟨y3, -⟩ := blk_cell (i := 3) T3.out.bq
      simp at y3
      clear ho T2c HR2 hz2c lk1
      go_wp2_with fail
      refine (bblob_any (fun b => t2.heap.size ≤ b) _ nm.data.toList _ (str_row t2 nm) (by rw [HNL.out]; omega)).mono ?_
      rintro e z3 ⟨r3, rfl, ho, hb0⟩
      have hb : Below t2.heap.size t2 z3 := (str_below t2 nm).trans (hb0.mono (str_below t2 nm).size)
      have T3c := Lib.hid (T3.out.call hb)
      have HR3 := Lib.hid ho
      have hz3c := T3c.out.bl.size
      clear ho hb hb0 hcs y3 T3 hz3
      go_wp2_with (first | (at_builtin; refine wpList_appO _ rfl _ _ rfl w.heap.size _ _ rfl T3c.out.ob _ _ _ rfl HR3.out.rb (by have := HLK.out; have := HNL.out; simp [be_length]; omega) hz3c ?_) | go_in)
      intro v3' t3 ho
      have T4 := Lib.hid (T3c.out.app ho)
      have hz4 := T4.out.bl.size
      have lk3 := (Array.getElem?_eq_some_iff.1 T4.out.bq).1
      obtain ⟨y4, -⟩ := blk_cell (i := 4) T4.out.bq
      simp at y4
      clear ho T3c HR3 hz3c lk2
      go_wp2_with fail
      refine (bblob_any A _ d1 _ (HV.out.ext T4.out.bl) (by omega)).mono ?_
      rintro e z4 ⟨r4, rfl, ho, hb⟩
      have T4c := Lib.hid (T4.out.call hb)
      have HR4 := Lib.hid ho
      have hz4c := T4c.out.bl.size
      clear ho hb  y4 T4 hz4
      go_wp2_with (first | (at_builtin; refine wpList_appO _ rfl _ _ rfl w.heap.size _ _ rfl T4c.out.ob _ _ _ rfl HR4.out.rb (by have := HLK.out; have := HNL.out; simp [be_length]; omega) hz4c ?_) | go_in)
      intro v4' t4 ho
      have T5 := Lib.hid (T4c.out.app ho)
      have hz5 := T5.out.bl.size
      clear ho T4c HR4 hz4c lk3
      have HT := Lib.hid (T5.out.one.cast (l' := txL ⟨ob, ops⟩ (k + 1)) (by rw [HSU.out]; simp))
      have HL9 : Hid ((txL ⟨ob, ops⟩ (k + 1)).length ≤ 100 + 3000 * (k + 1)) := by
        show _ ≤ _
        rw [HSU.out]
        have := HLK.out
        have := HNL.out
        simp [be_length]
        omega
      obtain ⟨x2, -⟩ := blk_cell (i := 1) HT.out.bp
      simp at x2
      clear T5 x1
      go_wp2
      go_roundw
      case rel => exact ⟨k + 1, by omega, by go_num, HT.out, HL9.out⟩
      case measure => simp [intOf]; omega
    · obtain rfl : k = ops.length := by omega
      go_wp2
      go_ret
      exact ⟨_, rfl, HST.out.ob, HST.out.bl⟩
theorem rpackL_any (A : Nat → Prop) (t : TxD) (va : Value) (w : World) (h : SlE Enc.op A w va t.ops) : Calls Tryz.prog 43 #[.agg #[.string t.obj, va]] w fun e w' => ∃ v, e = .returned v ∧ OB w.heap.size w' v (packL t) ∧ Below w.heap.size w w' := by
  by_cases hE : txE t = 0
  · rw [show packL t = txL t t.ops.length from if_pos hE]
    exact rpack_ok A t va w h hE
  · rw [show packL t = [] from if_neg hE]
    exact rpack_bad A t va w h hE
end Go.Proofs.YtlgefkaafoidmaaGreatDoor
