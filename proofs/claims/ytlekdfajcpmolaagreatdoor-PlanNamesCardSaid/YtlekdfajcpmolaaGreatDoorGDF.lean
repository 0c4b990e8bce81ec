/- The walk of the step that plan.begin makes. What is written, plainly: the parts' bytes. What is discarded, cut, laid back, plainly: by the code's parts, by as many objects as there are. -/
import Derived.Test.YtlekdfajcpmolaaGreatDoorGDC
import Derived.Test.YtlekdfajcpmolaaGreatDoorOs19
import Derived.Test.YtlekdfajcpmolaaGreatDoorGDB
import Derived.Test.YtlekdfajcpmolaaGreatDoorGCF
namespace Go.Proofs.YtlekdfajcpmolaaGreatDoor
open Go.RowKit Go.WideShapes

theorem infoTxn19 : (Tryz.prog.info? 42).map (fun i => (i.zero, i.size, i.bytes)) = some (some (.agg #[.string ⟨#[]⟩, .slice none 0 0]), 2, 40) := by kernel_rfl
/-- a step's transaction -/
def txO (i : Int) (was : HeD) (seq n : Int) (ops : List OpD) : TxD := ⟨dataS i n, ahS was seq ++ ops ++ [⟨12, 0, seq, ByteArray.empty, []⟩]⟩
/-- what is no plan's own stands -/
def StepK (B : Nat) (w w' : World) : Prop := w.heap.size ≤ w'.heap.size ∧ (∀ b, b < B → w'.heap[b]? = w.heap[b]?) ∧ ∀ (b : Nat) cs t fr, w.heap[b]? = some (.cells cs t fr) → t ≠ 42 → b ≠ B + 3 → w'.heap[b]? = w.heap[b]?
theorem sle_opD {A A2 : Nat → Prop} {base : Nat} {t : TypeId} {w : World} {v : Value} {l : List OpD} (h : EnRow Enc.op t NoB base w v l) (hA : ∀ b, b < w.heap.size → base ≤ b → A b) : SlE (Enc.opD A2) A w v l := by
  obtain ⟨cs, h1, h2, h3⟩ := h.ex
  have := SlE.of_flat (E := Enc.opD A2) (A := fun b => base ≤ b) h1 (fun i x c hi hc => Enc.op.weak (h2 i x c hi hc) fun b _ hb => hb.elim) (SlA.of_owns h3)
  exact this.weak hA
theorem sle_opD2 {A2 : Nat → Prop} {w : World} {v : Value} {l : List OpD} (h : SlE Enc.op A2 w v l) : SlE (Enc.opD A2) (fun b => b < w.heap.size) w v l := by
  obtain ⟨cs, h1, h2, h3, h4⟩ := h.ex
  refine ⟨cs, h1, fun i x c hx hc => Enc.op.weak (h2 i x c hx hc) fun b hl hb => ⟨hl, hb⟩, h3, h4.imp id ?_⟩
  rintro ⟨b, off, cap, rfl, q1, q2, q3, q4⟩
  exact ⟨b, off, cap, rfl, q1, q3, q3, q4⟩
theorem sle_unD {A A2 : Nat → Prop} {base : Nat} {t : TypeId} {w : World} {v : Value} {l : List OpD} (h : EnRow (Enc.opD A2) t A base w v l) (hb : ∀ b, base ≤ b → A2 b) : SlE Enc.op A2 w v l := by
  obtain ⟨cs, h1, h2, h3⟩ := h.ex
  exact SlE.of_flat (E := Enc.op) h1 (fun i x c hi hc => Enc.op.weak (h2 i x c hi hc) fun b _ hb => hb.2) ((SlA.of_owns h3).weak hb)
set_option maxRecDepth 100000 in
set_option maxHeartbeats 1600000 in
theorem step_any (A : Nat → Prop) (B KK : Nat) (i n st : Int) (was h : HeD) (e : EnD) (l : List TxD) (oa : Option Addr) (oc : Nat) (ops : List OpD) (w : World) (hL : LayW w) (hA : ∀ b, A b → b < B) (hKB : B + 7 ≤ KK) (hKw : KK ≤ w.heap.size) (hw : WkM A B KK w i was h e l)
    (hops : ∀ lv, EnR Enc.txn 42 KK w lv l → SlE Enc.op (fun b => KK ≤ b ∧ lv.ownBlock ≠ some b) w (.slice oa ops.length oc) ops) (hlo : ops.length ≤ 1000) (hll : l.length ≤ 1000) (hml : h.map.length ≤ 1000) :
    Calls Tryz.prog 97 #[.int .i64 n, .int .i64 st, .slice oa ops.length oc, .pointer (some ⟨B + 6, 0, none⟩), .pointer (some ⟨B + 2, 0, none⟩), .pointer (some ⟨B + 4, 0, none⟩), .pointer (some ⟨B, 0, none⟩)] w fun en w' => en = .returned (.tuple #[]) ∧ WkM A B KK w' i was ⟨h.u, h.c, h.o, h.size, mSet h.map n st, h.snaps, h.last, h.seq⟩ e (l ++ [txO i was e.seq n ops]) ∧ StepK B w w' ∧ (∀ b, b < KK → b ≠ B + 3 → w'.heap[b]? = w.heap[b]?) ∧ Below B w w' := by
  obtain ⟨t0, ti, tz0, tz1, tz2⟩ := info_parts infoTxn19
  obtain ⟨P0, ⟨ev, P2, hev⟩, P4, ⟨av, P6, hav⟩, wm, wss, hm, hs, ev', lv, P3, h1, h2, h3, h4, h5, h6⟩ := hw
  obtain ⟨aa, ac, rfl⟩ := hav.shape
  obtain ⟨la, lc, rfl⟩ : ∃ a c, lv = .slice a l.length c := by
    obtain ⟨cs, q1, q2, q3⟩ := h6.ex
    exact owns_shape q3
  have HOPS := Lib.hid (hops _ h6)
  obtain ⟨ma, mc, rfl⟩ : ∃ a c, hm = .slice a h.map.length c := by
    rcases h3 with h3 | h3
    · exact h3.shape
    · exact h3.shape
  obtain ⟨k0, -⟩ := blk_cell (i := 0) P6
  obtain ⟨k2, -⟩ := blk_cell (i := 0) P2
  obtain ⟨k4, -⟩ := blk_cell (i := 0) P4
  obtain ⟨ki, -⟩ := blk_cell (i := 0) P0
  replace k0 : w.cell? ⟨B + 6, 0, none⟩ = some (.slice aa (ahS was e.seq).length ac) := k0
  replace k2 : w.cell? ⟨B + 2, 0, none⟩ = some (.int .i64 e.seq) := k2
  replace k4 : w.cell? ⟨B + 4, 0, none⟩ = some (.pointer (some ⟨B + 3, 0, none⟩)) := k4
  replace ki : w.cell? ⟨B, 0, none⟩ = some (.int .i64 i) := ki
  have P0 := Lib.hid P0
  have P2 := Lib.hid P2
  have P4 := Lib.hid P4
  have P6 := Lib.hid P6
  have P3 := Lib.hid P3
  have HAV := Lib.hid hav
  have HEV := Lib.hid hev
  have H1 := Lib.hid h1
  have H2 := Lib.hid h2
  have H3 := Lib.hid h3
  have H4 := Lib.hid h4
  have H5 := Lib.hid h5
  have H6 := Lib.hid h6
  have HL := Lib.hid hL
  clear hav hev h1 h2 h3 h4 h5 h6 hL hops
  obtain ⟨W1, hW1⟩ : ∃ W1, W1 = (w.alloc (.cells #[.int .i64 12, .int .i64 0, .int .i64 e.seq, .string ⟨#[]⟩, .slice none 0 0] 47)).alloc (.cells #[.slice aa (ahS was e.seq).length ac, .slice oa ops.length oc, .slice (some ⟨w.heap.size, 0, none⟩) 1 1] 40) := ⟨_, rfl⟩
  have hs1 : W1.heap.size = w.heap.size + 2 := by rw [hW1]; simp
  have hb1 : Below w.heap.size w W1 := by rw [hW1]; exact ((Below.refl _ w).alloc (Nat.le_refl _) _).alloc (by simp) _
  have x0 : W1.heap[w.heap.size]? = some (.cells #[.int .i64 12, .int .i64 0, .int .i64 e.seq, .string ⟨#[]⟩, .slice none 0 0] 47 (0, 0)) := by rw [hW1]; exact (Below.heap_alloc _ _ _ (by simp)).trans (heap_alloc_new w _)
  have x1 : W1.heap[w.heap.size + 1]? = some (.cells #[.slice aa (ahS was e.seq).length ac, .slice oa ops.length oc, .slice (some ⟨w.heap.size, 0, none⟩) 1 1] 40 (0, 0)) := by
    rw [hW1]
    have := heap_alloc_new (w.alloc (.cells #[.int .i64 12, .int .i64 0, .int .i64 e.seq, .string ⟨#[]⟩, .slice none 0 0] 47)) (.cells #[.slice aa (ahS was e.seq).length ac, .slice oa ops.length oc, .slice (some ⟨w.heap.size, 0, none⟩) 1 1] 40)
    simpa using this
  have hBw : B + 7 ≤ w.heap.size := by
    have := (Array.getElem?_eq_some_iff.1 P6.out).1
    omega
  have hlt := H6.out.lt
  have hrow : SlE (Enc.opr fun b => KK ≤ b ∧ (Value.slice la l.length lc).ownBlock ≠ some b) (fun b => b < W1.heap.size) W1 (.slice (some ⟨w.heap.size + 1, 0, none⟩) 3 3) [ahS was e.seq, ops, [⟨12, 0, e.seq, ByteArray.empty, []⟩]] := by
    refine SlE.of_blk (E := Enc.opr fun b => KK ≤ b ∧ (Value.slice la l.length lc).ownBlock ≠ some b) (cap := 3) (l := [ahS was e.seq, ops, [⟨12, 0, e.seq, ByteArray.empty, []⟩]]) [[.slice aa (ahS was e.seq).length ac], [.slice oa ops.length oc], [.slice (some ⟨w.heap.size, 0, none⟩) 1 1]] rfl (fun j x c hi hc => ?_) x1 rfl (by rw [hs1]; omega) (Nat.le_refl _)
    match j, hi, hc with
    | 0, hi, hc =>
      cases hi; cases hc
      exact ⟨_, rfl, sle_opD (HAV.out.ext hb1) fun b hl _ => hl⟩
    | 1, hi, hc =>
      cases hi; cases hc
      exact ⟨_, rfl, sle_opD2 (HOPS.out.ext hb1)⟩
    | 2, hi, hc =>
      cases hi; cases hc
      exact ⟨_, rfl, sle_opD (t := 47) (base := 0) (EnRow.one (c := [.int .i64 12, .int .i64 0, .int .i64 e.seq, .string ⟨#[]⟩, .slice none 0 0]) x0 ⟨_, rfl, RB.nil _ _⟩ (Nat.zero_le _)) fun b hl _ => hl⟩
  have hah : (ahS was e.seq).length ≤ 2 := by unfold ahS; split <;> simp
  have HC := Lib.hid (concat_any (fun b => KK ≤ b ∧ (Value.slice la l.length lc).ownBlock ≠ some b) (fun b => b < W1.heap.size) (some ⟨w.heap.size + 1, 0, none⟩) 3 [ahS was e.seq, ops, [⟨12, 0, e.seq, ByteArray.empty, []⟩]] W1 hrow (fun b h => h) (by simp) (by simp [sumL]; omega))
  have HB1 := Lib.hid hb1
  have HW1 := Lib.hid hW1
  have HLT := Lib.hid hlt
  clear hW1 hb1 x0 x1 hrow hlt
  go_enter Tryz.func97, Tryz.ntmps97
  go_wp2_with fail
  rw [← HW1.out]
  refine HC.out.mono ?_
  rintro en w2 ⟨v2, rfl, hr2, hb2⟩
  rw [show [ahS was e.seq, ops, [⟨12, 0, e.seq, ByteArray.empty, []⟩]].flatten = (txO i was e.seq n ops).ops by simp [txO]] at hr2
  obtain ⟨a2, c2, rfl⟩ := hr2.shape
  have hb12 : Below w.heap.size w w2 := HB1.out.trans (hb2.mono (by omega))
  have HR2 : Hid (SlE Enc.op (fun b => KK ≤ b ∧ (Value.slice la l.length lc).ownBlock ≠ some b) w2 (.slice a2 (txO i was e.seq n ops).ops.length c2) (txO i was e.seq n ops).ops) := Lib.hid (sle_unD hr2 fun b hb => ⟨by omega, fun e => by have := (HLT.out b e).2; omega⟩)
  have HB2 := Lib.hid hb12
  have e2 := cellExt hb12 k2
  have e4 := cellExt hb12 k4
  have ei := cellExt hb12 ki
  clear hr2 hb2 hb12 HC HB1 HW1 k0 k2 k4 ki
  go_upto_region 1 with fail
  have PLD := Lib.hid ((HL.out.ext HB2.out).ext (Below.drew (Below.refl _ _)))
  have H6X := Lib.hid (H6.out.ext HB2.out)
  obtain ⟨z3, f3⟩ := blk_cell (i := 23) (blk19 HB2.out P3.out)
  replace z3 : w2.cell? ⟨B + 3, 23, none⟩ = some (.slice la l.length lc) := z3
  have hs2 := HB2.out.size
  have HS : Hid (∀ W, Below w2.heap.size w2 W → W.cell? ⟨B + 4, 0, none⟩ = some (.pointer (some ⟨B + 3, 0, none⟩)) ∧ W.cell? ⟨B + 3, 23, none⟩ = some (.slice la l.length lc) ∧ W.cell? ⟨B, 0, none⟩ = some (.int .i64 i)) := Lib.hid fun W h => ⟨cellExt h e4, cellExt h z3, cellExt h ei⟩
  clear HOPS e2
  refine wp_region_sink (n := 14) (fun W => W.cell? ⟨B + 4, 0, none⟩ = some (.pointer (some ⟨B + 3, 0, none⟩)) ∧ W.cell? ⟨B + 3, 23, none⟩ = some (.slice la l.length lc) ∧ W.cell? ⟨B, 0, none⟩ = some (.int .i64 i)) (by kernel_rfl) (by kernel_rfl) (by kernel_rfl) (by kernel_rfl) rfl (HS.out _ (Below.drew (Below.refl _ _))) (fun hHeld => ?_)
  refine wpAnyH_take (i := 0) (oi := { dst := some 19, op := Op.load 105 (Operand.tmp 5), type := 105, pos := "plan.go:88", after := #[], guard := none }) (v := ?v0) rfl (by kernel_rfl) (by kernel_rfl) (by kernel_rfl) (fun _ _ _ h => h) (Or.inl ⟨by rfl, ?hy0⟩) hHeld ?r0
  case hy0 => (intro W hSW; (try dsimp only at hSW); go_simp; try (with_reducible rfl))
  simp only [Act.put, List.setIfInBounds_toArray, List.set_cons_zero, List.set_cons_succ]
  refine wpAnyH_take (i := 1) (oi := { dst := some 20, op := Op.load 105 (Operand.tmp 5), type := 105, pos := "plan.go:88", after := #[], guard := none }) (v := ?v1) rfl (by kernel_rfl) (by kernel_rfl) (by kernel_rfl) (fun _ _ _ h => h) (Or.inl ⟨by rfl, ?hy1⟩) hHeld ?r1
  case hy1 => (intro W hSW; (try dsimp only at hSW); go_simp; try (with_reducible rfl))
  simp only [Act.put, List.setIfInBounds_toArray, List.set_cons_zero, List.set_cons_succ]
  refine wpAnyH_take (i := 2) (oi := { dst := some 21, op := Op.nilCheck (Operand.tmp 20), type := 0, pos := "plan.go:88", after := #[{ on := 1, ground := Ground.data }], guard := none }) (v := ?v2) rfl (by kernel_rfl) (by kernel_rfl) (by kernel_rfl) (fun _ _ _ h => h) (Or.inl ⟨by rfl, ?hy2⟩) hHeld ?r2
  case hy2 => (intro W hSW; (try dsimp only at hSW); go_simp; try (with_reducible rfl))
  simp only [Act.put, List.setIfInBounds_toArray, List.set_cons_zero, List.set_cons_succ]
  refine wpAnyH_take (i := 3) (oi := { dst := some 22, op := Op.fieldAddr 113 (Operand.tmp 21) 3, type := 0, pos := "plan.go:88", after := #[{ on := 2, ground := Ground.data }], guard := none }) (v := ?v3) rfl (by kernel_rfl) (by kernel_rfl) (by kernel_rfl) (fun _ _ _ h => h) (Or.inl ⟨by rfl, ?hy3⟩) hHeld ?r3
  case hy3 => (intro W hSW; (try dsimp only at hSW); go_simp; try (with_reducible rfl))
  simp only [Act.put, List.setIfInBounds_toArray, List.set_cons_zero, List.set_cons_succ]
  refine wpAnyH_take (i := 4) (oi := { dst := some 23, op := Op.load 33 (Operand.tmp 22), type := 33, pos := "plan.go:88", after := #[{ on := 3, ground := Ground.data }], guard := none }) (v := ?v4) rfl (by kernel_rfl) (by kernel_rfl) (by kernel_rfl) (fun _ _ _ h => h) (Or.inl ⟨by rfl, ?hy4⟩) hHeld ?r4
  case hy4 => (intro W hSW; (try dsimp only at hSW); go_simp; try (with_reducible rfl))
  simp only [Act.put, List.setIfInBounds_toArray, List.set_cons_zero, List.set_cons_succ]
  refine wpAnyH_take (i := 5) (oi := { dst := some 24, op := Op.load 3 (Operand.tmp 6), type := 3, pos := "plan.go:88", after := #[], guard := none }) (v := ?v5) rfl (by kernel_rfl) (by kernel_rfl) (by kernel_rfl) (fun _ _ _ h => h) (Or.inl ⟨by rfl, ?hy5⟩) hHeld ?r5
  case hy5 => (intro W hSW; (try dsimp only at hSW); go_simp; try (with_reducible rfl))
  simp only [Act.put, List.setIfInBounds_toArray, List.set_cons_zero, List.set_cons_succ]
  refine wpAnyH_take (i := 6) (oi := { dst := some 25, op := Op.move (Operand.tmp 0), type := 3, pos := "plan.go:88", after := #[], guard := none }) (v := ?v6) rfl (by kernel_rfl) (by kernel_rfl) (by kernel_rfl) (fun _ _ _ h => h) (Or.inl ⟨by rfl, ?hy6⟩) hHeld ?r6
  case hy6 => (intro W hSW; (try dsimp only at hSW); go_simp; try (with_reducible rfl))
  simp only [Act.put, List.setIfInBounds_toArray, List.set_cons_zero, List.set_cons_succ]
  refine wpAnyH_take (i := 8) (oi := { dst := some 27, op := Op.move (Operand.tmp 10), type := 40, pos := "plan.go:88", after := #[], guard := none }) (v := ?v8) rfl (by kernel_rfl) (by kernel_rfl) (by kernel_rfl) (fun _ _ _ h => h) (Or.inl ⟨by rfl, ?hy8⟩) hHeld ?r8
  case hy8 => (intro W hSW; (try dsimp only at hSW); go_simp; try (with_reducible rfl))
  simp only [Act.put, List.setIfInBounds_toArray, List.set_cons_zero, List.set_cons_succ]
  refine wpAnyH_ready (rs := [7]) (by kernel_rfl) (by simp) (AllReadyH.cons (o := { dst := some 26, op := Op.call { callee := Callee.value (Operand.func 20), args := #[Operand.tmp 24, Operand.tmp 25], argTypes := #[3, 3] }, type := 9, pos := "plan.go:88", after := #[{ on := 5, ground := Ground.data }, { on := 6, ground := Ground.data }], guard := none }) rfl (fun K hK => ?_) AllReadyH.nil)
  go_simp
  go_wp2_with (go_at_call 20; refine (pdata_any i n _ PLD.out).mono ?_; rintro en w3 ⟨rfl, hb3⟩)
  have hb23 : Below w2.heap.size w2 w3 := (Below.drew (Below.refl _ _)).trans hb3
  have HB23 := Lib.hid hb23
  have hs3 := hb23.size
  refine hK.out _ _ (HS.out _ hb23) (fun hHeld => ?_)
  clear hK K hb3 hb23
  refine wpAnyH_take (i := 9) (oi := { dst := some 28, op := Op.build 42 #[(0, Operand.tmp 26), (1, Operand.tmp 27)], type := 42, pos := "plan.go:88", after := #[{ on := 7, ground := Ground.data }, { on := 8, ground := Ground.data }], guard := none }) (v := ?v9) rfl (by kernel_rfl) (by kernel_rfl) (by kernel_rfl) (fun _ _ _ h => h) (Or.inl ⟨by rfl, ?hy9⟩) hHeld ?r9
  case hy9 => (intro W hSW; (try dsimp only at hSW); go_simp; try (with_reducible rfl))
  simp only [Act.put, List.setIfInBounds_toArray, List.set_cons_zero, List.set_cons_succ]
  refine wpAnyH_ready (rs := [10]) (by kernel_rfl) (by simp) (AllReadyH.cons (o := { dst := some 29, op := Op.buildSlice 33 1 #[(0, Operand.tmp 28)], type := 33, pos := "plan.go:88", after := #[{ on := 9, ground := Ground.data }], guard := none }) rfl (fun K hK => ?_) AllReadyH.nil)
  go_simp
  have hba : Below w3.heap.size w3 (w3.alloc (.cells #[.string (dataS i n), .slice a2 (txO i was e.seq n ops).ops.length c2] 42)) := (Below.refl _ w3).alloc (Nat.le_refl _) _
  have HBA : Hid (Below w2.heap.size w2 (w3.alloc (.cells #[.string (dataS i n), .slice a2 (txO i was e.seq n ops).ops.length c2] 42))) := Lib.hid (HB23.out.trans (hba.mono hs3))
  refine hK.out _ _ (HS.out _ HBA.out) (fun hHeld => ?_)
  clear hK K hba
  refine wpAnyH_ready (rs := [11]) (by kernel_rfl) (by simp) (AllReadyH.cons (o := { dst := some 30, op := Op.call { callee := Callee.builtin Builtin.append, args := #[Operand.tmp 23, Operand.tmp 29], argTypes := #[33, 33] }, type := 33, pos := "plan.go:88", after := #[{ on := 4, ground := Ground.data }, { on := 10, ground := Ground.data }, { on := 7, ground := Ground.chain }], guard := none }) rfl (fun K hK => ?_) AllReadyH.nil)
  refine step_pushG _ (by rfl) _ _ 33 (by rfl) Enc.txn KK 42 t0 _ 40 Tryz.underlying33 ti tz0 tz1 tz2 (by rfl) (by decide) (by decide) _ l l.length rfl (by rfl) (H6X.out.ext HBA.out) w3.heap.size [.string (dataS i n), .slice a2 (txO i was e.seq n ops).ops.length c2] 42 (txO i was e.seq n ops) (by rfl) (heap_alloc_new w3 _) ⟨_, rfl, SlE.ext HR2.out HBA.out⟩ (by omega) (by simp; omega) ?_
  intro g cap w4 hrow hbel hgrow
  have HX4 : Hid (∀ b, b ≠ B + 3 → b < w2.heap.size → (Value.slice la l.length lc).ownBlock ≠ some b → w4.heap[b]? = w2.heap[b]?) := Lib.hid fun b hne hlt hno => by
    exact (hgrow.block b (Nat.lt_of_lt_of_le hlt HBA.out.size) (fun e => hno e.symm)).trans (HBA.out.block b hlt)
  have HROW := Lib.hid hrow
  have hs4 := hbel.size
  have hs4b : w2.heap.size ≤ w4.heap.size := Nat.le_trans HBA.out.size hbel.size
  have HB4 : Hid (Below (B + 7) w2 w4) := Lib.hid ((HBA.out.mono (by omega)).trans (hbel.mono (by omega)))
  have q4 : w4.cell? ⟨B + 4, 0, none⟩ = some (.pointer (some ⟨B + 3, 0, none⟩)) := (HB4.out.cell (p := ⟨B + 4, 0, none⟩) (show B + 4 < B + 7 by omega)).trans e4
  have q3 : w4.cell? ⟨B + 3, 23, none⟩ = some (.slice la l.length lc) := (HB4.out.cell (p := ⟨B + 3, 23, none⟩) (show B + 3 < B + 7 by omega)).trans z3
  have qf : w4.frozen? ⟨B + 3, 23, none⟩ = false := (HB4.out.frozen (p := ⟨B + 3, 23, none⟩) (show B + 3 < B + 7 by omega)).trans f3
  have qi : w4.cell? ⟨B, 0, none⟩ = some (.int .i64 i) := (HB4.out.cell (p := ⟨B, 0, none⟩) (show B < B + 7 by omega)).trans ei
  clear hrow hbel hgrow e4 z3 f3 ei
  refine hK.out _ _ ⟨q4, q3, qi⟩ (fun hHeld => ?_)
  clear hK K
  refine wpAnyH_take (i := 12) (oi := { dst := some 31, op := Op.nilCheck (Operand.tmp 19), type := 0, pos := "plan.go:88", after := #[{ on := 0, ground := Ground.data }, { on := 0, ground := Ground.phase }, { on := 1, ground := Ground.phase }, { on := 2, ground := Ground.phase }, { on := 3, ground := Ground.phase }, { on := 4, ground := Ground.phase }, { on := 5, ground := Ground.phase }, { on := 6, ground := Ground.phase }, { on := 7, ground := Ground.phase }, { on := 8, ground := Ground.phase }, { on := 9, ground := Ground.phase }, { on := 10, ground := Ground.phase }, { on := 11, ground := Ground.phase }], guard := none }) (v := ?v12) rfl (by kernel_rfl) (by kernel_rfl) (by kernel_rfl) (fun _ _ _ h => h) (Or.inl ⟨by rfl, ?hy12⟩) hHeld ?r12
  case hy12 => (intro W hSW; (try dsimp only at hSW); go_simp; try (with_reducible rfl))
  simp only [Act.put, List.setIfInBounds_toArray, List.set_cons_zero, List.set_cons_succ]
  refine wpAnyH_take (i := 13) (oi := { dst := some 32, op := Op.fieldAddr 113 (Operand.tmp 31) 3, type := 0, pos := "plan.go:88", after := #[{ on := 12, ground := Ground.data }, { on := 0, ground := Ground.phase }, { on := 1, ground := Ground.phase }, { on := 2, ground := Ground.phase }, { on := 3, ground := Ground.phase }, { on := 4, ground := Ground.phase }, { on := 5, ground := Ground.phase }, { on := 6, ground := Ground.phase }, { on := 7, ground := Ground.phase }, { on := 8, ground := Ground.phase }, { on := 9, ground := Ground.phase }, { on := 10, ground := Ground.phase }, { on := 11, ground := Ground.phase }], guard := none }) (v := ?v13) rfl (by kernel_rfl) (by kernel_rfl) (by kernel_rfl) (fun _ _ _ h => h) (Or.inl ⟨by rfl, ?hy13⟩) hHeld ?r13
  case hy13 => (intro W hSW; (try dsimp only at hSW); go_simp; try (with_reducible rfl))
  simp only [Act.put, List.setIfInBounds_toArray, List.set_cons_zero, List.set_cons_succ]
  refine wpAnyH_done (by kernel_rfl) (sink_end (o := { dst := none, op := Op.store 33 (Operand.tmp 32) (Operand.tmp 30), type := 0, pos := "plan.go:88", after := #[{ on := 13, ground := Ground.data }, { on := 11, ground := Ground.data }, { on := 11, ground := Ground.chain }, { on := 0, ground := Ground.phase }, { on := 1, ground := Ground.phase }, { on := 2, ground := Ground.phase }, { on := 3, ground := Ground.phase }, { on := 4, ground := Ground.phase }, { on := 5, ground := Ground.phase }, { on := 6, ground := Ground.phase }, { on := 7, ground := Ground.phase }, { on := 8, ground := Ground.phase }, { on := 9, ground := Ground.phase }, { on := 10, ground := Ground.phase }, { on := 11, ground := Ground.phase }], guard := none }) rfl fun K hK => ?_) _
  go_simp
  refine hK _ _ ?_
  clear hK K hHeld
  obtain ⟨w5, hw5⟩ : ∃ w5, w5 = w4.setCell ⟨B + 3, 23, none⟩ (.slice (some ⟨g, 0, none⟩) (l.length + 1) cap) := ⟨_, rfl⟩
  rw [← hw5]
  go_upto_region 2 with fail
  clear q4 q3 qf qi HS
  have hs5 : w5.heap.size = w4.heap.size := by rw [hw5]; simp [World.setCell]
  have ne5 : ∀ b, b ≠ B + 3 → w5.heap[b]? = w4.heap[b]? := fun b hb => by rw [hw5]; exact Below.heap_setCell _ _ _ _ hb
  have G3 : Hid (w5.heap[B + 3]? = some (.cells (wkC was h wm wss (.slice ma h.map.length mc) hs e ev' (.slice (some ⟨g, 0, none⟩) (l.length + 1) cap) (stepF (B + 6) (B + 2) (B + 4) B)).toArray 113 (0, 0))) := Lib.hid (by
    rw [hw5]
    exact setI_blk ((HB4.out.block (B + 3) (by omega)).trans (blk19 HB2.out P3.out)))
  have G4 : Hid (w5.heap[B + 4]? = some (.cells #[.pointer (some ⟨B + 3, 0, none⟩)] 105 (0, 0))) := Lib.hid ((ne5 _ (by omega)).trans ((HB4.out.block (B + 4) (by omega)).trans (blk19 HB2.out P4.out)))
  -- what stands from w on
  have HSTD : Hid (∀ b, b ≠ B + 3 → b < w.heap.size → (Value.slice la l.length lc).ownBlock ≠ some b → w5.heap[b]? = w.heap[b]?) := Lib.hid fun b hne hlt hno => by
    rw [ne5 b hne, HX4.out b hne (by omega) hno]
    exact HB2.out.block b hlt
  have HNT : Hid (∀ b cs t fr, w.heap[b]? = some (.cells cs t fr) → t ≠ 42 → (Value.slice la l.length lc).ownBlock ≠ some b) := Lib.hid fun b cs t fr hb ht hown => by
    obtain ⟨ds, q1, q2, q3⟩ := H6.out.ex
    rcases q3.2 with ⟨e0, _⟩ | ⟨g', cap', cur, e0, r1, r2, r3⟩
    · rw [e0] at hown; cases hown
    · rw [e0] at hown
      have e1 : g' = b := Option.some.inj hown
      subst e1
      rw [hb] at r2
      simp at r2
      exact ht r2.2.1
  have HSET : Hid (∀ W, Below w5.heap.size w5 W → Calls Tryz.prog 99 #[.slice ma h.map.length mc, .int .i64 n, .int .i64 st] W (NewI W (mSet h.map n st))) := Lib.hid fun W hW => by
    rcases H3.out with h3 | h3
    · have : Same A w W := ⟨by have := hW.size; omega, fun b hb hl => (hW.block b (by omega)).trans (HSTD.out b (by have := hA b hb; omega) hl (fun e => by have := (HLT.out b e).1; have := hA b hb; omega))⟩
      exact pset_any A ma mc h.map n st W (SlE.mono h3 this) (by omega)
    · have h3w : NI (B + 7) W (.slice ma h.map.length mc) h.map := h3.same fun g e => by
        have hg := h3.lt g e
        obtain ⟨e0, -⟩ | ⟨g', cap', cur, e0, r1, r2, -⟩ := h3.ex
        · rw [e0] at e; cases e
        · have e1 : g' = g := by rw [e0] at e; exact Option.some.inj e
          subst e1
          exact (hW.block g' (by omega)).trans (HSTD.out g' (by omega) hg.2 (HNT.out g' _ _ _ r2 (by decide)))
      exact pset_any _ ma mc h.map n st W h3w.sle (by omega)
  have HSET2 : Hid (EnR Enc.txn 42 KK w5 (.slice (some ⟨g, 0, none⟩) (l.length + 1) cap) (l ++ [txO i was e.seq n ops])) := Lib.hid (HROW.out.same ⟨by omega, fun b hb _ => ne5 b (by have : KK ≤ b := hb; omega)⟩)
  have HB5 : Hid (∀ b, b < B → w5.heap[b]? = w.heap[b]?) := Lib.hid fun b hb => by rw [ne5 b (by omega), HB4.out.block b (by omega)]; exact HB2.out.block b (by omega)
  have HBB : Hid (Below B w w5) := Lib.hid (by rw [hw5]; exact ((HB2.out.mono (by omega)).trans (HB4.out.mono (by omega))).setCell (show B ≤ B + 3 by omega) _)
  clear hw5 ne5
  obtain ⟨d4, -⟩ := blk_cell (i := 0) G4.out
  obtain ⟨d3, f5⟩ := blk_cell (i := 12) G3.out
  replace d4 : w5.cell? ⟨B + 4, 0, none⟩ = some (.pointer (some ⟨B + 3, 0, none⟩)) := d4
  replace d3 : w5.cell? ⟨B + 3, 12, none⟩ = some (.slice ma h.map.length mc) := d3
  refine wp_region_sink (n := 12) (fun W => W.cell? ⟨B + 4, 0, none⟩ = some (.pointer (some ⟨B + 3, 0, none⟩)) ∧ W.cell? ⟨B + 3, 12, none⟩ = some (.slice ma h.map.length mc)) (by kernel_rfl) (by kernel_rfl) (by kernel_rfl) (by kernel_rfl) rfl ⟨d4, d3⟩ (fun hHeld => ?_)
  refine wpAnyH_take (i := 0) (oi := { dst := some 33, op := Op.load 105 (Operand.tmp 5), type := 105, pos := "plan.go:89", after := #[], guard := none }) (v := ?vb0) rfl (by kernel_rfl) (by kernel_rfl) (by kernel_rfl) (fun _ _ _ h => h) (Or.inl ⟨by rfl, ?hyb0⟩) hHeld ?rb0
  case hyb0 => (intro W hSW; (try dsimp only at hSW); go_simp; try (with_reducible rfl))
  simp only [Act.put, List.setIfInBounds_toArray, List.set_cons_zero, List.set_cons_succ]
  refine wpAnyH_take (i := 1) (oi := { dst := some 34, op := Op.load 105 (Operand.tmp 5), type := 105, pos := "plan.go:89", after := #[], guard := none }) (v := ?vb1) rfl (by kernel_rfl) (by kernel_rfl) (by kernel_rfl) (fun _ _ _ h => h) (Or.inl ⟨by rfl, ?hyb1⟩) hHeld ?rb1
  case hyb1 => (intro W hSW; (try dsimp only at hSW); go_simp; try (with_reducible rfl))
  simp only [Act.put, List.setIfInBounds_toArray, List.set_cons_zero, List.set_cons_succ]
  refine wpAnyH_take (i := 2) (oi := { dst := some 35, op := Op.nilCheck (Operand.tmp 34), type := 0, pos := "plan.go:89", after := #[{ on := 1, ground := Ground.data }], guard := none }) (v := ?vb2) rfl (by kernel_rfl) (by kernel_rfl) (by kernel_rfl) (fun _ _ _ h => h) (Or.inl ⟨by rfl, ?hyb2⟩) hHeld ?rb2
  case hyb2 => (intro W hSW; (try dsimp only at hSW); go_simp; try (with_reducible rfl))
  simp only [Act.put, List.setIfInBounds_toArray, List.set_cons_zero, List.set_cons_succ]
  refine wpAnyH_take (i := 3) (oi := { dst := some 36, op := Op.fieldAddr 113 (Operand.tmp 35) 1, type := 0, pos := "plan.go:89", after := #[{ on := 2, ground := Ground.data }], guard := none }) (v := ?vb3) rfl (by kernel_rfl) (by kernel_rfl) (by kernel_rfl) (fun _ _ _ h => h) (Or.inl ⟨by rfl, ?hyb3⟩) hHeld ?rb3
  case hyb3 => (intro W hSW; (try dsimp only at hSW); go_simp; try (with_reducible rfl))
  simp only [Act.put, List.setIfInBounds_toArray, List.set_cons_zero, List.set_cons_succ]
  refine wpAnyH_take (i := 4) (oi := { dst := some 37, op := Op.fieldAddr 27 (Operand.tmp 36) 2, type := 0, pos := "plan.go:89", after := #[{ on := 3, ground := Ground.data }], guard := none }) (v := ?vb4) rfl (by kernel_rfl) (by kernel_rfl) (by kernel_rfl) (fun _ _ _ h => h) (Or.inl ⟨by rfl, ?hyb4⟩) hHeld ?rb4
  case hyb4 => (intro W hSW; (try dsimp only at hSW); go_simp; try (with_reducible rfl))
  simp only [Act.put, List.setIfInBounds_toArray, List.set_cons_zero, List.set_cons_succ]
  refine wpAnyH_take (i := 5) (oi := { dst := some 38, op := Op.load 24 (Operand.tmp 37), type := 24, pos := "plan.go:89", after := #[{ on := 4, ground := Ground.data }], guard := none }) (v := ?vb5) rfl (by kernel_rfl) (by kernel_rfl) (by kernel_rfl) (fun _ _ _ h => h) (Or.inl ⟨by rfl, ?hyb5⟩) hHeld ?rb5
  case hyb5 => (intro W hSW; (try dsimp only at hSW); go_simp; try (with_reducible rfl))
  simp only [Act.put, List.setIfInBounds_toArray, List.set_cons_zero, List.set_cons_succ]
  refine wpAnyH_take (i := 6) (oi := { dst := some 39, op := Op.move (Operand.tmp 0), type := 3, pos := "plan.go:89", after := #[], guard := none }) (v := ?vb6) rfl (by kernel_rfl) (by kernel_rfl) (by kernel_rfl) (fun _ _ _ h => h) (Or.inl ⟨by rfl, ?hyb6⟩) hHeld ?rb6
  case hyb6 => (intro W hSW; (try dsimp only at hSW); go_simp; try (with_reducible rfl))
  simp only [Act.put, List.setIfInBounds_toArray, List.set_cons_zero, List.set_cons_succ]
  refine wpAnyH_take (i := 7) (oi := { dst := some 40, op := Op.move (Operand.tmp 1), type := 3, pos := "plan.go:89", after := #[], guard := none }) (v := ?vb7) rfl (by kernel_rfl) (by kernel_rfl) (by kernel_rfl) (fun _ _ _ h => h) (Or.inl ⟨by rfl, ?hyb7⟩) hHeld ?rb7
  case hyb7 => (intro W hSW; (try dsimp only at hSW); go_simp; try (with_reducible rfl))
  simp only [Act.put, List.setIfInBounds_toArray, List.set_cons_zero, List.set_cons_succ]
  refine wpAnyH_ready (rs := [8]) (by kernel_rfl) (by simp) (AllReadyH.cons (o := { dst := some 41, op := Op.call { callee := Callee.value (Operand.func 99), args := #[Operand.tmp 38, Operand.tmp 39, Operand.tmp 40], argTypes := #[24, 3, 3] }, type := 24, pos := "plan.go:89", after := #[{ on := 5, ground := Ground.data }, { on := 6, ground := Ground.data }, { on := 7, ground := Ground.data }], guard := none }) rfl (fun K hK => ?_) AllReadyH.nil)
  go_simp
  go_wp2_with (go_at_call 99; refine (HSET.out _ (Below.drew (Below.refl _ _))).mono ?_; rintro en w6 ⟨v6, rfl, hr6, hb6⟩)
  have hb56 : Below w5.heap.size w5 w6 := (Below.drew (Below.refl _ _)).trans hb6
  have HB56 := Lib.hid hb56
  obtain ⟨a6, c6, rfl⟩ := hr6.shape
  have HR6 := Lib.hid hr6
  have m4 := cellExt hb56 d4
  have m3 := cellExt hb56 d3
  have mf : w6.frozen? ⟨B + 3, 12, none⟩ = false := (hb56.frozen (p := ⟨B + 3, 12, none⟩) (show B + 3 < w5.heap.size by omega)).trans f5
  refine hK.out _ _ ⟨m4, m3⟩ (fun hHeld => ?_)
  clear hK K hb56 hb6 hr6 d4 d3 f5
  refine wpAnyH_take (i := 9) (oi := { dst := some 42, op := Op.nilCheck (Operand.tmp 33), type := 0, pos := "plan.go:89", after := #[{ on := 0, ground := Ground.data }, { on := 0, ground := Ground.phase }, { on := 1, ground := Ground.phase }, { on := 2, ground := Ground.phase }, { on := 3, ground := Ground.phase }, { on := 4, ground := Ground.phase }, { on := 5, ground := Ground.phase }, { on := 6, ground := Ground.phase }, { on := 7, ground := Ground.phase }, { on := 8, ground := Ground.phase }], guard := none }) (v := ?vb9) rfl (by kernel_rfl) (by kernel_rfl) (by kernel_rfl) (fun _ _ _ h => h) (Or.inl ⟨by rfl, ?hyb9⟩) hHeld ?rb9
  case hyb9 => (intro W hSW; (try dsimp only at hSW); go_simp; try (with_reducible rfl))
  simp only [Act.put, List.setIfInBounds_toArray, List.set_cons_zero, List.set_cons_succ]
  refine wpAnyH_take (i := 10) (oi := { dst := some 43, op := Op.fieldAddr 113 (Operand.tmp 42) 1, type := 0, pos := "plan.go:89", after := #[{ on := 9, ground := Ground.data }, { on := 0, ground := Ground.phase }, { on := 1, ground := Ground.phase }, { on := 2, ground := Ground.phase }, { on := 3, ground := Ground.phase }, { on := 4, ground := Ground.phase }, { on := 5, ground := Ground.phase }, { on := 6, ground := Ground.phase }, { on := 7, ground := Ground.phase }, { on := 8, ground := Ground.phase }], guard := none }) (v := ?vb10) rfl (by kernel_rfl) (by kernel_rfl) (by kernel_rfl) (fun _ _ _ h => h) (Or.inl ⟨by rfl, ?hyb10⟩) hHeld ?rb10
  case hyb10 => (intro W hSW; (try dsimp only at hSW); go_simp; try (with_reducible rfl))
  simp only [Act.put, List.setIfInBounds_toArray, List.set_cons_zero, List.set_cons_succ]
  refine wpAnyH_take (i := 11) (oi := { dst := some 44, op := Op.fieldAddr 27 (Operand.tmp 43) 2, type := 0, pos := "plan.go:89", after := #[{ on := 10, ground := Ground.data }, { on := 0, ground := Ground.phase }, { on := 1, ground := Ground.phase }, { on := 2, ground := Ground.phase }, { on := 3, ground := Ground.phase }, { on := 4, ground := Ground.phase }, { on := 5, ground := Ground.phase }, { on := 6, ground := Ground.phase }, { on := 7, ground := Ground.phase }, { on := 8, ground := Ground.phase }], guard := none }) (v := ?vb11) rfl (by kernel_rfl) (by kernel_rfl) (by kernel_rfl) (fun _ _ _ h => h) (Or.inl ⟨by rfl, ?hyb11⟩) hHeld ?rb11
  case hyb11 => (intro W hSW; (try dsimp only at hSW); go_simp; try (with_reducible rfl))
  simp only [Act.put, List.setIfInBounds_toArray, List.set_cons_zero, List.set_cons_succ]
  refine wpAnyH_done (by kernel_rfl) (sink_end (o := { dst := none, op := Op.store 24 (Operand.tmp 44) (Operand.tmp 41), type := 0, pos := "plan.go:89", after := #[{ on := 11, ground := Ground.data }, { on := 8, ground := Ground.data }, { on := 8, ground := Ground.chain }, { on := 0, ground := Ground.phase }, { on := 1, ground := Ground.phase }, { on := 2, ground := Ground.phase }, { on := 3, ground := Ground.phase }, { on := 4, ground := Ground.phase }, { on := 5, ground := Ground.phase }, { on := 6, ground := Ground.phase }, { on := 7, ground := Ground.phase }, { on := 8, ground := Ground.phase }], guard := none }) rfl fun K hK => ?_) _
  go_simp
  refine hK _ _ ?_
  clear hK K hHeld
  go_wp2
  go_end0
  obtain ⟨W, hW⟩ : ∃ W, W = w6.setCell ⟨B + 3, 12, none⟩ (.slice a6 (mSet h.map n st).length c6) := ⟨_, rfl⟩
  rw [← hW]
  have hs6 := HB56.out.size
  have hsW : W.heap.size = w6.heap.size := by rw [hW]; simp [World.setCell]
  have neW : ∀ b, b ≠ B + 3 → W.heap[b]? = w6.heap[b]? := fun b hb => by rw [hW]; exact Below.heap_setCell _ _ _ _ hb
  have std : ∀ b, b ≠ B + 3 → b < w.heap.size → (Value.slice la l.length lc).ownBlock ≠ some b → W.heap[b]? = w.heap[b]? := fun b h1 h2 h3 => by
    rw [neW b h1, HB56.out.block b (by omega)]
    exact HSTD.out b h1 h2 h3
  have key : ∀ (b : Nat) cs t fr, w.heap[b]? = some (.cells cs t fr) → t ≠ 42 → b ≠ B + 3 → W.heap[b]? = w.heap[b]? := fun b cs t fr hb ht hne => std b hne (Array.getElem?_eq_some_iff.1 hb).1 (HNT.out b cs t fr hb ht)
  have lowB : ∀ b, b < B → W.heap[b]? = w.heap[b]? := fun b hb => by
    rw [neW b (by omega), HB56.out.block b (by omega)]
    exact HB5.out b hb
  have hbW : Below B w W := by rw [hW]; exact (HBB.out.trans (HB56.out.mono (by omega))).setCell (show B ≤ B + 3 by omega) _
  have hsA : Same A w W := ⟨by omega, fun b hb _ => lowB b (hA b hb)⟩
  have hsR : Same (fun b => KK ≤ b) w6 W := ⟨by omega, fun b hb _ => neW b (by have : KK ≤ b := hb; omega)⟩
  refine ⟨rfl, ⟨(key _ _ _ _ P0.out (by decide) (by omega)).trans P0.out, ⟨ev, (key _ _ _ _ P2.out (by decide) (by omega)).trans P2.out, HEV.out.mono hsA⟩, (key _ _ _ _ P4.out (by decide) (by omega)).trans P4.out,
    ⟨_, (key _ _ _ _ P6.out (by decide) (by omega)).trans P6.out, HAV.out.keepN (by omega) fun g0 hg0 => ?_⟩,
    ⟨wm, wss, .slice a6 (mSet h.map n st).length c6, hs, ev', .slice (some ⟨g, 0, none⟩) (l.length + 1) cap, ?_, SlE.mono H1.out hsA, SlE.mono H2.out hsA, .inr ?_, SlE.mono H4.out hsA, H5.out.mono hsA, (HSET2.out.ext HB56.out).same hsR⟩⟩, ⟨by omega, lowB, key⟩, fun b hb hne => std b hne (by omega) fun e => by have := (HLT.out b e).1; omega, hbW⟩
  · have hg1 := HAV.out.lt g0 hg0
    obtain ⟨ds, q1, q2, q3⟩ := HAV.out.ex
    rcases q3.2 with ⟨e0, _⟩ | ⟨g', cap', cur, e0, r1, r2, r3⟩
    · rw [e0] at hg0; cases hg0
    · rw [e0] at hg0
      have e1 : g' = g0 := Option.some.inj hg0
      subst e1
      exact key _ _ _ _ r2 (by decide) (by omega)
  · rw [hW]
    exact setI_blk (blk19 HB56.out G3.out)
  · exact (HR6.out.base_le (by simp; omega)).same fun g0 hg0 => neW g0 (by have := (HR6.out.lt g0 hg0).1; simp at this; omega)
end Go.Proofs.YtlekdfajcpmolaaGreatDoor
namespace Go.Proofs.YtlekdfajcpmolaaGreatDoor

theorem cut_bytes (data : List UInt8) (a n : Nat) (h : a + n ≤ data.length) : (data.drop a).take n = (List.range' a n).map fun k => data.getD k 0 := by
  apply List.ext_getElem
  · simp; omega
  · intro i h1 h2
    simp at h2
    rw [List.getElem_take, List.getElem_drop, List.getElem_map, List.getElem_range', List.getD_eq_getElem?_getD, List.getElem?_eq_getElem (by omega)]
    simp
theorem flat_bytes (data : List UInt8) : ∀ l : List Pc, (∀ p ∈ l, p.fr.toNat + p.len.toNat ≤ data.length) → (l.flatMap fun p => (data.drop p.fr.toNat).take p.len.toNat) = (l.flatMap fun p => List.range' p.fr.toNat p.len.toNat).map fun k => data.getD k 0
  | [], _ => rfl
  | p :: l, h => by
    rw [List.flatMap_cons, List.flatMap_cons, List.map_append, cut_bytes data _ _ (h p (by simp)), flat_bytes data l fun q hq => h q (by simp [hq])]
theorem wr_bytes (u c o off ob : Int) (data : List UInt8) : ((obP (pcs u c o off data.length) ob).flatMap fun p => (data.drop p.fr.toNat).take p.len.toNat) = (atP u c o off data.length ob).map fun k => data.getD k 0 := by
  rw [flat_bytes, posP_is]
  intro p hp
  have hg := pcs_good u c o off data.length p ((List.mem_filter.1 hp).1)
  have h1 := hg.fr
  have h2 := hg.len
  have h3 := hg.end_
  omega
/-- the step of a part that is written -/
def wrP (data : List UInt8) (x : PtD) : StpD := ⟨x.ob, 1, ⟨5, x.off, 0, ByteArray.empty, x.pcs.flatMap fun p => (data.drop p.fr.toNat).take p.len.toNat⟩⟩
theorem wr_steps (h : HeD) (off : Int) (data : List UInt8) : (partsC (pcs h.u h.c h.o off data.length)).map (wrP data) = wrSteps h off data := by
  rw [partsC_is, List.map_map]
  unfold wrSteps
  apply List.map_congr_left
  intro y hy
  unfold partsR at hy
  obtain ⟨k, hk, rfl⟩ := List.mem_map.1 hy
  have hne : atP h.u h.c h.o off data.length (k : Nat) ≠ [] := by
    have := (List.mem_filter.1 hk).2
    simpa using this
  have hl := (pt_link h.u h.c h.o off data.length (k : Nat) hne).1
  have hb := wr_bytes h.u h.c h.o off (k : Nat) data
  show wrP data (ptOf (pcs h.u h.c h.o off data.length) (k : Nat)) = _
  unfold wrP
  rw [hl]
  show (⟨(k : Nat), 1, ⟨5, _, 0, ByteArray.empty, (obP (pcs h.u h.c h.o off data.length) (k : Nat)).flatMap _⟩⟩ : StpD) = _
  rw [hb]
  rfl
theorem txS_is (i : Int) (h : HeD) (seq : Int) (s : StpD) : txS i h seq s = txO i h seq s.n [s.op] := by
  unfold txS txO ahS
  simp
theorem setAll_snoc (m : List Int) (l : List StpD) (s : StpD) : setAll m (l ++ [s]) = mSet (setAll m l) s.n s.st := by
  unfold setAll
  rw [List.foldl_append]
  rfl
end Go.Proofs.YtlekdfajcpmolaaGreatDoor
namespace Go.Proofs.YtlekdfajcpmolaaGreatDoor

theorem partsR_len (u c o off : Int) (n : Nat) : (partsR u c o off n).length ≤ 512 := by
  unfold partsR
  rw [List.length_map]
  exact Nat.le_trans (List.length_filter_le _ _) (by simp)
end Go.Proofs.YtlekdfajcpmolaaGreatDoor
