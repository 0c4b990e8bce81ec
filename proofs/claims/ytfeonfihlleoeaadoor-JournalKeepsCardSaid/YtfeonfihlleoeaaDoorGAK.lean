/- The walk of terrazzoref08.At. The walk of terrazzoref08.Same at any two objects. Rows of the call's own that hold data: append of one datum. No program is named. -/
import Derived.Test.YtfeonfihlleoeaaDoorGAJ
import Derived.Test.YtfeonfihlleoeaaDoorGAB
namespace Go.Proofs.YtfeonfihlleoeaaDoor
open Go.RowKit Go.WideShapes

/-- what a call that hands a row of bytes on answers: the row lies anywhere -/
def RowRR (A : Nat → Prop) (x : List UInt8) (w : World) (e : Ending) (w' : World) : Prop := ∃ a c, e = .returned (.slice a x.length c) ∧ RB (UpA A w) w' (.slice a x.length c) x ∧ Below w.heap.size w w'
theorem atD_hit {o : ObD} {nm : ByteArray} {k : Nat} (h : k ≤ ixN (fromB nm) o.keys) (hlt : k < o.keys.length) (hx : fromB nm o.keys[k] = true) : atD o nm = (o.keys[k]).value := by
  unfold atD
  rcases ix_ways (fromB nm) o.keys with ⟨e1, e2⟩ | ⟨j, hj, e1, e2⟩
  · have := List.find?_eq_none.1 e2 _ (List.getElem_mem hlt)
    simp [hx] at this
  · have h1 := ixR_hit h hlt hx
    obtain rfl : j = k := by rw [h1] at e1; omega
    rw [e2]
theorem atD_miss {o : ObD} {nm : ByteArray} (h : o.keys.length ≤ ixN (fromB nm) o.keys) : atD o nm = o.data := by
  unfold atD
  have h1 := ixR_none h
  rcases ix_ways (fromB nm) o.keys with ⟨e1, e2⟩ | ⟨j, hj, e1, e2⟩
  · rw [e2]
  · rw [h1] at e1; omega
/-- whether a key begins as a name does, and is not ahead of it: the ways -/
theorem from_ways (nm : ByteArray) (ky : KyD) :
    (fromB nm ky = false ∧ Op.bytesLess ky.name.toList nm.toList = true) ∨
    (fromB nm ky = false ∧ Op.bytesLess ky.name.toList nm.toList = false ∧ nm.size = 0) ∨
    (fromB nm ky = false ∧ Op.bytesLess ky.name.toList nm.toList = false ∧ 0 < nm.size ∧ ky.name.size = 0) ∨
    (Op.bytesLess ky.name.toList nm.toList = false ∧ ∃ h : 0 < nm.size, ∃ h2 : 0 < ky.name.size, fromB nm ky = decide ((ky.name[0].toNat : Int) = nm[0].toNat)) := by
  cases h1 : Op.bytesLess ky.name.toList nm.toList with
  | true => exact .inl ⟨by simp [fromB, ltS, h1], rfl⟩
  | false =>
    rcases Nat.eq_zero_or_pos nm.size with h2 | h2
    · exact .inr (.inl ⟨by simp [fromB, h2], rfl, h2⟩)
    · rcases Nat.eq_zero_or_pos ky.name.size with h3 | h3
      · exact .inr (.inr (.inl ⟨by simp [fromB, h3], rfl, h2, h3⟩))
      · refine .inr (.inr (.inr ⟨rfl, h2, h3, ?_⟩))
        have a0 := b0_at h3
        have b0 := b0_at h2
        have e : ((ky.name[0].toNat : Int) = nm[0].toNat) ↔ ky.name[0] = nm[0] := by
          rw [← UInt8.toNat_inj]; omega
        simp only [fromB, ltS, h1, Nat.ne_of_gt h2, Nat.ne_of_gt h3, a0, b0, decide_false, Bool.not_false, Bool.and_self, Bool.true_and]
        rw [Bool.eq_iff_iff, beq_iff_eq, decide_eq_true_eq, e]
        simp
set_option maxRecDepth 100000 in
set_option maxHeartbeats 4000000 in
theorem rat_any (A : Nat → Prop) (v : Value) (o : ObD) (nm : ByteArray) (w : World) (hv : ObV A w v o) (hl : o.keys.length ≤ 100000) :
    Calls Tryd.prog 64 #[v, .string nm] w (RowRR A (atD o nm) w) := by
  obtain ⟨dv, kv, rfl, hd, hk⟩ := hv
  obtain ⟨da, dc, rfl⟩ := hd.shape
  obtain ⟨ka, kc, rfl⟩ := hk.shape
  have HAT : Hid (∀ k, k ≤ ixN (fromB nm) o.keys → (hlt : k < o.keys.length) → fromB nm o.keys[k] = true → atD o nm = (o.keys[k]).value) := Lib.hid fun k h1 h2 h3 => atD_hit h1 h2 h3
  have HAM : Hid (o.keys.length ≤ ixN (fromB nm) o.keys → atD o nm = o.data) := Lib.hid atD_miss
  generalize atD o nm = R at *
  obtain ⟨od, ks, os⟩ := o
  simp only at *
  have HK := Lib.hid hk
  have HD := Lib.hid hd
  clear hd hk
  go_enter Tryd.func64, Tryd.ntmps64
  go_wp2
  obtain ⟨w0, hw0⟩ : ∃ w0, w0 = w.alloc (.cells #[.slice da od.length dc, .slice ka ks.length kc, .int .i64 os] 39) := ⟨_, rfl⟩
  rw [← hw0]
  have B0 : w0.heap[w.heap.size]? = some (.cells #[.slice da od.length dc, .slice ka ks.length kc, .int .i64 os] 39 (0, 0)) := by rw [hw0]; exact heap_alloc_new _ _
  have hw : Below w.heap.size w w0 := by rw [hw0]; ((repeat' (first | exact Below.refl _ _ | refine below_drewN ?_ _ | refine Below.drew ?_ | refine Below.alloc ?_ ?_ _ | refine Below.trans ?_ (Below.mono (by assumption) ?_))); all_goals (first | exact Nat.le_refl _ | exact Below.size (by assumption) | omega | (simp; done) | (simp; omega)))
  have HK0 := Lib.hid (HK.out.ext hw)
  have HD0 : Hid (RB (UpA A w) w0 _ od) := Lib.hid ((RB.ext HD.out hw).weak fun _ _ h => .inl h)
  have HW := Lib.hid hw
  obtain ⟨x0, f0⟩ := blk_cell (i := 0) B0
  obtain ⟨x1, f1⟩ := blk_cell (i := 1) B0
  simp at x0 x1
  clear hw0 hw B0 HK HD
  go_loopw [5] (fun i wr => ∃ k : Nat, k ≤ ks.length ∧ i = .int .i64 k ∧ k ≤ ixN (fromB nm) ks ∧ ∃ n, wr = w0.drewN n) (fun i _ => ks.length - (intOf i).toNat)
  case atStart => exact ⟨0, Nat.zero_le _, rfl, Nat.zero_le _, 0, rfl⟩
  case round =>
    obtain ⟨k, hk, rfl, hix, nq, rfl⟩ := hrel
    have HIX := Lib.hid hix
    clear hix
    by_cases hlt : k < ks.length
    · obtain ⟨b, off, v, rfl, hb, -, c3, c4, hv⟩ := Keys.at HK0.out hlt
      obtain ⟨va, vc, rfl⟩ := hv.shape
      have HV : Hid (RB (UpA A w) w0 (.slice va (ks[k]).value.length vc) (ks[k]).value) := Lib.hid (hv.weak fun _ _ h => .inl h)
      have HMI : Hid (fromB nm ks[k] = false → k + 1 ≤ ixN (fromB nm) ks) := Lib.hid fun h => ixN_miss HIX.out hlt h
      have HYE : Hid (fromB nm ks[k] = true → R = (ks[k]).value) := Lib.hid fun h => HAT.out k HIX.out hlt h
      generalize hky : ks[k] = ky at *
      clear hky hv
      rcases from_ways nm ky with ⟨e1, h1⟩ | ⟨e1, h1, h2⟩ | ⟨e1, h1, h2, h3⟩ | ⟨h1, h2, h3, e1⟩
      · have HX : Hid (k + 1 ≤ ixN (fromB nm) ks) := Lib.hid (HMI.out e1)
        clear e1
        go_wp2
        go_big_quiet (fail)
        go_wp2
        go_roundw
        case rel => exact ⟨k + 1, by omega, by go_num, HX.out, _, rfl⟩
        case measure => simp [intOf]; omega
      · have HX : Hid (k + 1 ≤ ixN (fromB nm) ks) := Lib.hid (HMI.out e1)
        have hd1 : decide ((0 : Int) < nm.size) = false := decide_eq_false (by omega)
        have hd2 : decide (0 < nm.size) = false := decide_eq_false (by omega)
        clear e1 h2
        go_wp2
        go_big_quiet (fail)
        go_wp2
        go_roundw
        case rel => exact ⟨k + 1, by omega, by go_num, HX.out, _, rfl⟩
        case measure => simp [intOf]; omega
      · have HX : Hid (k + 1 ≤ ixN (fromB nm) ks) := Lib.hid (HMI.out e1)
        have hd1 : decide ((0 : Int) < nm.size) = true := decide_eq_true (by omega)
        have hd2 : decide (0 < nm.size) = true := decide_eq_true (by omega)
        have hd3 : decide ((0 : Int) < ky.name.size) = false := decide_eq_false (by omega)
        have hd4 : decide (0 < ky.name.size) = false := decide_eq_false (by omega)
        clear e1 h2 h3
        go_wp2
        go_big_quiet (fail)
        go_wp2
        go_roundw
        case rel => exact ⟨k + 1, by omega, by go_num, HX.out, _, rfl⟩
        case measure => simp [intOf]; omega
      · have hd1 : decide ((0 : Int) < nm.size) = true := decide_eq_true (by omega)
        have hd2 : decide (0 < nm.size) = true := decide_eq_true (by omega)
        have hd3 : decide ((0 : Int) < ky.name.size) = true := decide_eq_true (by omega)
        have hd4 : decide (0 < ky.name.size) = true := decide_eq_true (by omega)
        by_cases hq : (ky.name[0].toNat : Int) = nm[0].toNat
        · have HX : Hid (R = ky.value) := Lib.hid (HYE.out (by rw [e1]; simpa using hq))
          have hqd : decide ((ky.name[0].toNat : Int) = nm[0].toNat) = true := by simpa using hq
          have hqe : (((ky.name[0].toNat : Int)) == nm[0].toNat) = true := by simpa using hq
          have hqf : (ky.name[0].toNat == nm[0].toNat) = true := by simp; omega
          clear e1 hq
          go_wp2
          go_big_quiet (fail)
          go_wp2
          go_ret
          show RowRR _ _ _ _ _
          rw [HX.out]
          exact ⟨_, _, rfl, RB.ext HV.out (below_drewN (Below.refl _ _) _), below_drewN HW.out _⟩
        · have HX : Hid (k + 1 ≤ ixN (fromB nm) ks) := Lib.hid (HMI.out (by rw [e1]; simpa using hq))
          have hqd : decide ((ky.name[0].toNat : Int) = nm[0].toNat) = false := by simpa using hq
          have hqe : (((ky.name[0].toNat : Int)) == nm[0].toNat) = false := by simpa using hq
          have hqf : (ky.name[0].toNat == nm[0].toNat) = false := by simp; omega
          clear e1 hq
          go_wp2
          go_big_quiet (fail)
          go_wp2
          go_roundw
          case rel => exact ⟨k + 1, by omega, by go_num, HX.out, _, rfl⟩
          case measure => simp [intOf]; omega
    · have HX : Hid (R = od) := Lib.hid (HAM.out (by have := HIX.out; omega))
      go_wp2
      go_ret
      show RowRR _ _ _ _ _
      rw [HX.out]
      exact ⟨_, _, rfl, RB.ext HD0.out (below_drewN (Below.refl _ _) _), below_drewN HW.out _⟩
end Go.Proofs.YtfeonfihlleoeaaDoor
namespace Go.Proofs.YtfeonfihlleoeaaDoor
open Go.RowKit Go.WideShapes

theorem neBL (l m : List UInt8) : ((⟨l.toArray⟩ : ByteArray).toList != (⟨m.toArray⟩ : ByteArray).toList) = !decide (l = m) := by
  rw [bne, eqBL]
theorem neL (a b : ByteArray) : (a.toList != b.toList) = !decide (a = b) := by
  rw [bne, eqL]
theorem eqAt_eq {xs ys : List KyD} {k : Nat} (h1 : k < xs.length) (h2 : k < ys.length) : eqAt xs ys k = keyEq xs[k] ys[k] := by
  unfold eqAt
  rw [List.getElem?_eq_getElem h1, List.getElem?_eq_getElem h2]
end Go.Proofs.YtfeonfihlleoeaaDoor
namespace Go.Proofs.YtfeonfihlleoeaaDoor
open Go.RowKit Go.WideShapes

/-- a goal that the walk leaves alone: a step is then taken by hand -/
def Stop (p : Prop) : Prop := p
theorem stop_in {p : Prop} (h : Stop p) : p := h
/-- a row of the call's own that holds data -/
structure EnRow {α : Type} (E : Enc α) (t : TypeId) (A : Nat → Prop) (base : Nat) (w : World) (v : Value) (l : List α) : Prop where
  mk ::
  ex : ∃ cs : List (List Value), cs.length = l.length ∧ (∀ (i : Nat) (x : α) (c : List Value), l[i]? = some x → cs[i]? = some c → E.rd A w c x) ∧ w.ownsRow base t E.size v l.length cs.flatten
section
variable {α : Type} {E : Enc α} {t : TypeId} {A A' : Nat → Prop} {base : Nat} {w w' : World} {v v' : Value} {l : List α}
theorem EnRow.nil (E : Enc α) (t : TypeId) (A : Nat → Prop) (base : Nat) (w : World) : EnRow E t A base w (.slice none 0 0) [] := ⟨⟨[], rfl, fun i x c h => by simp at h, World.ownsRow_nil _ _ _ _⟩⟩
theorem EnRow.ext (h : EnRow E t A base w v l) (hb : Below w.heap.size w w') : EnRow E t A base w' v l := by
  obtain ⟨cs, h1, h2, h3⟩ := h.ex
  exact ⟨⟨cs, h1, fun i x c hi hc => E.mono (h2 i x c hi hc) (Same.of_ext hb), owns_ext h3 hb⟩⟩
theorem EnRow.shape (h : EnRow E t A base w v l) : ∃ a c, v = .slice a l.length c := by
  obtain ⟨cs, h1, h2, h3⟩ := h.ex
  exact owns_shape h3
theorem EnRow.sle (h : EnRow E t A base w v l) (hA : ∀ b, b < w.heap.size → A b → A' b) (hb : ∀ b, base ≤ b → A' b) : SlE E A' w v l := by
  obtain ⟨cs, h1, h2, h3⟩ := h.ex
  exact SlE.of_flat h1 (fun i x c hi hc => E.weak (h2 i x c hi hc) fun b hl hb => hA b hl hb) ((SlA.of_owns h3).weak hb)
theorem EnRow.push {x : α} {c : List Value} {cs : List (List Value)} (h1 : cs.length = l.length) (h2 : ∀ (i : Nat) (x : α) (c : List Value), l[i]? = some x → cs[i]? = some c → E.rd A w c x)
    (hs : Same A w w') (hx : E.rd A w c x) (ho : w'.ownsRow base t E.size v' (l.length + 1) (cs.flatten ++ c)) : EnRow E t A base w' v' (l ++ [x]) := by
  refine ⟨⟨cs ++ [c], by simp [h1], fun i y d hi hd => ?_, by simpa using ho⟩⟩
  by_cases hlt : i < l.length
  · rw [List.getElem?_append_left hlt] at hi
    rw [List.getElem?_append_left (by omega)] at hd
    exact E.mono (h2 i y d hi hd) hs
  · have hil := (List.getElem?_eq_some_iff.1 hi).1
    simp only [List.length_append, List.length_singleton] at hil
    have : i = l.length := by omega
    subst this
    rw [List.getElem?_append_right (by omega)] at hi hd
    simp [h1] at hi hd
    subst hi hd
    exact E.mono hx hs
end
section
variable {P : Program} {ops : Array Oper} {rest : List Oper} {o : Oper} {a : Act} {Q : Exit → Act → World → Prop}
/-- 'append(out, x)': out of the call's own, x one datum -/
theorem wpList_push {α : Type} (W : World) (hgd : o.guard = none) (s x : Operand) (t : TypeId) (ho : o.op = .call { callee := .builtin .append, args := #[s, x], argTypes := #[t, t] })
    (E : Enc α) (A : Nat → Prop) (base : Nat) (e : TypeId) (i : TypeInfo) (z : Value) (bytes : Nat) (ht : P.underlying t = some (.slice e)) (hi : P.info? e = some i) (hz : i.zero = some z)
    (hsize : i.size = E.size) (hby : i.bytes = bytes) (hzs : z.cells.size = E.size) (hsz : 0 < E.size) (hbb : bytes ≤ 1000)
    (v : Value) (l : List α) (hs : a.eval s = v) (hown : EnRow E e A base W v l) (c : List Value) (tt : TypeId) (y : α)
    (hx : a.eval x = .slice (some ⟨W.heap.size, 0, none⟩) 1 1) (hrd : E.rd A W c y)
    (hl : l.length ≤ 1000000) (hbase : base ≤ W.heap.size) (hA : ∀ b, A b → b < base)
    (h : ∀ v' w', EnRow E e A base w' v' (l ++ [y]) → Below base W w' → wpList P ops Q rest (a.put o.dst v') w') : wpList P ops Q (o :: rest) a (W.alloc (.cells c.toArray tt)) := by
  obtain ⟨cs, h1, h2, h3⟩ := hown.ex
  have hal : Below W.heap.size W (W.alloc (.cells c.toArray tt)) := (Below.refl _ _).alloc (Nat.le_refl _) _
  refine wpList_append_own _ hgd s x t ho base e i z E.size bytes ht hi hz hsize hby hzs hsz v l.length cs.flatten hs (owns_ext h3 hal) ⟨W.heap.size, 0, none⟩ 1 1 c hx (by rw [Nat.one_mul]; exact E.len hrd) (cells_new W c tt) (E.one hrd) (by unfold maxLen; omega) ?_ (Nat.le_trans hbase hal.size) ?_
  · exact Nat.le_trans (Nat.mul_le_mul (show l.length + 1 ≤ 1000001 by omega) hbb) (by decide)
  · intro v' w' h4 h5 _
    have hb : Below base W w' := ((Below.refl base W).alloc hbase _).grown h5 (by simp; omega) fun j hj => (h3.lt j hj).1
    exact h v' w' (EnRow.push h1 h2 (Same.of_below hb hA) hrd h4) hb
end
end Go.Proofs.YtfeonfihlleoeaaDoor
