/- Maps of objects' states, plainly. No program is named. The walks of objmap: Get. Rows of the call's own that hold data: append of one datum. No program is named. Rows of bytes of the call's own: append of one byte, append of a row, a byte written. No function is named. Rows of ints that a call has made. No function is named. -/
import Derived.Test.YtlekdfajcpmolaaGreatDoorGAA
import Derived.Test.YtlekdfajcpmolaaGreatDoorGAB
import Derived.Test.YtlekdfajcpmolaaGreatDoorGAC
namespace Go.Proofs.YtlekdfajcpmolaaGreatDoor

/-- what a map says of an object -/
def mGet (m : List Int) (i : Int) : Int := if 0 ≤ i ∧ i < 512 then (match m[i.toNat]? with
    | some s => if 0 ≤ s ∧ s ≤ 2 then s else 0
    | none => 0) else 0
/-- how many stand ahead of the noughts at the end, of the first n -/
def topN (l : List Int) : Nat → Nat
  | 0 => 0
  | n + 1 => if l.getD n 0 = 0 then topN l n else n + 1
def strip (l : List Int) : List Int := l.take (topN l l.length)
def mAll (m : List Int) : List Int := (List.range (min m.length 512)).map fun i => mGet m (i : Nat)
def mRow (m : List Int) : List Int := strip (mAll m)
def mMay (m : List Int) : Bool := m.all (fun s => decide (0 ≤ s ∧ s ≤ 2)) && decide (m.length ≤ 512) && (m.isEmpty || decide (m.getD (m.length - 1) 0 ≠ 0))
def mSet (m : List Int) (i s : Int) : List Int := if 0 ≤ i ∧ i < 512 ∧ 0 ≤ s ∧ s ≤ 2 then strip ((List.range (max (min m.length 512) (i.toNat + 1))).map fun (k : Nat) => if (k : Int) = i then s else mGet m k) else mRow m
def mFresh (m : List Int) : List Int := (mRow m).map fun s => if s = 1 then 2 else s
def mMerge (o n : List Int) : List Int := (mRow n).mapIdx fun i s => if s = 2 ∧ mGet o (i : Nat) = 1 then 1 else s
theorem topN_le (l : List Int) : ∀ n, topN l n ≤ n
  | 0 => Nat.le_refl _
  | n + 1 => by
    unfold topN
    split
    · exact Nat.le_succ_of_le (topN_le l n)
    · exact Nat.le_refl _
theorem mGet_ways (m : List Int) (i : Int) : 0 ≤ mGet m i ∧ mGet m i ≤ 2 := by
  unfold mGet
  split
  · split
    · split
      · assumption
      · omega
    · omega
  · omega
theorem mAll_len (m : List Int) : (mAll m).length = min m.length 512 := by simp [mAll]
theorem mAll_get (m : List Int) (i : Nat) (h : i < min m.length 512) : (mAll m)[i]? = some (mGet m (i : Nat)) := by
  unfold mAll
  rw [List.getElem?_map, List.getElem?_range h]
  rfl
theorem may_parts {m : List Int} (h : mMay m = true) : (∀ s ∈ m, 0 ≤ s ∧ s ≤ 2) ∧ m.length ≤ 512 ∧ (m = [] ∨ m.getD (m.length - 1) 0 ≠ 0) := by
  unfold mMay at h
  simp only [Bool.and_eq_true, List.all_eq_true, decide_eq_true_eq, Bool.or_eq_true, List.isEmpty_iff] at h
  exact ⟨h.1.1, h.1.2, h.2⟩
/-- a map that may be is its own clean row -/
theorem may_all {m : List Int} (h : mMay m = true) : mAll m = m := by
  obtain ⟨h1, h2, -⟩ := may_parts h
  apply List.ext_getElem?
  intro i
  by_cases hi : i < m.length
  · rw [mAll_get m i (by omega), List.getElem?_eq_getElem hi]
    have hs := h1 m[i] (List.getElem_mem hi)
    unfold mGet
    rw [if_pos (by omega)]
    simp only [Int.toNat_natCast, List.getElem?_eq_getElem hi]
    rw [if_pos hs]
  · rw [List.getElem?_eq_none (by rw [mAll_len]; omega), List.getElem?_eq_none (by omega)]
theorem may_row {m : List Int} (h : mMay m = true) : mRow m = m := by
  unfold mRow
  rw [may_all h]
  obtain ⟨-, -, h3⟩ := may_parts h
  unfold strip
  have : topN m m.length = m.length := by
    rcases h3 with rfl | h3
    · rfl
    · cases hl : m.length with
      | zero => rfl
      | succ n =>
        rw [hl] at h3
        unfold topN
        exact if_neg h3
  rw [this, List.take_length]
theorem topN_last (l : List Int) : ∀ n, topN l n = 0 ∨ l.getD (topN l n - 1) 0 ≠ 0
  | 0 => .inl rfl
  | n + 1 => by
    unfold topN
    split
    · exact topN_last l n
    · rename_i h
      exact .inr h
theorem strip_may {l : List Int} (h1 : ∀ s ∈ l, 0 ≤ s ∧ s ≤ 2) (h2 : l.length ≤ 512) : mMay (strip l) = true := by
  have hle := topN_le l l.length
  unfold mMay
  simp only [Bool.and_eq_true, List.all_eq_true, decide_eq_true_eq, Bool.or_eq_true, List.isEmpty_iff]
  have hlen : (strip l).length = topN l l.length := by unfold strip; rw [List.length_take]; omega
  refine ⟨⟨fun s hs => h1 s (List.mem_of_mem_take hs), by omega⟩, ?_⟩
  rcases topN_last l l.length with h | h
  · left
    unfold strip
    rw [h]
    rfl
  · by_cases h0 : topN l l.length = 0
    · left
      unfold strip
      rw [h0]
      rfl
    · right
      rw [hlen]
      unfold strip
      rw [List.getD_eq_getElem?_getD, List.getElem?_take_of_lt (by omega), ← List.getD_eq_getElem?_getD]
      exact h
theorem row_may (m : List Int) : mMay (mRow m) = true := strip_may (fun s hs => by
  obtain ⟨i, -, rfl⟩ := List.mem_map.1 hs
  exact mGet_ways m _) (by rw [mAll_len]; omega)
theorem topN_above (l : List Int) : ∀ n i, topN l n ≤ i → i < n → l.getD i 0 = 0
  | 0, i, _, h => by omega
  | n + 1, i, h1, h2 => by
    unfold topN at h1
    split at h1
    · rename_i h
      by_cases e : i = n
      · subst e; exact h
      · exact topN_above l n i h1 (by omega)
    · omega
theorem getD_out (l : List Int) (i : Nat) (h : l.length ≤ i) : l.getD i 0 = 0 := by rw [List.getD_eq_getElem?_getD, List.getElem?_eq_none h]; rfl
theorem strip_len (l : List Int) : (strip l).length = topN l l.length := by
  have := topN_le l l.length
  unfold strip
  rw [List.length_take]
  omega
theorem strip_getD (l : List Int) (i : Nat) : (strip l).getD i 0 = l.getD i 0 := by
  by_cases h : i < topN l l.length
  · unfold strip
    rw [List.getD_eq_getElem?_getD, List.getElem?_take_of_lt h, ← List.getD_eq_getElem?_getD]
  · rw [getD_out _ _ (by rw [strip_len]; omega)]
    by_cases h2 : i < l.length
    · exact (topN_above l l.length i (by omega) h2).symm
    · exact (getD_out l i (by omega)).symm
theorem mGet_out (m : List Int) (i : Nat) (h : min m.length 512 ≤ i) : mGet m (i : Nat) = 0 := by
  unfold mGet
  split
  · rename_i h1
    rw [List.getElem?_eq_none (by omega)]
  · rfl
theorem mAll_getD (m : List Int) (i : Nat) : (mAll m).getD i 0 = mGet m (i : Nat) := by
  by_cases h : i < min m.length 512
  · rw [List.getD_eq_getElem?_getD, mAll_get m i h, Option.getD_some]
  · rw [getD_out _ _ (by rw [mAll_len]; omega), mGet_out m i (by omega)]
theorem mGet_may {m : List Int} (h : mMay m = true) (i : Nat) : mGet m (i : Nat) = m.getD i 0 := by
  rw [← mAll_getD, may_all h]
end Go.Proofs.YtlekdfajcpmolaaGreatDoor
namespace Go.Proofs.YtlekdfajcpmolaaGreatDoor
open Go.RowKit Go.WideShapes

theorem mright_any (n : Int) (w : World) : Calls Tryz.prog 158 #[.int .i64 n] w fun e w' => e = .returned (.bool (decide (0 ≤ n ∧ n ≤ 2))) ∧ w = w' := by
  by_cases h0 : (0 : Int) ≤ n
  · by_cases h2 : n ≤ (2 : Int)
    · go_enter Tryz.func158, Tryz.ntmps158
      go_wp2
      go_ret
      exact ⟨by simp [h0, h2], rfl⟩
    · go_enter Tryz.func158, Tryz.ntmps158
      go_wp2
      go_ret
      exact ⟨by simp [h2], rfl⟩
  · go_enter Tryz.func158, Tryz.ntmps158
    go_wp2
    go_ret
    exact ⟨by simp; omega, rfl⟩
theorem Ints.at {A : Nat → Prop} {w : World} {a : Option Addr} {n c : Nat} {m : List Int} (h : SlE (Enc.int .i64) A w (.slice a n c) m) {i : Nat} (hi : i < m.length) :
    ∃ b off, a = some ⟨b, off, none⟩ ∧ b < w.heap.size ∧ A b ∧ w.cell? ⟨b, off + i, none⟩ = some (.int .i64 (m.getD i 0)) := by
  obtain ⟨b, off, cap, cs, e, hb, hA, rfl, hc⟩ := h.at (i := i) (x := m.getD i 0) (by simp [hi])
  simp only [Value.slice.injEq] at e
  obtain ⟨rfl, _, _⟩ := e
  have e0 := hc 0 (by decide)
  simp only [Enc.int, Nat.mul_one, Nat.add_zero, List.getElem?_cons_zero] at e0
  exact ⟨b, off, rfl, hb, hA, e0⟩
set_option maxRecDepth 100000 in
theorem mget_any (A : Nat → Prop) (a : Option Addr) (c : Nat) (m : List Int) (i : Int) (w : World) (hv : SlE (Enc.int .i64) A w (.slice a m.length c) m) : Calls Tryz.prog 102 #[.slice a m.length c, .int .i64 i] w fun e w' => e = .returned (.int .i64 (mGet m i)) ∧ w = w' := by
  have HV := Lib.hid hv
  clear hv
  by_cases h0 : i < 0
  · have HX : Hid (mGet m i = 0) := Lib.hid (by unfold mGet; rw [if_neg (by omega)])
    go_enter Tryz.func102, Tryz.ntmps102
    go_wp2
    all_goals
      go_ret
      exact ⟨by rw [HX.out]; rfl, rfl⟩
  · have h0' : 0 ≤ i := by omega
    by_cases h1 : min (m.length : Int) 512 ≤ i
    · have HX : Hid (mGet m i = 0) := Lib.hid (by
        obtain ⟨k, rfl⟩ : ∃ k : Nat, i = k := ⟨i.toNat, by omega⟩
        exact mGet_out m k (by omega))
      clear h0
      go_enter Tryz.func102, Tryz.ntmps102
      go_wp2
      all_goals
        go_ret
        exact ⟨by rw [HX.out]; rfl, rfl⟩
    · obtain ⟨k, rfl⟩ : ∃ k : Nat, i = k := ⟨i.toNat, by omega⟩
      have hk : k < m.length := by omega
      obtain ⟨b, off, rfl, hb, -, hc⟩ := Ints.at HV.out hk
      have hkl : (k : Int) < m.length := by omega
      have HX : Hid (mGet m (k : Nat) = if 0 ≤ m.getD k 0 ∧ m.getD k 0 ≤ 2 then m.getD k 0 else 0) := Lib.hid (by
        unfold mGet
        rw [if_pos (by omega)]
        simp only [Int.toNat_natCast, List.getElem?_eq_getElem hk, List.getD_eq_getElem?_getD, Option.getD_some])
      obtain ⟨x, hx⟩ : ∃ x, x = m.getD k 0 := ⟨_, rfl⟩
      rw [← hx] at hc HX
      clear hx h0
      by_cases hr : 0 ≤ x ∧ x ≤ 2
      · have HR := Lib.hid (decide_eq_true hr)
        rw [if_pos hr] at HX
        clear hr
        go_enter Tryz.func102, Tryz.ntmps102
        go_wp2_with (go_at_call 158; refine (mright_any _ _).mono ?_; rw [HR.out]; rintro e w' ⟨rfl, rfl⟩)
        all_goals
          go_ret
          exact ⟨by rw [HX.out]; rfl, rfl⟩
      · have HR := Lib.hid (decide_eq_false hr)
        rw [if_neg hr] at HX
        clear hr
        go_enter Tryz.func102, Tryz.ntmps102
        go_wp2_with (go_at_call 158; refine (mright_any _ _).mono ?_; rw [HR.out]; rintro e w' ⟨rfl, rfl⟩)
        all_goals
          go_ret
          exact ⟨by rw [HX.out]; rfl, rfl⟩
end Go.Proofs.YtlekdfajcpmolaaGreatDoor
namespace Go.Proofs.YtlekdfajcpmolaaGreatDoor
open Go.RowKit Go.WideShapes

/-- a goal that the walk leaves alone: a step is then taken by hand -/
def Stop (p : Prop) : Prop := p
theorem stop_in {p : Prop} (h : Stop p) : p := h
/-- a row of the call's own that holds data -/
structure EnRow {α : Type} (E : Enc α) (t : TypeId) (A : Nat → Prop) (base : Nat) (w : World) (v : Value) (l : List α) : Prop where
  mk ::
  ex : ∃ cs : List (List Value), cs.length = l.length ∧ (∀ (i : Nat) (x : α) (c : List Value), l[i]? = some x → cs[i]? = some c → E.rd A w c x) ∧ w.ownsRow base t E.size v l.length cs.flatten
section
variable {α : Type} {E : Enc α} {t : TypeId} {A A' : Nat → Prop} {base : Nat} {w w' : World} {v v' : Value} {l : List α}
theorem EnRow.nil (E : Enc α) (t : TypeId) (A : Nat → Prop) (base : Nat) (w : World) : EnRow E t A base w (.slice none 0 0) [] := ⟨⟨[], rfl, fun i x c h => by simp at h, World.ownsRow_nil _ _ _ _⟩⟩
theorem EnRow.ext (h : EnRow E t A base w v l) (hb : Below w.heap.size w w') : EnRow E t A base w' v l := by
  obtain ⟨cs, h1, h2, h3⟩ := h.ex
  exact ⟨⟨cs, h1, fun i x c hi hc => E.mono (h2 i x c hi hc) (Same.of_ext hb), owns_ext h3 hb⟩⟩
theorem EnRow.shape (h : EnRow E t A base w v l) : ∃ a c, v = .slice a l.length c := by
  obtain ⟨cs, h1, h2, h3⟩ := h.ex
  exact owns_shape h3
theorem EnRow.sle (h : EnRow E t A base w v l) (hA : ∀ b, b < w.heap.size → A b → A' b) (hb : ∀ b, base ≤ b → A' b) : SlE E A' w v l := by
  obtain ⟨cs, h1, h2, h3⟩ := h.ex
  exact SlE.of_flat h1 (fun i x c hi hc => E.weak (h2 i x c hi hc) fun b hl hb => hA b hl hb) ((SlA.of_owns h3).weak hb)
theorem EnRow.push {x : α} {c : List Value} {cs : List (List Value)} (h1 : cs.length = l.length) (h2 : ∀ (i : Nat) (x : α) (c : List Value), l[i]? = some x → cs[i]? = some c → E.rd A w c x)
    (hs : Same A w w') (hx : E.rd A w c x) (ho : w'.ownsRow base t E.size v' (l.length + 1) (cs.flatten ++ c)) : EnRow E t A base w' v' (l ++ [x]) := by
  refine ⟨⟨cs ++ [c], by simp [h1], fun i y d hi hd => ?_, by simpa using ho⟩⟩
  by_cases hlt : i < l.length
  · rw [List.getElem?_append_left hlt] at hi
    rw [List.getElem?_append_left (by omega)] at hd
    exact E.mono (h2 i y d hi hd) hs
  · have hil := (List.getElem?_eq_some_iff.1 hi).1
    simp only [List.length_append, List.length_singleton] at hil
    have : i = l.length := by omega
    subst this
    rw [List.getElem?_append_right (by omega)] at hi hd
    simp [h1] at hi hd
    subst hi hd
    exact E.mono hx hs
end
section
variable {P : Program} {ops : Array Oper} {rest : List Oper} {o : Oper} {a : Act} {Q : Exit → Act → World → Prop}
end
end Go.Proofs.YtlekdfajcpmolaaGreatDoor
namespace Go.Proofs.YtlekdfajcpmolaaGreatDoor
open Go.RowKit Go.WideShapes

section
variable {ops : Array Oper} {rest : List Oper} {o : Oper} {a : Act} {Q : Exit → Act → World → Prop}
/-- 'append(out, b)' -/
theorem wpList_pushB (W : World) (hgd : o.guard = none) (s x : Operand) (ho : o.op = .call { callee := .builtin .append, args := #[s, x], argTypes := #[28, 28] })
    (base : Nat) (v : Value) (l : List UInt8) (hs : a.eval s = v) (hown : OB base W v l) (c : List Value) (tt : TypeId) (y : UInt8) (hc : c = [bv y])
    (hx : a.eval x = .slice (some ⟨W.heap.size, 0, none⟩) 1 1) (hl : l.length ≤ 1000000) (hbase : base ≤ W.heap.size)
    (h : ∀ v' w', OB base w' v' (l ++ [y]) → Below base W w' → wpList Tryz.prog ops Q rest (a.put o.dst v') w') : wpList Tryz.prog ops Q (o :: rest) a (W.alloc (.cells c.toArray tt)) := by
  obtain ⟨i0, hi, hz0, hz1, hz2⟩ := info_parts infoByte
  subst hc
  have hal : Below W.heap.size W (W.alloc (.cells [bv y].toArray tt)) := (Below.refl _ _).alloc (Nat.le_refl _) _
  refine wpList_append_own _ hgd s x 28 ho base 5 i0 (.int .u8 0) 1 1 Tryz.underlying28 hi hz0 hz1 hz2 rfl (by decide) v l.length (l.map bv) hs (owns_ext hown hal) ⟨W.heap.size, 0, none⟩ 1 1 [bv y] hx rfl (cells_new W [bv y] tt) (one_bytes [y]) (by unfold maxLen; omega) (by omega) (Nat.le_trans hbase hal.size) ?_
  intro v' w' h4 h5 _
  exact h v' w' (OB.cast h4 (by simp) (by simp)) (((Below.refl base W).alloc hbase _).grown h5 (by simp; omega) fun j hj => (hown.lt j hj).1)
/-- 'append(out, src...)' -/
theorem wpList_appB (w : World) (hgd : o.guard = none) (s x : Operand) (ho : o.op = .call { callee := .builtin .append, args := #[s, x], argTypes := #[28, 28] })
    (base : Nat) (v : Value) (l : List UInt8) (hs : a.eval s = v) (hown : OB base w v l) (A : Nat → Prop) (sv : Value) (m : List UInt8)
    (hx : a.eval x = sv) (hsl : RB A w sv m) (hl : l.length + m.length ≤ 1000000) (hbase : base ≤ w.heap.size)
    (h : ∀ v' w', OB base w' v' (l ++ m) → Below base w w' → wpList Tryz.prog ops Q rest (a.put o.dst v') w') : wpList Tryz.prog ops Q (o :: rest) a w := by
  obtain ⟨i0, hi, hz0, hz1, hz2⟩ := info_parts infoByte
  refine wpList_append_sl hgd s x 28 ho base 5 i0 (.int .u8 0) 1 1 Tryz.underlying28 hi hz0 hz1 hz2 rfl (by decide) v l.length (l.map bv) hs hown A sv m.length (m.map bv) hx hsl (one_bytes m) (by unfold maxLen; omega) (by omega) hbase ?_
  intro v' w' h4 h5
  exact h v' w' (OB.cast h4 (by simp) (by simp)) ((Below.refl base w).grown h5 hbase fun j hj => (hown.lt j hj).1)
end
/-- a byte of a row of the call's own is written -/
theorem OB.set {base g n c : Nat} {w : World} {l : List UInt8} (h : OB base w (.slice (some ⟨g, 0, none⟩) n c) l) (j : Nat) (b : UInt8) : OB base (w.setCell ⟨g, j, none⟩ (bv b)) (.slice (some ⟨g, 0, none⟩) n c) (l.set j b) := by
  have hn : n = l.length := by
    rcases h.2 with ⟨e, -⟩ | ⟨g', c', u', e, -⟩
    · simp at e
    · simp only [Value.slice.injEq] at e; exact e.2.1
  subst hn
  exact OB.cast (owns_set h j (bv b)) (by simp) (by rw [List.map_set])
/-- where a row of the call's own that has bytes lies -/
theorem OB.lies {base : Nat} {w : World} {v : Value} {l : List UInt8} (h : OB base w v l) (h0 : 0 < l.length) : ∃ g c, v = .slice (some ⟨g, 0, none⟩) l.length c ∧ base ≤ g ∧ g < w.heap.size ∧ l.length ≤ c ∧ (∀ k, k < l.length → w.cell? ⟨g, k, none⟩ = (l.map bv)[k]?) ∧ ∀ k, w.frozen? ⟨g, k, none⟩ = false := by
  have h' := h
  rcases h.2 with ⟨_, e⟩ | ⟨g, c, cur, rfl, hb, hg, hn, -⟩
  · omega
  · refine ⟨g, c, rfl, hb, (Array.getElem?_eq_some_iff.1 hg).1, hn, fun k hk => ?_, fun k => (blk_cell hg).2⟩
    have := World.ownsRow.cellAt h' k (by omega)
    simpa using this
end Go.Proofs.YtlekdfajcpmolaaGreatDoor
namespace Go.Proofs.YtlekdfajcpmolaaGreatDoor
open Go.RowKit Go.WideShapes

theorem infoI19 : (Tryz.prog.info? 3).map (fun i => (i.zero, i.size, i.bytes)) = some (some (.int .i64 0), 1, 8) := by kernel_rfl
abbrev IntsA (A : Nat → Prop) (w : World) (v : Value) (l : List Int) : Prop := SlE (Enc.int .i64) A w v l
/-- a row of ints of the call's own, to which can be appended -/
def OI (base : Nat) (w : World) (v : Value) (l : List Int) : Prop := w.ownsRow base 3 1 v l.length (l.map (Value.int .i64))
/-- a row of ints of the call's own -/
structure NI (base : Nat) (w : World) (v : Value) (l : List Int) : Prop where
  mk ::
  ex : (v = .slice none 0 0 ∧ l = []) ∨ ∃ g cap cur, v = .slice (some ⟨g, 0, none⟩) l.length cap ∧ base ≤ g ∧ w.heap[g]? = some (.cells cur 3 (0, 0)) ∧ l.length ≤ cap ∧ cap ≤ cur.size ∧ ∀ j, j < l.length → cur[j]? = some (.int .i64 (l.getD j 0))
def NewI (w : World) (l : List Int) (e : Ending) (w' : World) : Prop := ∃ v : Value, e = .returned v ∧ NI w.heap.size w' v l ∧ Below w.heap.size w w'
def NewOI (w : World) (l : List Int) (e : Ending) (w' : World) : Prop := ∃ v : Value, e = .returned v ∧ OI w.heap.size w' v l ∧ Below w.heap.size w w'
theorem OI.cast {base : Nat} {w : World} {v : Value} {n : Nat} {xs : List Value} {l : List Int} (h : w.ownsRow base 3 1 v n xs) (hn : n = l.length) (hx : xs = l.map (Value.int .i64)) : OI base w v l := by
  subst hn hx; exact h
theorem OI.nil (base : Nat) (w : World) : OI base w (.slice none 0 0) [] := World.ownsRow_nil _ _ _ _
theorem OI.ni {base : Nat} {w : World} {v : Value} {l : List Int} (h : OI base w v l) : NI base w v l := by
  refine ⟨?_⟩
  obtain ⟨-, ⟨rfl, h0⟩ | ⟨g, cap, cur, rfl, hb, hg, hn, hm, hs, hx⟩⟩ := h
  · exact .inl ⟨rfl, List.eq_nil_of_length_eq_zero h0⟩
  · refine .inr ⟨g, cap, cur, rfl, hb, hg, hn, by omega, fun j hj => ?_⟩
    have e : (cur.toList.take (l.length * 1))[j]? = (l.map (Value.int .i64))[j]? := by rw [hx]
    rw [List.getElem?_take, if_pos (by omega), Array.getElem?_toList] at e
    rw [e, List.getElem?_map, List.getElem?_eq_getElem hj, List.getD_eq_getElem?_getD, List.getElem?_eq_getElem hj]
    rfl
theorem NewOI.new {w w' : World} {l : List Int} {e : Ending} (h : NewOI w l e w') : NewI w l e w' := by
  obtain ⟨v, a, b, c⟩ := h
  exact ⟨v, a, b.ni, c⟩
section
variable {base : Nat} {w w' : World} {v : Value} {l : List Int}
theorem NI.nil (base : Nat) (w : World) : NI base w (.slice none 0 0) [] := ⟨.inl ⟨rfl, rfl⟩⟩
theorem NI.shape (h : NI base w v l) : ∃ a c, v = .slice a l.length c := by
  obtain ⟨rfl, rfl⟩ | ⟨g, cap, cur, rfl, -⟩ := h.ex
  · exact ⟨_, _, rfl⟩
  · exact ⟨_, _, rfl⟩
theorem NI.sle (h : NI base w v l) : IntsA (fun b => base ≤ b) w v l := by
  refine SlE.of_flat (cs := l.map fun x => [Value.int .i64 x]) (by simp) (fun i x c hi hc => ?_) ?_
  · rw [List.getElem?_map, hi] at hc
    cases hc
    rfl
  · have e : (l.map fun x => [Value.int .i64 x]).flatten = l.map (Value.int .i64) := by
      clear h
      induction l with
      | nil => rfl
      | cons x l ih => simp only [List.map_cons, List.flatten_cons, ih]; rfl
    rw [e]
    refine ⟨by simp [Enc.int], ?_⟩
    obtain ⟨rfl, rfl⟩ | ⟨g, cap, cur, rfl, hb, hg, hn, hc, hx⟩ := h.ex
    · exact .inl ⟨⟨_, rfl⟩, rfl⟩
    · refine .inr ⟨g, 0, cap, rfl, (Array.getElem?_eq_some_iff.1 hg).1, hb, hn, fun j hj => ?_⟩
      have hj : j < l.length := by simpa [Enc.int] using hj
      rw [Nat.zero_add, (blk_cell hg).1, hx j hj, List.getElem?_map, List.getElem?_eq_getElem hj, List.getD_eq_getElem?_getD, List.getElem?_eq_getElem hj]
      rfl
theorem NI.same (h : NI base w v l) (hs : ∀ g, v.ownBlock = some g → w'.heap[g]? = w.heap[g]?) : NI base w' v l := by
  obtain ⟨rfl, rfl⟩ | ⟨g, cap, cur, rfl, hb, hg, hn, hc, hx⟩ := h.ex
  · exact NI.nil _ _
  · exact ⟨.inr ⟨g, cap, cur, rfl, hb, (hs g rfl).trans hg, hn, hc, hx⟩⟩
theorem NI.lt (h : NI base w v l) : ∀ g, v.ownBlock = some g → base ≤ g ∧ g < w.heap.size := by
  intro g e
  obtain ⟨rfl, rfl⟩ | ⟨g', cap, cur, rfl, hb, hg, hn, hc, hx⟩ := h.ex
  · simp [Value.ownBlock] at e
  · simp only [Value.ownBlock, Option.some.injEq] at e
    subst e
    exact ⟨hb, (Array.getElem?_eq_some_iff.1 hg).1⟩
theorem NI.ext (h : NI base w v l) (hb : Below w.heap.size w w') : NI base w' v l := h.same fun g e => hb.block g (h.lt g e).2
theorem NI.base_le {base' : Nat} (h : NI base w v l) (hb : base' ≤ base) : NI base' w v l := by
  obtain ⟨rfl, rfl⟩ | ⟨g, cap, cur, rfl, h1, hg, hn, hc, hx⟩ := h.ex
  · exact NI.nil _ _
  · exact ⟨.inr ⟨g, cap, cur, rfl, Nat.le_trans hb h1, hg, hn, hc, hx⟩⟩
theorem NI.lies (h : NI base w v l) (h0 : 0 < l.length) : ∃ g c, v = .slice (some ⟨g, 0, none⟩) l.length c ∧ base ≤ g ∧ g < w.heap.size ∧ l.length ≤ c ∧ (∀ j, j < l.length → w.cell? ⟨g, j, none⟩ = some (.int .i64 (l.getD j 0))) ∧ ∀ k, w.frozen? ⟨g, k, none⟩ = false := by
  obtain ⟨rfl, rfl⟩ | ⟨g, cap, cur, rfl, h1, hg, hn, hc, hx⟩ := h.ex
  · simp at h0
  · exact ⟨g, cap, rfl, h1, (Array.getElem?_eq_some_iff.1 hg).1, hn, fun j hj => (blk_cell hg).1.trans (hx j hj), fun k => (blk_cell hg).2⟩
theorem NI.set {g n c : Nat} (h : NI base w (.slice (some ⟨g, 0, none⟩) n c) l) (j : Nat) (x : Int) : NI base (w.setCell ⟨g, j, none⟩ (.int .i64 x)) (.slice (some ⟨g, 0, none⟩) n c) (l.set j x) := by
  obtain ⟨e, -⟩ | ⟨g', cap, cur, e, h1, hg, hn, hc, hx⟩ := h.ex
  · simp at e
  · simp only [Value.slice.injEq, Option.some.injEq, Addr.mk.injEq] at e
    obtain ⟨⟨rfl, -⟩, rfl, rfl⟩ := e
    refine ⟨.inr ⟨g, c, cur.setIfInBounds j (.int .i64 x), by simp, h1, ?_, by simpa using hn, by simpa using hc, fun i hi => ?_⟩⟩
    · simp [World.setCell, Array.getElem?_modify, hg]
    · rw [List.length_set] at hi
      have hi2 := hx i hi
      by_cases e : j = i
      · subst e
        rw [Array.getElem?_setIfInBounds_self, if_pos (by omega), List.getD_eq_getElem?_getD, List.getElem?_set_self hi]
        rfl
      · rw [Array.getElem?_setIfInBounds_ne e, hi2, List.getD_eq_getElem?_getD, List.getD_eq_getElem?_getD, List.getElem?_set_ne e]
theorem NI.len {a : Option Addr} {n c : Nat} (h : NI base w (.slice a n c) l) : n = l.length := by
  obtain ⟨a', c', e⟩ := h.shape
  simp only [Value.slice.injEq] at e
  exact e.2.1
/-- 'm[:k:k]' -/
theorem NI.take {a : Option Addr} {n c : Nat} (h : NI base w (.slice a n c) l) (k : Nat) (hk : k ≤ l.length) : NI base w (.slice a k k) (l.take k) := by
  obtain ⟨e, rfl⟩ | ⟨g', cap, cur, e, h1, hg, hn, hc, hx⟩ := h.ex
  · simp only [Value.slice.injEq] at e
    obtain ⟨rfl, rfl, rfl⟩ := e
    simp at hk
    subst hk
    exact NI.nil _ _
  · simp only [Value.slice.injEq] at e
    obtain ⟨rfl, rfl, rfl⟩ := e
    have hl : (l.take k).length = k := by simp; omega
    refine ⟨.inr ⟨g', k, cur, by rw [hl], h1, hg, by omega, by omega, fun j hj => ?_⟩⟩
    rw [hx j (by omega), List.getD_eq_getElem?_getD, List.getD_eq_getElem?_getD, List.getElem?_take, if_pos (by omega)]
end
theorem make_ints (n : Nat) (hn : n ≤ 1000000) (W : World) : (Instr.makeSlice 24 (.int .i64 (n : Int)) (.int .i64 (n : Int))).run Tryz.prog W = .ok (.slice (some ⟨W.heap.size, 0, none⟩) n n) (W.alloc (.cells (List.replicate n (Value.int .i64 0)).toArray 3)) := by
  obtain ⟨i0, hi, hz0, hz1, hz2⟩ := info_parts infoI19
  have h := run_make (P := Tryz.prog) W 24 3 i0 (.int .i64 0) Tryz.underlying24 hi hz0 .i64 .i64 n n (by omega) (by omega) (by rw [hz2]; omega) (by omega)
  have e : madeCells (Value.int .i64 0).cells n = (List.replicate n (Value.int .i64 0)).toArray := by
    apply Array.ext
    · simp [madeCells]
    · intro i h1 h2
      simp [madeCells, Value.cells, Nat.mod_one]
  rw [h, hz1]
  simp only [Int.toNat_natCast, Nat.mul_one]
  rw [e]
section
variable {ops : Array Oper} {rest : List Oper} {o : Oper} {a : Act} {Q : Exit → Act → World → Prop}
/-- 'append(out, x)' -/
theorem wpList_pushI (W : World) (hgd : o.guard = none) (s x : Operand) (ho : o.op = .call { callee := .builtin .append, args := #[s, x], argTypes := #[24, 24] })
    (base : Nat) (v : Value) (l : List Int) (hs : a.eval s = v) (hown : OI base W v l) (c : List Value) (tt : TypeId) (y : Int) (hc : c = [.int .i64 y])
    (hx : a.eval x = .slice (some ⟨W.heap.size, 0, none⟩) 1 1) (hl : l.length ≤ 1000000) (hbase : base ≤ W.heap.size)
    (h : ∀ v' w', OI base w' v' (l ++ [y]) → Below base W w' → wpList Tryz.prog ops Q rest (a.put o.dst v') w') : wpList Tryz.prog ops Q (o :: rest) a (W.alloc (.cells c.toArray tt)) := by
  obtain ⟨i0, hi, hz0, hz1, hz2⟩ := info_parts infoI19
  subst hc
  have hal : Below W.heap.size W (W.alloc (.cells [.int .i64 y].toArray tt)) := (Below.refl _ _).alloc (Nat.le_refl _) _
  refine wpList_append_own _ hgd s x 24 ho base 3 i0 (.int .i64 0) 1 8 Tryz.underlying24 hi hz0 hz1 hz2 rfl (by decide) v l.length (l.map (Value.int .i64)) hs (owns_ext hown hal) ⟨W.heap.size, 0, none⟩ 1 1 [.int .i64 y] hx rfl (cells_new W [.int .i64 y] tt) (by intro u hu; simp at hu; subst hu; rfl) (by unfold maxLen; omega) (by omega) (Nat.le_trans hbase hal.size) ?_
  intro v' w' h4 h5 _
  exact h v' w' (OI.cast h4 (by simp) (by simp)) (((Below.refl base W).alloc hbase _).grown h5 (by simp; omega) fun j hj => (hown.lt j hj).1)
end
end Go.Proofs.YtlekdfajcpmolaaGreatDoor
