/- The walks of object.find: where a key stands, or would. What a row of keys becomes: one put, one dropped; plainly, and in cells. No program is named. copy between rows whose elements have two cells; lists that are spliced. The walk of slices.Insert at keys: one key into a row of the call's own. The walk of slices.Delete at keys: one key out of a row of the call's own. errors.As at the refusals of object: Go's own text is walked. -/
import Derived.Test.YtfeonfihlleoeaaDoorGAG
import Derived.Test.YtfeonfihlleoeaaDoorGAC
import Derived.Laws.CopyOwn
import Derived.Laws.CopyRow
import Derived.Laws.IdiomCopy
import Derived.Lib.Overlaps
import Derived.Lib.AppendZerosOnto
import Derived.Laws.NewBlocks
import Derived.Laws.Externs
import Derived.Deep.RegionLaw
import Derived.ArgAppend
import Derived.LaidEql
import Derived.Stop.Asserts
import Derived.RowKitTokens
namespace Go.Proofs.YtfeonfihlleoeaaDoor
open Go.RowKit Go.WideShapes

/-! The place, in a rising row -/
theorem pos_of {ks : List KyD} {nm : ByteArray} {i : Nat} (hi : i ≤ ks.length) (h1 : ∀ (j : Nat) k, j < i → ks[j]? = some k → ltS k.name nm = true) (h2 : ∀ k, ks[i]? = some k → ltS k.name nm = false) : posK ks nm = i := by
  have hle := tw_le (fun k => ltS k.name nm) ks
  unfold posK
  rcases Nat.lt_trichotomy (ks.takeWhile fun k => ltS k.name nm).length i with h | h | h
  · have hlt : (ks.takeWhile fun k => ltS k.name nm).length < ks.length := by omega
    have a := tw_stop (fun k => ltS k.name nm) ks _ (List.getElem?_eq_getElem hlt)
    have b := h1 _ _ h (List.getElem?_eq_getElem hlt)
    rw [show ltS _ nm = false from a] at b
    cases b
  · exact h
  · have hlt : i < ks.length := by omega
    have a := tw_get (fun k => ltS k.name nm) ks i _ h (List.getElem?_eq_getElem hlt)
    have b := h2 _ (List.getElem?_eq_getElem hlt)
    rw [show ltS _ nm = true from a] at b
    cases b
theorem has_of {ks : List KyD} {nm : ByteArray} (hf : Fine ks) {i : Nat} (h1 : ∀ (j : Nat) k, j < i → ks[j]? = some k → ltS k.name nm = true) (h2 : ∀ k, ks[i]? = some k → ltS k.name nm = false) :
    hasK ks nm = match ks[i]? with | some k => decide (k.name = nm) | none => false := by
  have key : ∀ (j : Nat) k, ks[j]? = some k → k.name = nm → j = i := by
    intro j k hj hk
    rcases Nat.lt_trichotomy j i with h | h | h
    · have := h1 j k h hj
      rw [hk, ltS_irrefl] at this
      cases this
    · exact h
    · have hlt : i < ks.length := by have := (List.getElem?_eq_some_iff.1 hj).1; omega
      have hi : ks[i]? = some ks[i] := List.getElem?_eq_getElem hlt
      have a := hf.up i j _ k h hi hj
      rw [hk, h2 _ hi] at a
      cases a
  unfold hasK
  rw [Bool.eq_iff_iff, List.any_eq_true]
  constructor
  · rintro ⟨k, hk, he⟩
    obtain ⟨j, hj, rfl⟩ := List.getElem_of_mem hk
    have e := key j _ (List.getElem?_eq_getElem hj) (by simpa using he)
    subst e
    rw [List.getElem?_eq_getElem hj]
    exact he
  · intro h
    cases hi : ks[i]? with
    | none => rw [hi] at h; cases h
    | some k =>
      rw [hi] at h
      exact ⟨k, List.mem_of_getElem? hi, h⟩
/-- what stands ahead of i is less; what stands from j on is not -/
def Bse (ks : List KyD) (nm : ByteArray) (i j : Nat) : Prop := i ≤ j ∧ j ≤ ks.length ∧ (∀ (t : Nat) k, t < i → ks[t]? = some k → ltS k.name nm = true) ∧ (∀ (t : Nat) k, j ≤ t → ks[t]? = some k → ltS k.name nm = false)
theorem Bse.start (ks : List KyD) (nm : ByteArray) : Bse ks nm 0 ks.length := ⟨Nat.zero_le _, Nat.le_refl _, fun t k h => absurd h (by omega), fun t k h hk => by have := (List.getElem?_eq_some_iff.1 hk).1; omega⟩
theorem Bse.up {ks : List KyD} {nm : ByteArray} (hf : Fine ks) {i j h : Nat} (b : Bse ks nm i j) (h2 : h < j) (hx : ∀ k, ks[h]? = some k → ltS k.name nm = true) : Bse ks nm (h + 1) j := by
  obtain ⟨b1, b2, b3, b4⟩ := b
  refine ⟨by omega, b2, fun t k ht hk => ?_, b4⟩
  have hlt : h < ks.length := by omega
  have hh : ks[h]? = some ks[h] := List.getElem?_eq_getElem hlt
  rcases Nat.lt_or_ge t h with h3 | h3
  · exact ltS_trans (hf.up t h k _ h3 hk hh) (hx _ hh)
  · obtain rfl : t = h := by omega
    exact hx k hk
theorem Bse.down {ks : List KyD} {nm : ByteArray} (hf : Fine ks) {i j h : Nat} (b : Bse ks nm i j) (h1 : i ≤ h) (h2 : h < j) (hx : ∀ k, ks[h]? = some k → ltS k.name nm = false) : Bse ks nm i h := by
  obtain ⟨b1, b2, b3, b4⟩ := b
  refine ⟨h1, by omega, b3, fun t k ht hk => ?_⟩
  have hlt : h < ks.length := by omega
  have hh : ks[h]? = some ks[h] := List.getElem?_eq_getElem hlt
  rcases Nat.lt_or_ge h t with h3 | h3
  · have a := hf.up h t _ k h3 hh hk
    cases hc : ltS k.name nm with
    | false => rfl
    | true =>
      have := ltS_trans a hc
      rw [hx _ hh] at this
      cases this
  · obtain rfl : t = h := by omega
    exact hx k hk
theorem Bse.end_ {ks : List KyD} {nm : ByteArray} (hf : Fine ks) {i : Nat} (b : Bse ks nm i i) : posK ks nm = i ∧ hasK ks nm = match ks[i]? with | some k => decide (k.name = nm) | none => false :=
  ⟨pos_of b.2.1 b.2.2.1 fun k hk => b.2.2.2 i k (Nat.le_refl _) hk, has_of hf b.2.2.1 fun k hk => b.2.2.2 i k (Nat.le_refl _) hk⟩
def FindR (ks : List KyD) (nm : ByteArray) (w : World) (e : Ending) (w' : World) : Prop := e = .returned (.tuple #[.int .i64 (posK ks nm), .bool (hasK ks nm)]) ∧ Below w.heap.size w w'
theorem half (i j : Nat) (h : i < j) (hj : j ≤ 10000) : IntKind.i64.wrap ((i : Int) + (j : Int)) = (i : Int) + j := by rw [IntKind.wrap_i64]; omega
end Go.Proofs.YtfeonfihlleoeaaDoor
namespace Go.Proofs.YtfeonfihlleoeaaDoor
open Go.RowKit

theorem tw_take {α : Type} (q : α → Bool) (l : List α) : l.takeWhile q = l.take (l.takeWhile q).length := by
  have h := List.takeWhile_append_dropWhile (p := q) (l := l)
  have := List.take_left (l₁ := l.takeWhile q) (l₂ := l.dropWhile q)
  rw [h] at this
  exact this.symm
theorem dw_drop {α : Type} (q : α → Bool) (l : List α) : l.dropWhile q = l.drop (l.takeWhile q).length := by
  have h := List.takeWhile_append_dropWhile (p := q) (l := l)
  have := List.drop_left (l₁ := l.takeWhile q) (l₂ := l.dropWhile q)
  rw [h] at this
  exact this.symm
theorem posK_le (ks : List KyD) (nm : ByteArray) : posK ks nm ≤ ks.length := tw_le _ _
theorem filter_all {α : Type} {p : α → Bool} {l : List α} (h : ∀ x ∈ l, p x = true) : l.filter p = l := List.filter_eq_self.2 h
theorem hasK_no {ks : List KyD} {nm : ByteArray} (h : hasK ks nm = false) : ∀ k ∈ ks, (!decide (k.name = nm)) = true := by
  intro k hk
  unfold hasK at h
  rw [List.any_eq_false] at h
  simpa using h k hk
theorem putK_new {ks : List KyD} {nm : ByteArray} {v : List UInt8} (h : hasK ks nm = false) : putK ks nm v = ks.take (posK ks nm) ++ ⟨nm, v⟩ :: ks.drop (posK ks nm) := by
  unfold putK
  rw [filter_all fun k hk => hasK_no h k (List.mem_of_mem_drop (by rw [dw_drop] at hk; exact hk)), tw_take, dw_drop]
  rfl
theorem putK_old {ks : List KyD} {nm : ByteArray} {v : List UInt8} (hf : Fine ks) (h : hasK ks nm = true) :
    ∃ hp : posK ks nm < ks.length, (ks[posK ks nm]).name = nm ∧ putK ks nm v = ks.take (posK ks nm) ++ ⟨nm, v⟩ :: ks.drop (posK ks nm + 1) ∧ dropK ks nm = ks.take (posK ks nm) ++ ks.drop (posK ks nm + 1) := by
  have h1 : ∀ (j : Nat) k, j < posK ks nm → ks[j]? = some k → ltS k.name nm = true := fun j k hj hk => tw_get (fun k : KyD => ltS k.name nm) ks j k hj hk
  have h2 : ∀ k, ks[posK ks nm]? = some k → ltS k.name nm = false := fun k hk => tw_stop (fun k : KyD => ltS k.name nm) ks k hk
  rw [has_of hf h1 h2] at h
  have hp : posK ks nm < ks.length := by
    rcases Nat.lt_or_ge (posK ks nm) ks.length with h3 | h3
    · exact h3
    · rw [List.getElem?_eq_none h3] at h; cases h
  have hg : ks[posK ks nm]? = some ks[posK ks nm] := List.getElem?_eq_getElem hp
  rw [hg] at h
  have hn : (ks[posK ks nm]).name = nm := by simpa using h
  have hd : ks.drop (posK ks nm) = ks[posK ks nm] :: ks.drop (posK ks nm + 1) := List.drop_eq_getElem_cons hp
  have hrest : ∀ k ∈ ks.drop (posK ks nm + 1), (!decide (k.name = nm)) = true := by
    intro k hk
    obtain ⟨j, hj, rfl⟩ := List.getElem_of_mem hk
    have hj2 : posK ks nm + 1 + j < ks.length := by simp at hj; omega
    have hup := hf.up (posK ks nm) (posK ks nm + 1 + j) _ _ (by omega) hg (List.getElem?_eq_getElem hj2)
    rw [List.getElem_drop]
    rw [hn] at hup
    have hne : ¬ (ks[posK ks nm + 1 + j]).name = nm := fun e => by rw [e, ltS_irrefl] at hup; cases hup
    simpa using hne
  have hfront : ∀ k ∈ ks.take (posK ks nm), (!decide (k.name = nm)) = true := by
    intro k hk
    obtain ⟨j, hj, rfl⟩ := List.getElem_of_mem hk
    have hj2 : j < posK ks nm := by simp at hj; omega
    rw [List.getElem_take]
    have hl := h1 j _ hj2 (List.getElem?_eq_getElem (by omega))
    have hne : ¬ (ks[j]).name = nm := fun e => by rw [e, ltS_irrefl] at hl; cases hl
    simpa using hne
  refine ⟨hp, hn, ?_, ?_⟩
  · unfold putK
    rw [tw_take, dw_drop]
    show ks.take (posK ks nm) ++ _ :: (ks.drop (posK ks nm)).filter _ = _
    rw [hd, List.filter_cons]
    simp only [hn, decide_true, Bool.not_true, Bool.false_eq_true, if_false]
    rw [filter_all hrest]
  · unfold dropK
    conv => lhs; rw [← List.take_append_drop (posK ks nm) ks, List.filter_append, hd, List.filter_cons]
    simp only [hn, decide_true, Bool.not_true, Bool.false_eq_true, if_false]
    rw [filter_all hrest, filter_all hfront]
theorem dropK_none {ks : List KyD} {nm : ByteArray} (h : hasK ks nm = false) : dropK ks nm = ks := filter_all (hasK_no h)

/-! Cells -/
theorem flat_take {s : Nat} : ∀ (m : List (List Value)) (p : Nat), (∀ c ∈ m, c.length = s) → (m.take p).flatten = m.flatten.take (p * s)
  | [], p, _ => by simp
  | c :: m, 0, _ => by simp
  | c :: m, p + 1, h => by
    have hc := h c (by simp)
    have e : c.take ((p + 1) * s) = c := List.take_of_length_le (by rw [hc, Nat.add_mul]; omega)
    have e2 : (p + 1) * s - c.length = p * s := by rw [hc, Nat.add_mul]; omega
    rw [List.take_succ_cons, List.flatten_cons, flat_take m p fun c hc => h c (by simp [hc]), List.flatten_cons, List.take_append, e, e2]
theorem flat_drop {s : Nat} : ∀ (m : List (List Value)) (p : Nat), (∀ c ∈ m, c.length = s) → (m.drop p).flatten = m.flatten.drop (p * s)
  | [], p, _ => by simp
  | c :: m, 0, _ => by simp
  | c :: m, p + 1, h => by
    have hc := h c (by simp)
    have e : c.drop ((p + 1) * s) = [] := List.drop_of_length_le (by rw [hc, Nat.add_mul]; omega)
    have e2 : (p + 1) * s - c.length = p * s := by rw [hc, Nat.add_mul]; omega
    rw [List.drop_succ_cons, flat_drop m p fun c hc => h c (by simp [hc]), List.flatten_cons, List.drop_append, e, e2, List.nil_append]
theorem get_cut {α : Type} {l : List α} {y : α} {p q : Nat} (hp : p ≤ l.length) (i : Nat) (x : α) (h : (l.take p ++ y :: l.drop q)[i]? = some x) : (i < p ∧ l[i]? = some x) ∨ (i = p ∧ x = y) ∨ (p < i ∧ l[q + (i - p - 1)]? = some x) := by
  have hl : (l.take p).length = p := by simp; omega
  rcases Nat.lt_trichotomy i p with h1 | h1 | h1
  · rw [List.getElem?_append_left (by omega), List.getElem?_take, if_pos h1] at h
    exact .inl ⟨h1, h⟩
  · subst h1
    rw [List.getElem?_append_right (by omega), hl, Nat.sub_self, List.getElem?_cons_zero] at h
    exact .inr (.inl ⟨rfl, (Option.some.inj h).symm⟩)
  · rw [List.getElem?_append_right (by omega), hl, show i - p = (i - p - 1) + 1 by omega, List.getElem?_cons_succ, List.getElem?_drop] at h
    exact .inr (.inr ⟨h1, h⟩)
section
variable {α : Type} {F : Fb α} {S : Nat → Prop} {w : World} {cs : List (List Value)} {l : List α}
/-- one element in the place of those from p to q -/
theorem CI.cut (h : CI F (fun _ => S) w cs l) {p q : Nat} (hp : p ≤ l.length) {x : α} {v : Value} (hv : RB S w v (F.bytes x)) :
    CI F (fun _ => S) w (cs.take p ++ (F.front x ++ [v]) :: cs.drop q) (l.take p ++ x :: l.drop q) := by
  refine ⟨by simp [h.len], fun i y c hy hc => ?_⟩
  have hp' : p ≤ cs.length := by rw [h.len]; exact hp
  rcases get_cut hp i y hy with ⟨h1, h2⟩ | ⟨h1, h2⟩ | ⟨h1, h2⟩
  · rcases get_cut hp' i c hc with ⟨h3, h4⟩ | ⟨h3, h4⟩ | ⟨h3, h4⟩
    · exact h.at_ i y c h2 h4
    · omega
    · omega
  · rcases get_cut hp' i c hc with ⟨h3, h4⟩ | ⟨h3, h4⟩ | ⟨h3, h4⟩
    · omega
    · subst h2 h4; exact ⟨v, rfl, hv⟩
    · omega
  · rcases get_cut hp' i c hc with ⟨h3, h4⟩ | ⟨h3, h4⟩ | ⟨h3, h4⟩
    · omega
    · omega
    · exact h.at_ _ y c h2 h4
/-- those from p to q are gone -/
theorem CI.gap (h : CI F (fun _ => S) w cs l) {p q : Nat} (hp : p ≤ l.length) : CI F (fun _ => S) w (cs.take p ++ cs.drop q) (l.take p ++ l.drop q) := by
  refine ⟨by simp [h.len], fun i y c hy hc => ?_⟩
  have hp' : p ≤ cs.length := by rw [h.len]; exact hp
  rcases Nat.lt_or_ge i p with h1 | h1
  · rw [List.getElem?_append_left (by simp; omega), List.getElem?_take, if_pos h1] at hy hc
    exact h.at_ i y c hy hc
  · rw [List.getElem?_append_right (by simp; omega), List.getElem?_drop] at hy hc
    have e1 : (l.take p).length = p := by simp; omega
    have e2 : (cs.take p).length = p := by simp; omega
    rw [e1] at hy
    rw [e2] at hc
    exact h.at_ _ y c hy hc
end
theorem set_mid {α : Type} (A B : List α) (s u v : α) {p : Nat} (hA : A.length = p) : (A ++ [s, u] ++ B).set (p + 1) v = A ++ [s, v] ++ B := by
  subst hA
  rw [List.append_assoc, List.set_append_right _ _ (by omega), List.append_assoc]
  congr 1
  rw [show A.length + 1 - A.length = 1 by omega]
  rfl
end Go.Proofs.YtfeonfihlleoeaaDoor
namespace Go.Proofs.YtfeonfihlleoeaaDoor
open Go.RowKit

section
variable {P : Program}
theorem run_copy_row2 (w : World) (dT sT ty elem : TypeId) (g o dLen dCap : Nat) (a : Addr) (sLen sCap m : Nat) (cur : Array Value) (t : TypeId) (cs : List Value)
    (hu : P.underlying dT = some (.slice elem)) (hs : (P.info? elem).map (·.size) = some 2)
    (hg : w.heap[g]? = some (.cells cur t (0, 0))) (hm : m = Nat.min sLen dLen) (hn : cs.length = m * 2)
    (hsrc : ∀ j v, cs[j]? = some v → w.cell? (a.add j) = some v) (hfit : o + cs.length ≤ cur.size) (h1 : ∀ v ∈ cs, v.oneCell' = true) :
    (Builtin.copy_ #[dT, sT] ty #[.slice (some ⟨g, o, none⟩) dLen dCap, .slice (some a) sLen sCap]).run P w =
      .ok (goInt m) (w.setRow g (cur.toList.take o ++ cs ++ cur.toList.drop (o + cs.length)).toArray) := by
  have hl := run_loadCells_list (P := P) w a cs hsrc
  have hst := run_storeCells_at P g o t cs 0 cur w hg (by simpa using hfit) h1
  cases hq : P.info? elem with
  | none => simp [hq] at hs
  | some i =>
    have hi : i.size = 2 := by simpa [hq] using hs
    simp [Builtin.copy_, run_underlying hu, Builtin.lenOf, Builtin.firstCells, sizeOf, typeInfo, hq, hi, ← hm, ← hn, hl, hst]
theorem setRow_fr (w : World) (g : Nat) (cs : Array Value) : Fr (fun k => k = g) w (w.setRow g cs) :=
  ⟨rfl, rfl, rfl, by simp [World.setRow], fun k _ hn => setRow_other w g k cs hn⟩
variable {w : World} {ops : Array Oper} {rest : List Oper} {o : Oper} {a : Act} {Q : Exit → Act → World → Prop}
/-- copy, as one step: what goes over is given; only the row's block turns -/
theorem wpList_copy_fr2 (hgd : o.guard = none) (d s : Operand) (dT sT : TypeId)
    (ho : o.op = .call { callee := .builtin .copy, args := #[d, s], argTypes := #[dT, sT] }) (elem : TypeId) (hu : P.underlying dT = some (.slice elem)) (hsz : (P.info? elem).map (·.size) = some 2)
    (g off dLen dCap : Nat) (ad : Addr) (sLen sCap : Nat) (hd : a.eval d = .slice (some ⟨g, off, none⟩) dLen dCap) (hs : a.eval s = .slice (some ad) sLen sCap)
    (cur : List Value) (t : TypeId) (hg : w.heap[g]? = some (.cells cur.toArray t (0, 0))) (cs : List Value) (m : Nat) (hm : m = Nat.min sLen dLen) (hn : cs.length = m * 2)
    (hsrc : ∀ j v, cs[j]? = some v → w.cell? (ad.add j) = some v) (hfit : off + cs.length ≤ cur.length) (h1 : ∀ v ∈ cs, v.oneCell' = true)
    (h : ∀ w', Hid (w'.heap[g]? = some (.cells (splice cur off cs).toArray t (0, 0))) → Hid (Fr (fun k => k = g) w w') → wpList P ops Q rest (a.put o.dst (goInt m)) w') :
    wpList P ops Q (o :: rest) a w := by
  refine wpList_plain hgd fun K hK => ?_
  have hrun := run_copy_row2 (P := P) w dT sT o.type elem g off dLen dCap ad sLen sCap m cur.toArray t cs hu hsz hg hm hn hsrc (by simpa using hfit) h1
  unfold Oper.wp
  simp [execOp, ho, resolve, invoke, builtin, hd, hs, hrun, Result.andThen]
  exact hK _ _ (h _ (show _ = _ by simpa [splice] using setRow_heap w g _ _ t _ hg) (setRow_fr _ _ _))
/-- the same as one step of a region that draws its order -/
theorem step_copy_fr2 {K : Act → World → Prop} {E : Prop} (hgd : o.guard = none) (d s : Operand) (dT sT : TypeId)
    (ho : o.op = .call { callee := .builtin .copy, args := #[d, s], argTypes := #[dT, sT] }) (elem : TypeId) (hu : P.underlying dT = some (.slice elem)) (hsz : (P.info? elem).map (·.size) = some 2)
    (g off dLen dCap : Nat) (ad : Addr) (sLen sCap : Nat) (hd : a.eval d = .slice (some ⟨g, off, none⟩) dLen dCap) (hs : a.eval s = .slice (some ad) sLen sCap)
    (cur : List Value) (t : TypeId) (hg : w.heap[g]? = some (.cells cur.toArray t (0, 0))) (cs : List Value) (m : Nat) (hm : m = Nat.min sLen dLen) (hn : cs.length = m * 2)
    (hsrc : ∀ j v, cs[j]? = some v → w.cell? (ad.add j) = some v) (hfit : off + cs.length ≤ cur.length) (h1 : ∀ v ∈ cs, v.oneCell' = true)
    (h : ∀ w', Hid (w'.heap[g]? = some (.cells (splice cur off cs).toArray t (0, 0))) → Hid (Fr (fun k => k = g) w w') → K (a.put o.dst (goInt m)) w') :
    if Region.wanted o (yielded ops a.tmps) = true then Oper.wp P o a w K Q else E := by
  have hw : Region.wanted o (yielded ops a.tmps) = true := by simp [Region.wanted, hgd]
  rw [if_pos hw]
  have hrun := run_copy_row2 (P := P) w dT sT o.type elem g off dLen dCap ad sLen sCap m cur.toArray t cs hu hsz hg hm hn hsrc (by simpa using hfit) h1
  unfold Oper.wp
  simp [execOp, ho, resolve, invoke, builtin, hd, hs, hrun, Result.andThen]
  exact h _ (show _ = _ by simpa [splice] using setRow_heap w g _ _ t _ hg) (setRow_fr _ _ _)
end
/-! Lists -/
theorem splice_len {α : Type} (L : List α) (off : Nat) (cs : List α) (h : off + cs.length ≤ L.length) : (splice L off cs).length = L.length := length_splice L off cs h
/-- what stands from p on is moved behind m others that take its place -/
theorem ins_splice {α : Type} (L xs Y : List α) (p : Nat) (hp : p ≤ xs.length) (hx : L.take xs.length = xs) (hL : xs.length + Y.length ≤ L.length) :
    (splice (splice L (p + Y.length) (xs.drop p)) p Y).take (xs.length + Y.length) = xs.take p ++ Y ++ xs.drop p := by
  have e1 : (splice L (p + Y.length) (xs.drop p)).take p = xs.take p := by
    unfold splice
    rw [List.take_append_of_le_length (by simp; omega), List.take_take, ← hx, List.take_take]
    congr 1
    omega
  have e2 : (splice L (p + Y.length) (xs.drop p)).drop (p + Y.length) = xs.drop p ++ L.drop (p + Y.length + (xs.drop p).length) := by
    unfold splice
    rw [List.drop_append_of_le_length (by simp; omega), List.drop_of_length_le (by simp; omega), List.nil_append]
  rw [splice, e1, e2, ← List.append_assoc, ← List.append_assoc]
  rw [List.take_append_of_le_length (by simp; omega)]
  exact List.take_of_length_le (by simp; omega)
/-- .. in a new row -/
theorem new_splice {α : Type} (Z xs Y : List α) (p : Nat) (hp : p ≤ xs.length) (_hZ : Y.length + (xs.length - p) ≤ Z.length) :
    (splice (splice (xs.take p ++ Z) p Y) (p + Y.length) (xs.drop p)).take (xs.length + Y.length) = xs.take p ++ Y ++ xs.drop p := by
  have hl : (xs.take p).length = p := by simp; omega
  have e1 : splice (xs.take p ++ Z) p Y = xs.take p ++ (Y ++ Z.drop Y.length) := by
    unfold splice
    rw [List.take_append_of_le_length (by omega), List.take_of_length_le (by omega), List.drop_append, List.drop_of_length_le (by omega), List.nil_append, hl]
    congr 3
    omega
  have e2 : (xs.take p ++ (Y ++ Z.drop Y.length)).take (p + Y.length) = xs.take p ++ Y := by
    rw [← List.append_assoc, List.take_append_of_le_length (by rw [List.length_append, hl]; exact Nat.le_refl _), List.take_of_length_le (by rw [List.length_append, hl]; exact Nat.le_refl _)]
  rw [e1, splice, e2, ← List.append_assoc, List.take_append_of_le_length (by simp only [List.length_append, hl, List.length_drop]; omega)]
  exact List.take_of_length_le (by simp only [List.length_append, hl, List.length_drop]; omega)
end Go.Proofs.YtfeonfihlleoeaaDoor
namespace Go.Proofs.YtfeonfihlleoeaaDoor
open Go.RowKit Go.WideShapes Go.Lib

/-- what slices.Insert leaves: a row of the call's own -/
def InsR (base n : Nat) (v : Value) (xs Y : List Value) (p : Nat) (w : World) (e : Ending) (w' : World) : Prop :=
  ∃ v', e = .returned v' ∧ w'.ownsRow base 51 2 v' (n + 1) (xs.take p ++ Y ++ xs.drop p) ∧ Fr (fun k => some k = v.ownBlock) w w' ∧ (v'.ownBlock = v.ownBlock ∨ ∃ g, v'.ownBlock = some g ∧ w.heap.size ≤ g)
theorem hsz2 : (Tryd.prog.info? 51).map (·.size) = some 2 := by kernel_rfl
theorem key_size (w : World) : (Go.sizeOf 51).run Tryd.prog w = .ok 2 w := by kernel_rfl
theorem zc_size (z : Array Value) (k : Nat) (h : z.size = 2) : (Builtin.zeroCells z k).size = k * 2 := by simp [Builtin.zeroCells, h]
theorem two_cells {w : World} {vb : Nat} {x y : Value} (hv : w.heap[vb]? = some (.cells #[x, y] 51 (0, 0))) : ∀ j v, ([x, y] : List Value)[j]? = some v → w.cell? ((⟨vb, 0, none⟩ : Addr).add j) = some v := by
  intro j v hj
  rw [WideShapes.add_plain, Nat.zero_add, (blk_cell hv).1]
  simpa using hj
theorem two_one {x y : Value} (h1x : x.oneCell' = true) (h1y : y.oneCell' = true) : ∀ v ∈ ([x, y] : List Value), v.oneCell' = true := by
  intro v hv
  simp at hv
  rcases hv with rfl | rfl
  · exact h1x
  · exact h1y
theorem fr_grown {w w' : World} {row : Option Nat} (h : w.grownBy w' row) : Fr (fun k => some k = row) w w' :=
  ⟨h.os, h.tape, h.output, h.size, fun k hk hn => h.block k hk hn⟩
end Go.Proofs.YtfeonfihlleoeaaDoor
namespace Go.Proofs.YtfeonfihlleoeaaDoor
open Go.RowKit Go.WideShapes Go.Lib

section
variable {P : Program}
/-- append where there is room, elements of two cells, the row known whole; one step of a region that draws its order -/
theorem step_append_fr2 {ops : Array Oper} {o : Oper} {a : Act} {w : World} {K : Act → World → Prop} {Q : Exit → Act → World → Prop} {E : Prop}
    (hgd : o.guard = none) (s x : Operand) (t : TypeId) (hop : o.op = Op.call { callee := Callee.builtin Builtin.append, args := #[s, x], argTypes := #[t, t] })
    (e : TypeId) (i : TypeInfo) (h1 : P.underlying t = some (.slice e)) (h2 : P.info? e = some i) (h4 : i.size = 2)
    (g n cap : Nat) (hs : a.eval s = .slice (some ⟨g, 0, none⟩) n cap)
    (ad : Addr) (m c : Nat) (news : List Value) (hx : a.eval x = .slice (some ad) m c) (hn : news.length = m * 2) (hc : ∀ j u, news[j]? = some u → w.cell? (ad.add j) = some u) (h1c : ∀ u ∈ news, u.oneCell' = true)
    (hroom : n + m ≤ cap) (cur : List Value) (tt : TypeId) (hg : w.heap[g]? = some (.cells cur.toArray tt (0, 0))) (hfit : n * 2 + news.length ≤ cur.length)
    (hK : ∀ w', Hid (w'.heap[g]? = some (.cells (splice cur (n * 2) news).toArray tt (0, 0))) → Hid (Fr (fun k => k = g) w w') → K (a.put o.dst (.slice (some ⟨g, 0, none⟩) (n + m) cap)) w') :
    if Region.wanted o (yielded ops a.tmps) = true then Oper.wp P o a w K Q else E := by
  have hw : Region.wanted o (yielded ops a.tmps) = true := by simp [Region.wanted, hgd]
  rw [if_pos hw]
  have hfc := run_firstCells_some (P := P) w 2 m ad m c news hn hc
  have hst := run_storeCells_at P g (n * 2) tt news 0 cur.toArray w hg (by simpa using hfit) h1c
  simp only [Nat.add_zero] at hst
  have hrun : (Builtin.append_ #[t, t] o.type #[.slice (some ⟨g, 0, none⟩) n cap, .slice (some ad) m c]).run P w = .ok (.slice (some ⟨g, 0, none⟩) (n + m) cap) (w.setRow g (cur.take (n * 2) ++ news ++ cur.drop (n * 2 + news.length)).toArray) := by
    simp [Builtin.append_, run_underlying h1, sizeOf, typeInfo, h2, h4, Builtin.lenOf, hroom, hfc, Addr.add_lit, hst]
  unfold Oper.wp
  simp [execOp, hop, resolve, invoke, builtin, hs, hx, hrun, Result.andThen]
  exact hK _ (show _ = _ by simpa [splice] using setRow_heap w g _ _ tt _ hg) (setRow_fr _ _ _)
theorem run_clear_fr2 (w : World) (t e ty : TypeId) (z : Value) (ht : P.underlying t = some (.slice e)) (hv : ∀ w, (zeroValue e).run P w = .ok z w) (hz : z.cells.size = 2) (h1 : ∀ v ∈ (Builtin.zeroCells z.cells 1).toList, v.oneCell' = true) (g o c : Nat) (cur : List Value) (tt : TypeId)
    (hg : w.heap[g]? = some (.cells cur.toArray tt (0, 0))) (hfit : o + 2 ≤ cur.length) :
    (Builtin.clear_ #[t] ty #[.slice (some ⟨g, o, none⟩) 1 c]).run P w = .ok (.tuple #[]) (w.setRow g (splice cur o (Builtin.zeroCells z.cells 1).toList).toArray) := by
  have hl : (Builtin.zeroCells z.cells 1).toList.length = 2 := by rw [Array.length_toList, zc_size _ _ hz]
  have hst := run_storeCells_at P g o tt (Builtin.zeroCells z.cells 1).toList 0 cur.toArray w hg (by rw [hl]; simpa using hfit) h1
  simp only [Nat.add_zero] at hst
  simp only [splice, ← List.append_assoc]
  simp [Builtin.clear_, run_underlying ht, hv, hst]
end
theorem zero_key (w : World) : (zeroValue 51).run Tryd.prog w = .ok (.agg #[.string ByteArray.empty, .slice none 0 0]) w := by kernel_rfl
theorem del_splice {α : Type} (L xs Z : List α) (p q : Nat) (hpq : p ≤ q) (hq : q ≤ xs.length) (hx : L.take xs.length = xs) (hL : xs.length ≤ L.length) (hz : Z.length ≤ q - p) :
    (splice (splice L p (xs.drop q)) (xs.length - (q - p)) Z).take (xs.length - (q - p)) = xs.take p ++ xs.drop q := by
  have e1 : (splice L p (xs.drop q)).take (xs.length - (q - p)) = xs.take p ++ xs.drop q := by
    unfold splice
    have e : L.take p = xs.take p := by rw [← hx, List.take_take]; congr 1; omega
    rw [e, ← List.append_assoc, List.take_append_of_le_length (by simp; omega)]
    exact List.take_of_length_le (by simp; omega)
  have hll : (splice L p (xs.drop q)).length = L.length := splice_len _ _ _ (by simp; omega)
  rw [splice, List.take_append_of_le_length (by rw [List.length_take, hll]; omega), List.take_take, Nat.min_self, e1]
theorem zc_list : (Builtin.zeroCells (Value.agg #[.string ByteArray.empty, .slice none 0 0]).cells 1).toList = [.string ByteArray.empty, .slice none 0 0] := by kernel_rfl
theorem zc_one : ∀ v ∈ (Builtin.zeroCells (Value.agg #[.string ByteArray.empty, .slice none 0 0]).cells 1).toList, v.oneCell' = true := by
  rw [zc_list]
  intro v hv
  simp at hv
  rcases hv with rfl | rfl <;> rfl
def DelR (base g n c : Nat) (xs : List Value) (i : Nat) (w : World) (e : Ending) (w' : World) : Prop :=
  e = .returned (.slice (some ⟨g, 0, none⟩) (n - 1) c) ∧ w'.ownsRow base 51 2 (.slice (some ⟨g, 0, none⟩) (n - 1) c) (n - 1) (xs.take (i * 2) ++ xs.drop ((i + 1) * 2)) ∧ Fr (fun k => k = g) w w'
end Go.Proofs.YtfeonfihlleoeaaDoor
namespace Go.Proofs.YtfeonfihlleoeaaDoor
open Go.RowKit Go.Extern.Stop Go.Stop Go.Extern

theorem valueOfE (x : Int) (w : World) : (ReflectliteValue.unpack (.iface 29 (.int .i64 x))).run Tryd.prog w
    = .ok (.agg #[.pointer (some ⟨6, 29, none⟩), .pointer (some ⟨w.heap.size, 0, none⟩), .int .u64 130]) (w.alloc (.cells #[.int .i64 x] 29)) := by kernel_rfl
theorem kindE (w : World) : ((ReflectliteType.abiMethod fun t => (fun a : Nat => Value.int IntKind.u8 (a : Int)) <$> Rtype.kind t) #[.pointer (some ⟨6, 29, none⟩)]).run Tryd.prog w = .ok (.int .u8 2) w := by kernel_rfl
theorem rlm (z : Sem Value) (f : TypeId → Addr → Nat → Nat → Sem Value) (v : Value) :
    ReflectliteValue.method z f #[v] = (do match ← ReflectliteValue.parts v with | none => z | some (t, a, fl) => f t a fl (fl % 32)) := rfl
theorem mkE (p : Addr) (w : World) : (ReflectliteValue.mk 29 p ReflectliteValue.flagAddr).run Tryd.prog w = .ok (.agg #[.pointer (some ⟨6, 29, none⟩), .pointer (some p), .int .u64 386]) w := by kernel_rfl
theorem rls (v x : Value) : ReflectliteValue.set #[v, x] = (do
    let (some (dst, a, fl), some (src, b, _)) := (← ReflectliteValue.parts v, ← ReflectliteValue.parts x)
      | unsupported (.noEntry "extern/(internal/reflectlite.Value).Set.zeroValue")
    if fl / ReflectliteValue.flagAddr % 2 == 0 then unsupported (.noEntry "extern/(internal/reflectlite.Value).Set.unaddressable")
    let val ← loadVar src b
    if ← Rtype.directlyAssignable dst src then storeVar dst a val
    else if ← Rtype.implements dst src then
      if (← Rtype.kind src) == 20 then
        match val with
        | .nilIface => unsupported (.noEntry "extern/reflectlite: a nil value of one interface type handed on as a value of another")
        | _ => storeVar dst a val
      else storeVar dst a (.iface src val)
    else panicString ("reflectlite.Set: value of type " ++ (← Rtype.spelt src) ++ " is not assignable to type " ++ (← Rtype.spelt dst))
    pure (.tuple #[])) := rfl
theorem partsEa (a : Addr) (w : World) : (ReflectliteValue.parts (.agg #[.pointer (some ⟨6, 29, none⟩), .pointer (some a), .int .u64 386])).run Tryd.prog w = .ok (some (29, a, 386)) w := by kernel_rfl
theorem partsE (a : Addr) (w : World) : (ReflectliteValue.parts (.agg #[.pointer (some ⟨6, 29, none⟩), .pointer (some a), .int .u64 130])).run Tryd.prog w = .ok (some (29, a, 130)) w := by kernel_rfl
theorem directE (w : World) : (Rtype.directlyAssignable 29 29).run Tryd.prog w = .ok true w := by kernel_rfl
theorem setE (ta b : Addr) (x : Int) (old : Value) (W : World) (hb : W.cell? b = some (.int .i64 x)) (ht : W.cell? ta = some old) (hf : W.frozen? ta = false) :
    (ReflectliteValue.set #[.agg #[.pointer (some ⟨6, 29, none⟩), .pointer (some ta), .int .u64 386], .agg #[.pointer (some ⟨6, 29, none⟩), .pointer (some b), .int .u64 130]]).run Tryd.prog W
      = .ok (.tuple #[]) (W.setCell ta (.int .i64 x)) := by
  rw [rls]
  simp only [Sem.run_bind, partsEa, partsE, Result.andThen]
  simp [ReflectliteValue.flagAddr, loadVar, isAgg, underlying, Tryd.underlying29, hb, Result.andThen, directE, storeVar, Value.cells, storeCells, Addr.add]
  rw [run_store Tryd.prog W ta _ _ (by rfl)]
  simp [ht, hf]
end Go.Proofs.YtfeonfihlleoeaaDoor
