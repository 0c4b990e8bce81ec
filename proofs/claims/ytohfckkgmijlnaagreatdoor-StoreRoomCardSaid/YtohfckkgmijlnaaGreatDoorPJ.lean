/- The handle of the type error, out of the row's listed variables; a world that meets them. Maps with strings as keys that the program makes, as rising lists of keys and values: what stores, deletes, look-ups and lengths do. No program is named. -/
import Derived.Test.YtohfckkgmijlnaaGreatDoorPA
import Derived.Test.YtohfckkgmijlnaaGreatDoorPI
import Derived.LaidHandle
import Derived.LaidSub
import Derived.LaidLaws
import Derived.Maps.OwnSet
import Derived.Maps.RangeWalk
import Derived.StringKeys
namespace Go.Proofs.YtohfckkgmijlnaaGreatDoor
open Go.ChangeShapes Go.WideShapes Go.ChangeAt Go.RowKit

theorem et_named : Tryz.prog.globalNamed "errors.errorType" = some 0 := by kernel_rfl
theorem rt_found : (Tryz.prog.cutTypes.find? (·.1 == "internal/reflectlite.rtype")).map (·.2) = some 126 := by kernel_rfl
theorem oneRow : ((List.range 232).filter fun t => Tryz.prog.rowNamed t [101, 114, 114, 111, 114]) = [83] := by kernel_rfl
theorem types_size : Tryz.prog.types.size = 232 := by kernel_rfl
theorem errT_of_laid {W : World} (h : laidMetH Tryz.prog Rows.storePlaysRow.laid W) : ErrT W := by
  have h2 := (laidMetH_iff.1 h).2
  obtain ⟨name, u, ty, e1, e2, e3, e4, e5⟩ := h2 ("errors.errorType", Rows.laid_errors_errorType) (List.mem_filter.2 ⟨by simp [Rows.storePlaysRow], rfl⟩)
  have en : name = [101, 114, 114, 111, 114] := (Option.some.inj e1).symm
  subst en
  obtain rfl := Option.some.inj (rt_found.symm.trans e2)
  have hm : ty ∈ (List.range 232).filter fun t => Tryz.prog.rowNamed t [101, 114, 114, 111, 114] := List.mem_filter.2 ⟨List.mem_range.2 (by rw [← types_size]; exact e3), e4⟩
  rw [oneRow] at hm
  obtain rfl := List.mem_singleton.1 hm
  have hh : typeHandle Tryz.prog 83 = .pointer (some ⟨4, 83, none⟩) := by kernel_rfl
  rw [hh] at e5
  show W.cell? _ = _
  simpa using World.var?_cell et_named e5 0

/-- a world that meets the listed variables -/
noncomputable def wH0 (os : Os) : World :=
  let w0 := World.holding Tryz.prog os ⟨#[], #[], []⟩
  { w0 with heap := w0.heap.modify 0 fun
      | .cells _ t frozen => .cells #[.iface 126 (.agg #[.pointer (some ⟨4, 83, none⟩)])] t frozen
      | o => o }
noncomputable def plainLaid : List (String × DataW Unit) := Rows.storePlaysRow.laid.filter fun x => x.2.handleName?.isNone
noncomputable def wH (os : Os) : World := (wH0 os).layVars Tryz.prog plainLaid
theorem wH_os (os : Os) : (wH os).os = os := World.layVars_os _ _ _
theorem wH_met (os : Os) (args : Array Value) : laidMetH Tryz.prog Rows.storePlaysRow.laid ((wH os).forCall (fun _ _ => 0) ⟨#[], args, []⟩).memory := by
  have e1 : (plainLaid.filter fun x => (plainLaid.map (·.1)).contains x.1) = plainLaid := List.filter_eq_self.2 fun x hx => List.contains_iff_mem.2 (List.mem_map.2 ⟨x, hx, rfl⟩)
  have e2 : (plainLaid.filter fun x => !(plainLaid.map (·.1)).contains x.1) = [] := List.filter_eq_nil_iff.2 fun x hx => by rw [List.contains_iff_mem.2 (List.mem_map.2 ⟨x, hx, rfl⟩)]; simp
  have h : laidMet Tryz.prog plainLaid (wH os) := laidMet_layVars (w0 := wH0 os) (plainLaid.map (·.1)) [] (by rw [e1]; rfl) (by rw [e1]; kernel_rfl) (by rw [e1]; kernel_rfl) (by rw [e2]; exact LaidIn.none)
  exact laidMetH_of_parts (h.of_heap (by simp [World.memory, World.forCall, Input.heap])) (by kernel_rfl)
end Go.Proofs.YtohfckkgmijlnaaGreatDoor
namespace Go.Proofs.YtohfckkgmijlnaaGreatDoor
open Go.RowKit Go.Maps Go.WideShapes

abbrev SV := List (ByteArray × Value)
def heldS (v : Value) : Option (DataW Value × List MemPlace) := some (.held v, [])
/-- one string ahead of another -/
def lessS (a b : ByteArray) : Bool := bytesBefore a.data.toList b.data.toList
theorem ba_key {a b : ByteArray} (h : a.data.toList = b.data.toList) : a = b := by
  cases a; cases b; simp at h; rw [h]
theorem lessS_irrefl (a : ByteArray) : lessS a a = false := WideAt.bytes_irrefl _
theorem lessS_trans {a b c : ByteArray} (h : lessS a b = true) (h2 : lessS b c = true) : lessS a c = true := bytes_trans _ _ _ h h2
theorem lessS_total {a b : ByteArray} (h : a ≠ b) : lessS a b = true ∨ lessS b a = true := WideAt.bytes_total _ _ fun e => h (ba_key e)
theorem lessS_ne {a b : ByteArray} (h : lessS a b = true) : a ≠ b := fun e => by rw [e, lessS_irrefl] at h; cases h
def entS (p : ByteArray × Value) : Lit × DataW Value := (.string p.1.data.toList, .held p.2)
def sdat (l : SV) : DataW Value := .map (l.map entS)
def insS {β : Type} (p : ByteArray × β) : List (ByteArray × β) → List (ByteArray × β)
  | [] => [p]
  | q :: r => if lessS p.1 q.1 then p :: q :: r else q :: insS p r
def delS {β : Type} (k : ByteArray) (l : List (ByteArray × β)) : List (ByteArray × β) := l.filter fun p => !decide (p.1 = k)
def putS {β : Type} (k : ByteArray) (v : β) (l : List (ByteArray × β)) : List (ByteArray × β) := insS (k, v) (delS k l)
def getS {β : Type} (k : ByteArray) (l : List (ByteArray × β)) : Option β := (l.find? fun p => decide (p.1 = k)).map (·.2)
def okS (k : ByteArray) : Prop := k.size ≤ maxLen

theorem entS_same (p : ByteArray × Value) (k : ByteArray) : (entS p).1.sameKey (.string k.data.toList) = decide (p.1 = k) := by
  simp only [entS, Lit.sameKey]
  by_cases h : p.1 = k
  · simp [h]
  · have h2 : ¬ p.1.data.toList = k.data.toList := fun e => h (ba_key e)
    have e1 : (p.1.data.toList == k.data.toList) = false := by simpa using h2
    rw [e1, decide_eq_false h]
theorem sdat_del (l : SV) (k : ByteArray) : (sdat l).del (.string k.data.toList) = sdat (delS k l) := by
  simp only [sdat, DataW.del, delS, List.filter_map]
  congr 2
  exact List.filter_congr fun p _ => by simp [entS_same]
theorem insert_entS (p : ByteArray × Value) (l : SV) : DataW.insert (entS p) (l.map entS) = (insS p l).map entS := by
  induction l with
  | nil => rfl
  | cons q r ih =>
    simp only [List.map_cons, DataW.insert, insS]
    have : (entS p).1.before (entS q).1 = lessS p.1 q.1 := rfl
    rw [this]
    by_cases h : lessS p.1 q.1 = true
    · simp [h]
    · simp [h, ih]
theorem sdat_put (l : SV) (k : ByteArray) (v : Value) : (sdat l).put (.string k.data.toList) (.held v) = sdat (putS k v l) := by
  have := sdat_del l k
  simp only [sdat, DataW.del, DataW.map.injEq] at this
  simp only [sdat, DataW.put, putS]
  rw [this]
  exact congrArg _ (insert_entS (k, v) _)
theorem sdat_has (l : SV) (k : ByteArray) : Maps.has (sdat l) (.string k.data.toList) = (getS k l).isSome := by
  simp only [sdat, Maps.has_eq, List.any_map, getS, Option.isSome_map]
  rw [List.isSome_find?]
  congr 1
  funext p
  exact entS_same p k
theorem sdat_size (l : SV) : Maps.size (sdat l) = l.length := by simp [sdat, Maps.size]
theorem sdat_at (l : SV) (k : ByteArray) (z : Value) : (sdat l).atKey (.string k.data.toList) (.held z) = .held ((getS k l).getD z) := by
  simp only [sdat, DataW.atKey, getS]
  have : (l.map entS).find? (fun p => p.1.sameKey (.string k.data.toList)) = (l.find? fun p => decide (p.1 = k)).map entS := by
    rw [List.find?_map]
    rw [show ((fun p : Lit × DataW Value => p.1.sameKey (.string k.data.toList)) ∘ entS) = fun p => decide (p.1 = k) from funext fun p => entS_same p k]
  rw [this]
  cases l.find? fun p => decide (p.1 = k) <;> simp [entS]

section
variable {β : Type}
theorem insS_mem {p x : ByteArray × β} {l : List (ByteArray × β)} : x ∈ insS p l ↔ x = p ∨ x ∈ l := by
  induction l with
  | nil => simp [insS]
  | cons q r ih =>
    simp only [insS]
    split
    · simp
    · simp only [List.mem_cons, ih]
      constructor
      · rintro (h | h | h) <;> simp [h]
      · rintro (h | h | h) <;> simp [h]
abbrev UpS {β : Type} (l : List (ByteArray × β)) : Prop := l.Pairwise (fun p q => lessS p.1 q.1 = true)
theorem insS_up {p : ByteArray × β} {l : List (ByteArray × β)} (h : UpS l) (hp : ∀ q ∈ l, q.1 ≠ p.1) : UpS (insS p l) := by
  induction l with
  | nil => simp [insS, UpS]
  | cons q r ih =>
    have hq := List.pairwise_cons.1 h
    simp only [insS]
    split
    · rename_i hlt
      refine List.pairwise_cons.2 ⟨?_, h⟩
      intro x hx
      rcases List.mem_cons.1 hx with rfl | hx
      · exact hlt
      · exact lessS_trans hlt (hq.1 x hx)
    · rename_i hlt
      refine List.pairwise_cons.2 ⟨?_, ih hq.2 (fun x hx => hp x (by simp [hx]))⟩
      intro x hx
      rcases insS_mem.1 hx with rfl | hx
      · exact (lessS_total (hp q (by simp))).resolve_right (by simpa using hlt)
      · exact hq.1 x hx
theorem delS_up {k : ByteArray} {l : List (ByteArray × β)} (h : UpS l) : UpS (delS k l) := h.filter _
theorem delS_mem {k : ByteArray} {l : List (ByteArray × β)} {x : ByteArray × β} : x ∈ delS k l ↔ x ∈ l ∧ x.1 ≠ k := by simp [delS]
theorem putS_up {k : ByteArray} {v : β} {l : List (ByteArray × β)} (h : UpS l) : UpS (putS k v l) := insS_up (delS_up h) fun _q hq => (delS_mem.1 hq).2
theorem putS_mem {k : ByteArray} {v : β} {l : List (ByteArray × β)} {x : ByteArray × β} : x ∈ putS k v l ↔ x = (k, v) ∨ x ∈ l ∧ x.1 ≠ k := by rw [putS, insS_mem, delS_mem]
theorem insS_length (p : ByteArray × β) (l : List (ByteArray × β)) : (insS p l).length = l.length + 1 := by
  induction l with
  | nil => rfl
  | cons q r ih => simp only [insS]; split <;> simp [ih]

/-- two rows, datum by datum -/
inductive Rel2 {α γ : Type} (R : α → γ → Prop) : List α → List γ → Prop
  | nil : Rel2 R [] []
  | cons {a : α} {b : γ} {l : List α} {m : List γ} : R a b → Rel2 R l m → Rel2 R (a :: l) (b :: m)
end
section
variable {β γ : Type} {R : β → γ → Prop}
/-- keys alike, what is kept by R -/
abbrev RelS (R : β → γ → Prop) (l : List (ByteArray × β)) (m : List (ByteArray × γ)) : Prop := Rel2 (fun x y => x.1 = y.1 ∧ R x.2 y.2) l m
theorem Rel2.len {α γ : Type} {R : α → γ → Prop} {l : List α} {m : List γ} (h : Rel2 R l m) : l.length = m.length := by
  induction h with
  | nil => rfl
  | cons _ _ ih => simp [ih]
theorem Rel2.mono {α γ : Type} {R R' : α → γ → Prop} {l : List α} {m : List γ} (h : Rel2 R l m) (hr : ∀ a b, a ∈ l → b ∈ m → R a b → R' a b) : Rel2 R' l m := by
  induction h with
  | nil => exact .nil
  | cons h1 _ ih => exact .cons (hr _ _ (by simp) (by simp) h1) (ih fun a b ha hb => hr a b (by simp [ha]) (by simp [hb]))
theorem RelS.keys {l : List (ByteArray × β)} {m : List (ByteArray × γ)} (h : RelS R l m) : l.map (·.1) = m.map (·.1) := by
  induction h with
  | nil => rfl
  | cons h1 _ ih => simp [h1.1, ih]
theorem RelS.ins {l : List (ByteArray × β)} {m : List (ByteArray × γ)} {k : ByteArray} {v : β} {y : γ} (h : RelS R l m) (hv : R v y) : RelS R (insS (k, v) l) (insS (k, y) m) := by
  induction h with
  | nil => exact .cons ⟨rfl, hv⟩ .nil
  | @cons a b l m h1 h2 ih =>
    simp only [insS, h1.1]
    by_cases hk : lessS k b.1 = true
    · simp only [hk, if_true]
      exact .cons ⟨rfl, hv⟩ (.cons h1 h2)
    · simp only [hk, if_false, Bool.false_eq_true]
      exact .cons h1 ih
theorem RelS.del {l : List (ByteArray × β)} {m : List (ByteArray × γ)} (k : ByteArray) (h : RelS R l m) : RelS R (delS k l) (delS k m) := by
  induction h with
  | nil => exact .nil
  | @cons a b l m h1 h2 ih =>
    unfold delS at ih ⊢
    simp only [List.filter_cons, h1.1]
    split
    · exact .cons h1 ih
    · exact ih
theorem RelS.put {l : List (ByteArray × β)} {m : List (ByteArray × γ)} {k : ByteArray} {v : β} {y : γ} (h : RelS R l m) (hv : R v y) : RelS R (putS k v l) (putS k y m) := (h.del k).ins hv
theorem RelS.get {l : List (ByteArray × β)} {m : List (ByteArray × γ)} (k : ByteArray) (h : RelS R l m) : (getS k l = none ∧ getS k m = none) ∨ ∃ v y, getS k l = some v ∧ getS k m = some y ∧ R v y := by
  induction h with
  | nil => exact .inl ⟨rfl, rfl⟩
  | @cons a b l m h1 h2 ih =>
    unfold getS at ih ⊢
    simp only [List.find?_cons, h1.1]
    by_cases hk : b.1 = k
    · simp only [hk, decide_true]
      exact .inr ⟨_, _, rfl, rfl, h1.2⟩
    · simp only [hk, decide_false]
      exact ih
end

section
variable {P : Program} {K : TypeId}
theorem own_sizeS {H : Type} {k : TypeId} {R : Value → Option (DataW H × List MemPlace)} {w : World} {b n : Nat} {D : DataW H} (h : w.ownsMap P k R b n D) : w.ownsMap P k R b (Maps.size D) D := by
  obtain ⟨es, clock, hb, F, _, rfl⟩ := h
  exact ⟨es, clock, hb, F, by simp [Maps.size, length_read], rfl⟩

structure MapS (P : Program) (K : TypeId) (w : World) (b : Nat) (l : SV) : Prop where
  own : w.ownsMap P K heldS b l.length (sdat l)
  up : UpS l
  ok : ∀ p ∈ l, okS p.1

theorem MapS.of {w : World} {b n : Nat} {l : SV} (h : w.ownsMap P K heldS b n (sdat l)) (hu : UpS l) (ho : ∀ p ∈ l, okS p.1) : MapS P K w b l :=
  ⟨by have := own_sizeS h; rwa [sdat_size] at this, hu, ho⟩
theorem MapS.block {w w' : World} {b : Nat} {l : SV} (h : MapS P K w b l) (hb : w'.heap[b]? = w.heap[b]?) : MapS P K w' b l := by
  obtain ⟨⟨es, clock, hh, r⟩, hu, ho⟩ := h
  exact ⟨⟨es, clock, hb.trans hh, r⟩, hu, ho⟩
theorem MapS.lt {w : World} {b : Nat} {l : SV} (h : MapS P K w b l) : b < w.heap.size := by
  obtain ⟨⟨es, clock, hh, r⟩, hu, ho⟩ := h
  exact (Array.getElem?_eq_some_iff.1 hh).1
theorem MapS.made (w : World) : MapS P K (w.alloc (.map #[] 0)) w.heap.size [] :=
  ⟨World.ownsMap_made _ _ _ _, List.Pairwise.nil, fun p h => by simp at h⟩

variable (hk : P.underlying K = some .string)
include hk
theorem keyS {k : ByteArray} (hok : okS k) : keyOf P K (.string k) = some (.string k.data.toList) := by
  exact WideMaps.keyOf_string_mk hk hok
theorem MapS.look {w : World} {b : Nat} {l : SV} (h : MapS P K w b l) {t e : TypeId} (ht : P.underlying t = some (.map K e)) {z : Value} (hz : (zeroValue e).run P w = .ok z w) {k : ByteArray} (hok : okS k) :
    (Instr.lookup t (.map (some b)) (.string k) false).run P w = .ok ((getS k l).getD z) w := by
  obtain ⟨⟨es, clock, hb, F, _, hD⟩, hu, ho⟩ := h
  have hat := sdat_at l k z
  rw [hD] at hat
  rcases Maps.fit_look false (string_keyed hk) ht hz hb F (keyS hk hok) with ⟨h1, _, h3⟩ | ⟨e0, y, _, _, h1, h2, h3, _⟩
  · rw [h3] at hat
    simp only [DataW.held.injEq] at hat
    rw [← hat]
    exact h1
  · rw [h3] at hat
    simp only [heldS, Option.some.injEq] at h2
    rw [← h2] at hat
    simp only [DataW.held.injEq] at hat
    rw [← hat]
    exact h1
theorem MapS.lookOk {w : World} {b : Nat} {l : SV} (h : MapS P K w b l) {t e : TypeId} (ht : P.underlying t = some (.map K e)) {z : Value} (hz : (zeroValue e).run P w = .ok z w) {k : ByteArray} (hok : okS k) :
    (Instr.lookup t (.map (some b)) (.string k) true).run P w = .ok (.tuple #[(getS k l).getD z, .bool (getS k l).isSome]) w := by
  obtain ⟨v, ps, h1, h2⟩ := h.own.look_ok (string_keyed hk) ht hz (zd := .held z) (zp := []) rfl (keyS hk hok)
  rw [sdat_at] at h2
  simp only [heldS, Option.some.injEq, Prod.mk.injEq, DataW.held.injEq] at h2
  rw [h1, sdat_has, h2.1]
omit hk in
theorem MapS.len {w : World} {b : Nat} {l : SV} (h : MapS P K w b l) {t e : TypeId} (ht : P.underlying t = some (.map K e)) (ty : TypeId) : (Builtin.len_ #[t] ty #[.map (some b)]).run P w = .ok (.int .i64 l.length) w := by
  have := h.own.len ht ty
  rwa [sdat_size] at this
theorem MapS.del {w : World} {b : Nat} {l : SV} (h : MapS P K w b l) {t e : TypeId} (ht : P.underlying t = some (.map K e)) {k : ByteArray} (hok : okS k) (ty : TypeId) :
    ∃ w', (Builtin.delete_ #[t, K] ty #[.map (some b), .string k]).run P w = .ok (.tuple #[]) w' ∧ MapS P K w' b (delS k l) ∧ w.mapTurned w' b := by
  obtain ⟨w', h1, h2, h3⟩ := h.own.drop (string_keyed hk) ht (keyS hk hok) ty
  rw [sdat_del] at h2
  exact ⟨w', h1, .of h2 (delS_up h.up) (fun p hp => h.ok p (delS_mem.1 hp).1), h3⟩
theorem MapS.put {w : World} {b : Nat} {l : SV} (h : MapS P K w b l) {t e : TypeId} (ht : P.underlying t = some (.map K e)) (hn : l.length < maxLen) {k : ByteArray} (hok : okS k) (v : Value) :
    ∃ w', (Instr.mapUpdate t (.map (some b)) (.string k) v).run P w = .ok () w' ∧ MapS P K w' b (putS k v l) ∧ w.mapTurned w' b := by
  obtain ⟨w', h1, h2, h3⟩ := h.own.store (string_keyed hk) ht hn (keyS hk hok) (val := v) (d := .held v) (ps := []) rfl
  rw [sdat_put] at h2
  exact ⟨w', h1, .of h2 (putS_up h.up) (fun p hp => by rcases putS_mem.1 hp with rfl | hp; exact hok; exact h.ok p hp.1), h3⟩
end
end Go.Proofs.YtohfckkgmijlnaaGreatDoor
