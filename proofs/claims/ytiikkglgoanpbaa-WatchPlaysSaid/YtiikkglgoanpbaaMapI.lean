/- Maps with integer keys that the program makes, as rising lists of keys and values: what stores, deletes, look-ups and lengths do. No program is named. -/
import Derived.Test.YtiikkglgoanpbaaAfter
import Derived.Maps.OwnSet
import Derived.Maps.RangeWalk
namespace Go.Proofs.Ytiikkglgoanpbaa
open Go.RowKit Go.Maps Go.WideShapes

abbrev IV := List (Int × Value)
def heldR (v : Value) : Option (DataW Value × List MemPlace) := some (.held v, [])
def ent (p : Int × Value) : Lit × DataW Value := (.int .i64 p.1, .held p.2)
def mdat (l : IV) : DataW Value := .map (l.map ent)
def insI (p : Int × Value) : IV → IV
  | [] => [p]
  | q :: r => if p.1 < q.1 then p :: q :: r else q :: insI p r
def delI (k : Int) (l : IV) : IV := l.filter fun p => !(p.1 == k)
def putI (k : Int) (v : Value) (l : IV) : IV := insI (k, v) (delI k l)
def getI (k : Int) (l : IV) : Option Value := (l.find? fun p => p.1 == k).map (·.2)
def okI (k : Int) : Prop := (Lit.int .i64 k).wf = true

theorem ent_same (p : Int × Value) (k : Int) : (ent p).1.sameKey (.int .i64 k) = (p.1 == k) := by
  simp only [ent, Lit.sameKey, true_and]
  by_cases h : p.1 = k <;> simp [h]
theorem mdat_del (l : IV) (k : Int) : (mdat l).del (.int .i64 k) = mdat (delI k l) := by
  simp only [mdat, DataW.del, delI, List.filter_map]
  congr 2
  exact List.filter_congr fun p _ => by simp [ent_same]
theorem insert_ent (p : Int × Value) (l : IV) : DataW.insert (ent p) (l.map ent) = (insI p l).map ent := by
  induction l with
  | nil => rfl
  | cons q r ih =>
    simp only [List.map_cons, DataW.insert, insI]
    have : (ent p).1.before (ent q).1 = decide (p.1 < q.1) := rfl
    rw [this]
    by_cases h : p.1 < q.1
    · simp [h]
    · simp [h, ih]
theorem mdat_put (l : IV) (k : Int) (v : Value) : (mdat l).put (.int .i64 k) (.held v) = mdat (putI k v l) := by
  have := mdat_del l k
  simp only [mdat, DataW.del, DataW.map.injEq] at this
  simp only [mdat, DataW.put, putI]
  rw [this]
  exact congrArg _ (insert_ent (k, v) _)
theorem mdat_has (l : IV) (k : Int) : Maps.has (mdat l) (.int .i64 k) = (getI k l).isSome := by
  simp only [mdat, Maps.has_eq, List.any_map, getI, Option.isSome_map]
  rw [List.isSome_find?]
  congr 1
  funext p
  exact ent_same p k
theorem mdat_size (l : IV) : Maps.size (mdat l) = l.length := by simp [mdat, Maps.size]
theorem mdat_at (l : IV) (k : Int) (z : Value) : (mdat l).atKey (.int .i64 k) (.held z) = .held ((getI k l).getD z) := by
  simp only [mdat, DataW.atKey, getI]
  have : (l.map ent).find? (fun p => p.1.sameKey (.int .i64 k)) = (l.find? fun p => p.1 == k).map ent := by
    rw [List.find?_map]
    rw [show ((fun p : Lit × DataW Value => p.1.sameKey (.int .i64 k)) ∘ ent) = fun p => p.1 == k from funext fun p => ent_same p k]
  rw [this]
  cases l.find? fun p => p.1 == k <;> simp [ent]

theorem insI_mem {p x : Int × Value} {l : IV} : x ∈ insI p l ↔ x = p ∨ x ∈ l := by
  induction l with
  | nil => simp [insI]
  | cons q r ih =>
    simp only [insI]
    split
    · simp
    · simp only [List.mem_cons, ih]
      constructor
      · rintro (h | h | h) <;> simp [h]
      · rintro (h | h | h) <;> simp [h]
abbrev Up (l : IV) : Prop := l.Pairwise (fun p q => p.1 < q.1)
theorem insI_up {p : Int × Value} {l : IV} (h : Up l) (hp : ∀ q ∈ l, q.1 ≠ p.1) : Up (insI p l) := by
  induction l with
  | nil => simp [insI, Up]
  | cons q r ih =>
    have hq := List.pairwise_cons.1 h
    simp only [insI]
    split
    · rename_i hlt
      refine List.pairwise_cons.2 ⟨?_, h⟩
      intro x hx
      rcases List.mem_cons.1 hx with rfl | hx
      · exact hlt
      · have := hq.1 x hx; omega
    · rename_i hlt
      refine List.pairwise_cons.2 ⟨?_, ih hq.2 (fun x hx => hp x (by simp [hx]))⟩
      intro x hx
      rcases insI_mem.1 hx with rfl | hx
      · have := hp q (by simp); omega
      · exact hq.1 x hx
theorem delI_up {k : Int} {l : IV} (h : Up l) : Up (delI k l) := h.filter _
theorem delI_mem {k : Int} {l : IV} {x : Int × Value} : x ∈ delI k l ↔ x ∈ l ∧ x.1 ≠ k := by simp [delI]
theorem putI_up {k : Int} {v : Value} {l : IV} (h : Up l) : Up (putI k v l) := insI_up (delI_up h) fun q hq => (delI_mem.1 hq).2
theorem putI_mem {k : Int} {v : Value} {l : IV} {x : Int × Value} : x ∈ putI k v l ↔ x = (k, v) ∨ x ∈ l ∧ x.1 ≠ k := by rw [putI, insI_mem, delI_mem]
theorem insI_length (p : Int × Value) (l : IV) : (insI p l).length = l.length + 1 := by
  induction l with
  | nil => rfl
  | cons q r ih => simp only [insI]; split <;> simp [ih]

section
variable {P : Program} {K : TypeId}
theorem own_size {H : Type} {k : TypeId} {R : Value → Option (DataW H × List MemPlace)} {w : World} {b n : Nat} {D : DataW H} (h : w.ownsMap P k R b n D) : w.ownsMap P k R b (Maps.size D) D := by
  obtain ⟨es, clock, hb, F, _, rfl⟩ := h
  exact ⟨es, clock, hb, F, by simp [Maps.size, length_read], rfl⟩

structure MapI (P : Program) (K : TypeId) (w : World) (b : Nat) (l : IV) : Prop where
  own : w.ownsMap P K heldR b l.length (mdat l)
  up : Up l
  ok : ∀ p ∈ l, okI p.1

theorem MapI.of {w : World} {b n : Nat} {l : IV} (h : w.ownsMap P K heldR b n (mdat l)) (hu : Up l) (ho : ∀ p ∈ l, okI p.1) : MapI P K w b l :=
  ⟨by have := own_size h; rwa [mdat_size] at this, hu, ho⟩
theorem MapI.block {w w' : World} {b : Nat} {l : IV} (h : MapI P K w b l) (hb : w'.heap[b]? = w.heap[b]?) : MapI P K w' b l := by
  obtain ⟨⟨es, clock, hh, r⟩, hu, ho⟩ := h
  exact ⟨⟨es, clock, hb.trans hh, r⟩, hu, ho⟩
theorem MapI.lt {w : World} {b : Nat} {l : IV} (h : MapI P K w b l) : b < w.heap.size := by
  obtain ⟨⟨es, clock, hh, r⟩, hu, ho⟩ := h
  exact (Array.getElem?_eq_some_iff.1 hh).1
theorem MapI.made (w : World) : MapI P K (w.alloc (.map #[] 0)) w.heap.size [] :=
  ⟨World.ownsMap_made _ _ _ _, List.Pairwise.nil, fun p h => by simp at h⟩

variable (hk : P.underlying K = some (.int .i64))
include hk
theorem keyI {k : Int} (hok : okI k) : keyOf P K (.int .i64 k) = some (.int .i64 k) := by
  exact keyOf_int_mk hk hok
theorem MapI.look {w : World} {b : Nat} {l : IV} (h : MapI P K w b l) {t e : TypeId} (ht : P.underlying t = some (.map K e)) {z : Value} (hz : (zeroValue e).run P w = .ok z w) {k : Int} (hok : okI k) :
    (Instr.lookup t (.map (some b)) (.int .i64 k) false).run P w = .ok ((getI k l).getD z) w := by
  obtain ⟨⟨es, clock, hb, F, _, hD⟩, hu, ho⟩ := h
  have hat := mdat_at l k z
  rw [hD] at hat
  rcases Maps.fit_look false (int_keyed hk) ht hz hb F (keyI hk hok) with ⟨h1, _, h3⟩ | ⟨e0, y, _, _, h1, h2, h3, _⟩
  · rw [h3] at hat
    simp only [DataW.held.injEq] at hat
    rw [← hat]
    exact h1
  · rw [h3] at hat
    simp only [heldR, Option.some.injEq] at h2
    rw [← h2] at hat
    simp only [DataW.held.injEq] at hat
    rw [← hat]
    exact h1
theorem MapI.lookOk {w : World} {b : Nat} {l : IV} (h : MapI P K w b l) {t e : TypeId} (ht : P.underlying t = some (.map K e)) {z : Value} (hz : (zeroValue e).run P w = .ok z w) {k : Int} (hok : okI k) :
    (Instr.lookup t (.map (some b)) (.int .i64 k) true).run P w = .ok (.tuple #[(getI k l).getD z, .bool (getI k l).isSome]) w := by
  obtain ⟨v, ps, h1, h2⟩ := h.own.look_ok (int_keyed hk) ht hz (zd := .held z) (zp := []) rfl (keyI hk hok)
  rw [mdat_at] at h2
  simp only [heldR, Option.some.injEq, Prod.mk.injEq, DataW.held.injEq] at h2
  rw [h1, mdat_has, h2.1]
omit hk in
theorem MapI.len {w : World} {b : Nat} {l : IV} (h : MapI P K w b l) {t e : TypeId} (ht : P.underlying t = some (.map K e)) (ty : TypeId) : (Builtin.len_ #[t] ty #[.map (some b)]).run P w = .ok (.int .i64 l.length) w := by
  have := h.own.len ht ty
  rwa [mdat_size] at this
theorem MapI.del {w : World} {b : Nat} {l : IV} (h : MapI P K w b l) {t e : TypeId} (ht : P.underlying t = some (.map K e)) {k : Int} (hok : okI k) (ty : TypeId) :
    ∃ w', (Builtin.delete_ #[t, K] ty #[.map (some b), .int .i64 k]).run P w = .ok (.tuple #[]) w' ∧ MapI P K w' b (delI k l) ∧ w.mapTurned w' b := by
  obtain ⟨w', h1, h2, h3⟩ := h.own.drop (int_keyed hk) ht (keyI hk hok) ty
  rw [mdat_del] at h2
  exact ⟨w', h1, .of h2 (delI_up h.up) (fun p hp => h.ok p (delI_mem.1 hp).1), h3⟩
theorem MapI.put {w : World} {b : Nat} {l : IV} (h : MapI P K w b l) {t e : TypeId} (ht : P.underlying t = some (.map K e)) (hn : l.length < maxLen) {k : Int} (hok : okI k) (v : Value) :
    ∃ w', (Instr.mapUpdate t (.map (some b)) (.int .i64 k) v).run P w = .ok () w' ∧ MapI P K w' b (putI k v l) ∧ w.mapTurned w' b := by
  obtain ⟨w', h1, h2, h3⟩ := h.own.store (int_keyed hk) ht hn (keyI hk hok) (val := v) (d := .held v) (ps := []) rfl
  rw [mdat_put] at h2
  exact ⟨w', h1, .of h2 (putI_up h.up) (fun p hp => by rcases putI_mem.1 hp with rfl | hp; exact hok; exact h.ok p hp.1), h3⟩
end
end Go.Proofs.Ytiikkglgoanpbaa
