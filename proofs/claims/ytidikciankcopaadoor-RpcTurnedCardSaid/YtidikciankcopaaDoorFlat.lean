/- Rows of data whose last cell is a row of bytes: how they are cloned. No program is named. -/
import Derived.Test.YtidikciankcopaaDoorData
import Derived.OwnWalk
import Derived.Laws.OwnMore
namespace Go.Proofs.YtidikciankcopaaDoor
open Go.RowKit

theorem flat_get {s : Nat} : ∀ (m : List (List Value)) (i : Nat) (hi : i < m.length), (∀ c ∈ m, c.length = s) → ∀ j, j < s → m.flatten[i * s + j]? = m[i][j]? := by
  intro m
  induction m with
  | nil => intro i hi; simp at hi
  | cons c m ih =>
    intro i hi hall j hj
    have hc := hall c (by simp)
    cases i with
    | zero => simp [List.getElem?_append_left (by rw [hc]; exact hj)]
    | succ i =>
      have := ih i (by simpa using hi) (fun c hc => hall c (by simp [hc])) j hj
      rw [List.flatten_cons, List.getElem?_append_right (by rw [hc, Nat.add_mul]; omega), hc]
      rw [show (i + 1) * s + j - s = i * s + j by rw [Nat.add_mul]; omega]
      simpa using this
theorem flat_set {s : Nat} : ∀ (m : List (List Value)) (i : Nat) (hi : i < m.length), (∀ c ∈ m, c.length = s) → ∀ j, j < s → ∀ v, m.flatten.set (i * s + j) v = (m.set i (m[i].set j v)).flatten := by
  intro m
  induction m with
  | nil => intro i hi; simp at hi
  | cons c m ih =>
    intro i hi hall j hj v
    have hc := hall c (by simp)
    cases i with
    | zero => simp [List.set_append_left _ _ (by rw [hc]; exact hj)]
    | succ i =>
      have := ih i (by simpa using hi) (fun c hc => hall c (by simp [hc])) j hj v
      rw [List.flatten_cons, List.set_append_right _ _ (by rw [hc, Nat.add_mul]; omega), hc]
      rw [show (i + 1) * s + j - s = i * s + j by rw [Nat.add_mul]; omega]
      simpa using this

/-- data with a row of bytes in the last cell -/
structure Fb (α : Type) where
  E : Enc α
  front : α → List Value
  bytes : α → List UInt8
  rd : ∀ A w cs x, E.rd A w cs x ↔ ∃ v, cs = front x ++ [v] ∧ RB A w v (bytes x)
  len : ∀ x, (front x).length + 1 = E.size
def Fb.op : Fb OpD where
  E := Enc.op
  front := fun x => [.int .i64 x.kind, .int .i64 x.off, .int .i64 x.n, .string x.name]
  bytes := fun x => x.data
  rd := fun _ _ _ _ => Iff.rfl
  len := fun _ => rfl
def Fb.key : Fb KyD where
  E := Enc.key
  front := fun x => [.string x.name]
  bytes := fun x => x.value
  rd := fun _ _ _ _ => Iff.rfl
  len := fun _ => rfl
/-- the cells of a row of such data: the bytes of the element i lie in the blocks of X i -/
structure CI {α : Type} (F : Fb α) (X : Nat → Nat → Prop) (w : World) (cs : List (List Value)) (l : List α) : Prop where
  len : cs.length = l.length
  at_ : ∀ (i : Nat) (x : α) (c : List Value), l[i]? = some x → cs[i]? = some c → ∃ v, c = F.front x ++ [v] ∧ RB (X i) w v (F.bytes x)
namespace CI
variable {α : Type} {F : Fb α} {X Y : Nat → Nat → Prop} {w w' : World} {cs : List (List Value)} {l : List α}
theorem same (h : CI F X w cs l) (hs : ∀ i, Same (X i) w w') : CI F X w' cs l :=
  ⟨h.len, fun i x c hx hc => by obtain ⟨v, e, hv⟩ := h.at_ i x c hx hc; exact ⟨v, e, hv.mono (hs i)⟩⟩
theorem weak (h : CI F X w cs l) (hs : ∀ i b, i < l.length → b < w.heap.size → X i b → Y i b) : CI F Y w cs l :=
  ⟨h.len, fun i x c hx hc => by obtain ⟨v, e, hv⟩ := h.at_ i x c hx hc; exact ⟨v, e, hv.weak fun b hb => hs i b (List.getElem?_eq_some_iff.1 hx).1 hb⟩⟩
theorem lens (h : CI F X w cs l) : ∀ c ∈ cs, c.length = F.E.size := by
  intro c hc
  obtain ⟨k, hk, rfl⟩ := List.getElem_of_mem hc
  obtain ⟨v, e, _⟩ := h.at_ k (l[k]'(h.len ▸ hk)) cs[k] (by simp [h.len ▸ hk]) (by simp [hk])
  rw [e, ← F.len (l[k]'(h.len ▸ hk))]
  simp
theorem flat_len (h : CI F X w cs l) : cs.flatten.length = l.length * F.E.size := by
  have : ∀ (m : List (List Value)), (∀ c ∈ m, c.length = F.E.size) → m.flatten.length = m.length * F.E.size := by
    intro m
    induction m with
    | nil => intro _; simp
    | cons c m ih =>
      intro hm
      rw [List.flatten_cons, List.length_append, ih (fun c hc => hm c (by simp [hc])), hm c (by simp), List.length_cons, Nat.add_mul]
      omega
  rw [this cs h.lens, h.len]
/-- the last cell of the element i -/
theorem last (h : CI F X w cs l) {i : Nat} (hi : i < l.length) : ∃ v, cs.flatten[i * F.E.size + (F.E.size - 1)]? = some v ∧ RB (X i) w v (F.bytes l[i]) := by
  have hi' : i < cs.length := h.len ▸ hi
  obtain ⟨v, e, hv⟩ := h.at_ i l[i] cs[i] (by simp [hi]) (by simp [hi'])
  refine ⟨v, ?_, hv⟩
  have hl := F.len l[i]
  rw [flat_get cs i hi' h.lens _ (by omega), e, ← hl]
  simp
/-- other bytes in the element i -/
theorem put (h : CI F X w cs l) {i : Nat} (hi : i < l.length) {v : Value} (hv : RB (Y i) w v (F.bytes l[i])) (hY : ∀ j, j ≠ i → j < l.length → ∀ b, X j b → Y j b) :
    ∃ cs', cs'.flatten = cs.flatten.set (i * F.E.size + (F.E.size - 1)) v ∧ CI F Y w cs' l := by
  have hi' : i < cs.length := h.len ▸ hi
  have hl := F.len l[i]
  refine ⟨cs.set i (cs[i].set (F.E.size - 1) v), (flat_set cs i hi' h.lens _ (by omega) v).symm, by simpa using h.len, fun j x c hx hc => ?_⟩
  by_cases hj : j = i
  · subst hj
    obtain ⟨u, e, _⟩ := h.at_ j l[j] cs[j] (by simp [hi]) (by simp [hi'])
    obtain rfl : l[j] = x := by simpa [hi] using hx
    obtain rfl : cs[j].set (F.E.size - 1) v = c := by simpa [hi'] using hc
    refine ⟨v, ?_, hv⟩
    rw [e, ← hl]
    simp
  · have hc' : cs[j]? = some c := by rwa [List.getElem?_set_ne (fun e => hj e.symm)] at hc
    obtain ⟨u, e, hu⟩ := h.at_ j x c hx hc'
    exact ⟨u, e, hu.weak fun b _ => hY j hj (List.getElem?_eq_some_iff.1 hx).1 b⟩
/-- read whole again -/
theorem whole {A : Nat → Prop} {v : Value} (h : CI F X w cs l) (hX : ∀ i b, i < l.length → b < w.heap.size → X i b → A b) (hs : SlA A w F.E.size v l.length cs.flatten) : SlE F.E A w v l :=
  SlE.of_flat h.len (fun i x c hx hc => (F.rd _ _ _ _).2 (by
    obtain ⟨u, e, hu⟩ := h.at_ i x c hx hc
    exact ⟨u, e, hu.weak fun b hb => hX i b (List.getElem?_eq_some_iff.1 hx).1 hb⟩)) hs
theorem one (h : CI F X w cs l) : ∀ u ∈ cs.flatten, u.oneCell' = true := by
  intro u hu
  obtain ⟨c, hc, hu⟩ := List.mem_flatten.1 hu
  obtain ⟨k, hk, rfl⟩ := List.getElem_of_mem hc
  obtain ⟨v, e, hv⟩ := h.at_ k (l[k]'(h.len ▸ hk)) cs[k] (by simp [h.len ▸ hk]) (by simp [hk])
  exact F.E.one ((F.rd (X k) w _ _).2 ⟨v, e, hv⟩) u hu
end CI
theorem SlE.cells {α : Type} {F : Fb α} {A : Nat → Prop} {w : World} {v : Value} {l : List α} (h : SlE F.E A w v l) : ∃ cs, CI F (fun _ => A) w cs l ∧ SlA A w F.E.size v l.length cs.flatten := by
  obtain ⟨cs, h1, h2, h3⟩ := h.flat
  exact ⟨cs, ⟨h1, fun i x c hx hc => (F.rd _ _ _ _).1 (h2 i x c hx hc)⟩, h3⟩
theorem owns_set {w : World} {base size g cap n : Nat} {e : TypeId} {xs : List Value} (h : w.ownsRow base e size (.slice (some ⟨g, 0, none⟩) n cap) n xs) (j : Nat) (u : Value) :
    (w.setCell ⟨g, j, none⟩ u).ownsRow base e size (.slice (some ⟨g, 0, none⟩) n cap) n (xs.set j u) := (h.stored j u).1
end Go.Proofs.YtidikciankcopaaDoor
