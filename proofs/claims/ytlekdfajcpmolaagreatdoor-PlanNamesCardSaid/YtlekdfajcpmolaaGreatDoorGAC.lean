/- Rows of data whose last cell is a row of bytes: how they are cloned. No program is named. The walks of bytes.Clone, slices.Clone at keys and at ops. The walks of object.right and of what asks whether a name may be. Objects and ops, plainly: the order of names, what may be, what is read, what an op does. No program is named. The walk of object.Check, at any object. What a law is handed, opened as data: numbers, texts, rows of bytes, ops, transactions, requests, objects, replies. -/
import Derived.Test.YtlekdfajcpmolaaGreatDoorGAB
import Derived.OwnWalk
import Derived.Laws.OwnMore
import Derived.Test.YtlekdfajcpmolaaGreatDoorLaidS
import Derived.Deep.DeepCutAuto
import Derived.Lib.Bytealg
import Derived.Test.YtlekdfajcpmolaaGreatDoorGAA
import Derived.Deep.Slices
import Derived.Lib.SmallJoins
namespace Go.Proofs.YtlekdfajcpmolaaGreatDoor
open Go.RowKit

theorem flat_get {s : Nat} : ∀ (m : List (List Value)) (i : Nat) (hi : i < m.length), (∀ c ∈ m, c.length = s) → ∀ j, j < s → m.flatten[i * s + j]? = m[i][j]? := by
  intro m
  induction m with
  | nil => intro i hi; simp at hi
  | cons c m ih =>
    intro i hi hall j hj
    have hc := hall c (by simp)
    cases i with
    | zero => simp [List.getElem?_append_left (by rw [hc]; exact hj)]
    | succ i =>
      have := ih i (by simpa using hi) (fun c hc => hall c (by simp [hc])) j hj
      rw [List.flatten_cons, List.getElem?_append_right (by rw [hc, Nat.add_mul]; omega), hc]
      rw [show (i + 1) * s + j - s = i * s + j by rw [Nat.add_mul]; omega]
      simpa using this
theorem flat_set {s : Nat} : ∀ (m : List (List Value)) (i : Nat) (hi : i < m.length), (∀ c ∈ m, c.length = s) → ∀ j, j < s → ∀ v, m.flatten.set (i * s + j) v = (m.set i (m[i].set j v)).flatten := by
  intro m
  induction m with
  | nil => intro i hi; simp at hi
  | cons c m ih =>
    intro i hi hall j hj v
    have hc := hall c (by simp)
    cases i with
    | zero => simp [List.set_append_left _ _ (by rw [hc]; exact hj)]
    | succ i =>
      have := ih i (by simpa using hi) (fun c hc => hall c (by simp [hc])) j hj v
      rw [List.flatten_cons, List.set_append_right _ _ (by rw [hc, Nat.add_mul]; omega), hc]
      rw [show (i + 1) * s + j - s = i * s + j by rw [Nat.add_mul]; omega]
      simpa using this

/-- data with a row of bytes in the last cell -/
structure Fb (α : Type) where
  E : Enc α
  front : α → List Value
  bytes : α → List UInt8
  rd : ∀ A w cs x, E.rd A w cs x ↔ ∃ v, cs = front x ++ [v] ∧ RB A w v (bytes x)
  len : ∀ x, (front x).length + 1 = E.size
def Fb.op : Fb OpD where
  E := Enc.op
  front := fun x => [.int .i64 x.kind, .int .i64 x.off, .int .i64 x.n, .string x.name]
  bytes := fun x => x.data
  rd := fun _ _ _ _ => Iff.rfl
  len := fun _ => rfl
def Fb.key : Fb KyD where
  E := Enc.key
  front := fun x => [.string x.name]
  bytes := fun x => x.value
  rd := fun _ _ _ _ => Iff.rfl
  len := fun _ => rfl
/-- the cells of a row of such data: the bytes of the element i lie in the blocks of X i -/
structure CI {α : Type} (F : Fb α) (X : Nat → Nat → Prop) (w : World) (cs : List (List Value)) (l : List α) : Prop where
  len : cs.length = l.length
  at_ : ∀ (i : Nat) (x : α) (c : List Value), l[i]? = some x → cs[i]? = some c → ∃ v, c = F.front x ++ [v] ∧ RB (X i) w v (F.bytes x)
namespace CI
variable {α : Type} {F : Fb α} {X Y : Nat → Nat → Prop} {w w' : World} {cs : List (List Value)} {l : List α}
theorem same (h : CI F X w cs l) (hs : ∀ i, Same (X i) w w') : CI F X w' cs l :=
  ⟨h.len, fun i x c hx hc => by obtain ⟨v, e, hv⟩ := h.at_ i x c hx hc; exact ⟨v, e, hv.mono (hs i)⟩⟩
theorem weak (h : CI F X w cs l) (hs : ∀ i b, i < l.length → b < w.heap.size → X i b → Y i b) : CI F Y w cs l :=
  ⟨h.len, fun i x c hx hc => by obtain ⟨v, e, hv⟩ := h.at_ i x c hx hc; exact ⟨v, e, hv.weak fun b hb => hs i b (List.getElem?_eq_some_iff.1 hx).1 hb⟩⟩
theorem lens (h : CI F X w cs l) : ∀ c ∈ cs, c.length = F.E.size := by
  intro c hc
  obtain ⟨k, hk, rfl⟩ := List.getElem_of_mem hc
  obtain ⟨v, e, _⟩ := h.at_ k (l[k]'(h.len ▸ hk)) cs[k] (by simp [h.len ▸ hk]) (by simp [hk])
  rw [e, ← F.len (l[k]'(h.len ▸ hk))]
  simp
/-- the last cell of the element i -/
theorem last (h : CI F X w cs l) {i : Nat} (hi : i < l.length) : ∃ v, cs.flatten[i * F.E.size + (F.E.size - 1)]? = some v ∧ RB (X i) w v (F.bytes l[i]) := by
  have hi' : i < cs.length := h.len ▸ hi
  obtain ⟨v, e, hv⟩ := h.at_ i l[i] cs[i] (by simp [hi]) (by simp [hi'])
  refine ⟨v, ?_, hv⟩
  have hl := F.len l[i]
  rw [flat_get cs i hi' h.lens _ (by omega), e, ← hl]
  simp
/-- other bytes in the element i -/
theorem put (h : CI F X w cs l) {i : Nat} (hi : i < l.length) {v : Value} (hv : RB (Y i) w v (F.bytes l[i])) (hY : ∀ j, j ≠ i → j < l.length → ∀ b, X j b → Y j b) :
    ∃ cs', cs'.flatten = cs.flatten.set (i * F.E.size + (F.E.size - 1)) v ∧ CI F Y w cs' l := by
  have hi' : i < cs.length := h.len ▸ hi
  have hl := F.len l[i]
  refine ⟨cs.set i (cs[i].set (F.E.size - 1) v), (flat_set cs i hi' h.lens _ (by omega) v).symm, by simpa using h.len, fun j x c hx hc => ?_⟩
  by_cases hj : j = i
  · subst hj
    obtain ⟨u, e, _⟩ := h.at_ j l[j] cs[j] (by simp [hi]) (by simp [hi'])
    obtain rfl : l[j] = x := by simpa [hi] using hx
    obtain rfl : cs[j].set (F.E.size - 1) v = c := by simpa [hi'] using hc
    refine ⟨v, ?_, hv⟩
    rw [e, ← hl]
    simp
  · have hc' : cs[j]? = some c := by rwa [List.getElem?_set_ne (fun e => hj e.symm)] at hc
    obtain ⟨u, e, hu⟩ := h.at_ j x c hx hc'
    exact ⟨u, e, hu.weak fun b _ => hY j hj (List.getElem?_eq_some_iff.1 hx).1 b⟩
/-- read whole again -/
theorem whole {A : Nat → Prop} {v : Value} (h : CI F X w cs l) (hX : ∀ i b, i < l.length → b < w.heap.size → X i b → A b) (hs : SlA A w F.E.size v l.length cs.flatten) : SlE F.E A w v l :=
  SlE.of_flat h.len (fun i x c hx hc => (F.rd _ _ _ _).2 (by
    obtain ⟨u, e, hu⟩ := h.at_ i x c hx hc
    exact ⟨u, e, hu.weak fun b hb => hX i b (List.getElem?_eq_some_iff.1 hx).1 hb⟩)) hs
theorem one (h : CI F X w cs l) : ∀ u ∈ cs.flatten, u.oneCell' = true := by
  intro u hu
  obtain ⟨c, hc, hu⟩ := List.mem_flatten.1 hu
  obtain ⟨k, hk, rfl⟩ := List.getElem_of_mem hc
  obtain ⟨v, e, hv⟩ := h.at_ k (l[k]'(h.len ▸ hk)) cs[k] (by simp [h.len ▸ hk]) (by simp [hk])
  exact F.E.one ((F.rd (X k) w _ _).2 ⟨v, e, hv⟩) u hu
end CI
theorem SlE.cells {α : Type} {F : Fb α} {A : Nat → Prop} {w : World} {v : Value} {l : List α} (h : SlE F.E A w v l) : ∃ cs, CI F (fun _ => A) w cs l ∧ SlA A w F.E.size v l.length cs.flatten := by
  obtain ⟨cs, h1, h2, h3⟩ := h.flat
  exact ⟨cs, ⟨h1, fun i x c hx hc => (F.rd _ _ _ _).1 (h2 i x c hx hc)⟩, h3⟩
theorem owns_set {w : World} {base size g cap n : Nat} {e : TypeId} {xs : List Value} (h : w.ownsRow base e size (.slice (some ⟨g, 0, none⟩) n cap) n xs) (j : Nat) (u : Value) :
    (w.setCell ⟨g, j, none⟩ u).ownsRow base e size (.slice (some ⟨g, 0, none⟩) n cap) n (xs.set j u) := (h.stored j u).1
end Go.Proofs.YtlekdfajcpmolaaGreatDoor
namespace Go.Proofs.YtlekdfajcpmolaaGreatDoor
open Go.RowKit

theorem infoOp : (Tryz.prog.info? 47).map (fun i => (i.zero, i.size, i.bytes)) = some (some (.agg #[.int .i64 0, .int .i64 0, .int .i64 0, .string ByteArray.empty, .slice none 0 0]), 5, 64) := by kernel_rfl
end Go.Proofs.YtlekdfajcpmolaaGreatDoor
namespace Go.Proofs.YtlekdfajcpmolaaGreatDoor
open Go.RowKit Go.WideShapes

/-- the signs of a name -/
def nameSigns : List UInt8 := [97, 98, 99, 100, 101, 102, 103, 104, 105, 106, 107, 108, 109, 110, 111, 112, 113, 114, 115, 116, 117, 118, 119, 120, 121, 122, 48, 49, 50, 51, 52, 53, 54, 55, 56, 57, 46]
def nameB (s : ByteArray) : Bool := decide (1 ≤ s.size) && decide (s.size ≤ 12) && decide (Lib.trimS s.data.toList nameSigns = [])
end Go.Proofs.YtlekdfajcpmolaaGreatDoor
namespace Go.Proofs.YtlekdfajcpmolaaGreatDoor
open Go.RowKit

/-! The order of texts -/
theorem bl_irrefl : ∀ a : List UInt8, Op.bytesLess a a = false
  | [] => rfl
  | a :: l => by simp [Op.bytesLess, bl_irrefl l]
theorem bl_trans : ∀ a b c : List UInt8, Op.bytesLess a b = true → Op.bytesLess b c = true → Op.bytesLess a c = true
  | _, [], _, h, _ => by cases ‹List UInt8› <;> simp [Op.bytesLess] at h
  | _, _ :: _, [], _, h => by simp [Op.bytesLess] at h
  | [], _ :: _, _ :: _, _, _ => rfl
  | a :: x, b :: y, c :: z, h, k => by
    simp only [Op.bytesLess, Bool.or_eq_true, decide_eq_true_eq, Bool.and_eq_true, beq_iff_eq] at h k ⊢
    rcases h with h | ⟨rfl, h⟩
    · rcases k with k | ⟨rfl, k⟩
      · exact .inl (UInt8.lt_trans h k)
      · exact .inl h
    · rcases k with k | ⟨rfl, k⟩
      · exact .inl k
      · exact .inr ⟨rfl, bl_trans _ _ _ h k⟩
theorem bl_tri : ∀ a b : List UInt8, Op.bytesLess a b = false → Op.bytesLess b a = false → a = b
  | [], [], _, _ => rfl
  | [], _ :: _, h, _ => by simp [Op.bytesLess] at h
  | _ :: _, [], _, h => by simp [Op.bytesLess] at h
  | a :: x, b :: y, h, k => by
    simp only [Op.bytesLess, Bool.or_eq_false_iff, decide_eq_false_iff_not, Bool.and_eq_false_iff] at h k
    have e : a = b := UInt8.le_antisymm (UInt8.not_lt.1 k.1) (UInt8.not_lt.1 h.1)
    subst e
    rw [bl_tri x y (by simpa using h.2) (by simpa using k.2)]
def ltS (a b : ByteArray) : Bool := Op.bytesLess a.toList b.toList
theorem ltS_irrefl (a : ByteArray) : ltS a a = false := bl_irrefl _
theorem ltS_trans {a b c : ByteArray} (h : ltS a b = true) (k : ltS b c = true) : ltS a c = true := bl_trans _ _ _ h k
theorem ba_ext {a b : ByteArray} (h : a.toList = b.toList) : a = b := by
  rw [Lib.toList_data, Lib.toList_data] at h
  exact ByteArray.ext (Array.toList_inj.1 h)
theorem ltS_tri {a b : ByteArray} (h : ltS a b = false) (k : ltS b a = false) : a = b := ba_ext (bl_tri _ _ h k)
/-! What may be -/
def keyB (k : KyD) : Bool := nameB k.name && decide (k.value.length ≤ 2048)
def ordB (ks : List KyD) : Nat → Bool
  | 0 => true
  | i + 1 => match ks[i]?, ks[i + 1]? with
    | some a, some b => ltS a.name b.name
    | _, _ => true
def chkAt (ks : List KyD) (i : Nat) : Bool := match ks[i]? with
  | none => true
  | some k => keyB k && ordB ks i
def chkTo (ks : List KyD) : Nat → Bool
  | 0 => true
  | k + 1 => chkTo ks k && chkAt ks k
def headB (o : ObD) : Bool := decide ((o.data.length : Int) ≤ 64) && decide ((o.keys.length : Int) ≤ 120) && decide (0 ≤ o.seq) && decide (o.seq ≤ 1099511627776)
def mayB (o : ObD) : Bool := headB o && chkTo o.keys o.keys.length

theorem chkTo_at {ks : List KyD} {n : Nat} (h : chkTo ks n = true) : ∀ i, i < n → chkAt ks i = true := by
  induction n with
  | zero => intro i hi; omega
  | succ n ih =>
    intro i hi
    simp only [chkTo, Bool.and_eq_true] at h
    by_cases e : i = n
    · subst e; exact h.2
    · exact ih h.1 i (by omega)
theorem chkTo_of {ks : List KyD} {n : Nat} (h : ∀ i, i < n → chkAt ks i = true) : chkTo ks n = true := by
  induction n with
  | zero => rfl
  | succ n ih => simp [chkTo, ih fun i hi => h i (by omega), h n (by omega)]
/-- what may be: its parts -/
structure Fine (ks : List KyD) : Prop where
  key : ∀ (i : Nat) k, ks[i]? = some k → nameB k.name = true ∧ k.value.length ≤ 2048
  up : ∀ (i j : Nat) a b, i < j → ks[i]? = some a → ks[j]? = some b → ltS a.name b.name = true
theorem fine_of {ks : List KyD} (h : chkTo ks ks.length = true) : Fine ks := by
  have hk : ∀ (i : Nat) k, ks[i]? = some k → keyB k = true ∧ ordB ks i = true := fun i k hi => by
    have h1 := chkTo_at h i (List.getElem?_eq_some_iff.1 hi).1
    simpa [chkAt, hi] using h1
  refine ⟨fun i k hi => by simpa [keyB] using (hk i k hi).1, ?_⟩
  have hs : ∀ (d i : Nat) a b, ks[i]? = some a → ks[i + d + 1]? = some b → ltS a.name b.name = true := by
    intro d
    induction d with
    | zero =>
      intro i a b ha hb
      have := (hk _ b hb).2
      simpa [ordB, ha, hb] using this
    | succ d ih =>
      intro i a b ha hb
      have hlt : i + d + 1 < ks.length := by
        have := (List.getElem?_eq_some_iff.1 hb).1
        omega
      have hc : ks[i + d + 1]? = some ks[i + d + 1] := by simp [hlt]
      have h2 : ltS (ks[i + d + 1]).name b.name = true := by
        have := (hk _ b hb).2
        have e : i + (d + 1) + 1 = (i + d + 1) + 1 := by omega
        rw [e] at hb this
        simpa [ordB, hc, hb] using this
      exact ltS_trans (ih i a _ ha hc) h2
  intro i j a b hij ha hb
  obtain ⟨d, rfl⟩ : ∃ d, j = i + d + 1 := ⟨j - i - 1, by omega⟩
  exact hs d i a b ha hb
theorem fine_to {ks : List KyD} (h : Fine ks) : chkTo ks ks.length = true := by
  refine chkTo_of fun i hi => ?_
  have hi' : ks[i]? = some ks[i] := by simp [hi]
  have h1 := h.key i _ hi'
  simp only [chkAt, hi', Bool.and_eq_true]
  refine ⟨by simp [keyB, h1.1, h1.2], ?_⟩
  cases i with
  | zero => rfl
  | succ i => 
    have ha : ks[i]? = some ks[i] := List.getElem?_eq_getElem (by omega)
    simp only [ordB, ha, hi']
    exact h.up i (i + 1) _ _ (by omega) ha hi'
theorem mayB_iff (o : ObD) : mayB o = true ↔ o.data.length ≤ 64 ∧ o.keys.length ≤ 120 ∧ 0 ≤ o.seq ∧ o.seq ≤ 1099511627776 ∧ Fine o.keys := by
  unfold mayB headB
  simp only [Bool.and_eq_true, decide_eq_true_eq]
  constructor
  · rintro ⟨⟨⟨⟨h1, h2⟩, h3⟩, h4⟩, h5⟩; exact ⟨by omega, by omega, h3, h4, fine_of h5⟩
  · rintro ⟨h1, h2, h3, h4, h5⟩; exact ⟨⟨⟨⟨by omega, by omega⟩, h3⟩, h4⟩, fine_to h5⟩

/-! What is read -/
def getD (ks : List KyD) (nm : ByteArray) : Option (List UInt8) := (ks.find? fun k => decide (k.name = nm)).map (·.value)
def hasK (ks : List KyD) (nm : ByteArray) : Bool := ks.any fun k => decide (k.name = nm)
/-- the key begins as nm does, and is not ahead of it -/
def fromB (nm : ByteArray) (k : KyD) : Bool := !ltS k.name nm && !decide (nm.size = 0) && !decide (k.name.size = 0) && (k.name.data[0]? == nm.data[0]?)
def atD (o : ObD) (nm : ByteArray) : List UInt8 := match o.keys.find? (fromB nm) with
  | some k => k.value
  | none => o.data
def spotB (off n : Int) : Bool := decide (0 ≤ off) && decide (0 ≤ n) && decide (off ≤ 64) && decide (n ≤ 64) && decide (off + n ≤ 64)
/-! What an op does -/
/-- how many keys stand ahead of a name -/
def posK (ks : List KyD) (nm : ByteArray) : Nat := (ks.takeWhile fun k => ltS k.name nm).length
def putK (ks : List KyD) (nm : ByteArray) (v : List UInt8) : List KyD := ks.takeWhile (fun k => ltS k.name nm) ++ ⟨nm, v⟩ :: (ks.dropWhile fun k => ltS k.name nm).filter fun k => !decide (k.name = nm)
def dropK (ks : List KyD) (nm : ByteArray) : List KyD := ks.filter fun k => !decide (k.name = nm)
def writeD (d : List UInt8) (off : Nat) (x : List UInt8) : List UInt8 := (d ++ List.replicate (off + x.length - d.length) 0).take off ++ x ++ d.drop (off + x.length)
def zeroD (d : List UInt8) (off n : Nat) : List UInt8 := d.take off ++ List.replicate (min (off + n) d.length - off) 0 ++ d.drop (off + n)
def keyOp (o : ObD) (nm : ByteArray) (v : List UInt8) : Option ObD := if nameB nm && decide (v.length ≤ 2048) && (hasK o.keys nm || decide (o.keys.length < 120)) then some { o with keys := putK o.keys nm v } else none
def changeB (o : ObD) (op : OpD) : Option ObD :=
  if op.kind = 5 then (if spotB op.off op.data.length then some { o with data := writeD o.data op.off.toNat op.data } else none)
  else if op.kind = 6 then (if spotB op.off op.n then some { o with data := zeroD o.data op.off.toNat op.n.toNat } else none)
  else if op.kind = 7 then (if spotB 0 op.n then some { o with data := o.data.take op.n.toNat } else none)
  else if op.kind = 8 then (if op.data.length ≤ 64 then some { o with data := op.data } else none)
  else if op.kind = 9 then keyOp o op.name op.data
  else if op.kind = 10 then some { o with keys := dropK o.keys op.name }
  else if op.kind = 11 then (if (o.keys.any (fromB op.name)) then some o else keyOp o op.name o.data)
  else if op.kind = 12 then (if 0 ≤ op.n ∧ op.n ≤ 1099511627776 then some { o with seq := op.n } else none)
  else if op.kind = 14 then (if (atD o op.name).length ≤ 64 then some { o with data := atD o op.name } else none)
  else some o
/-- a guard's error (0: none), and whether it goes on -/
def guardB (o : ObD) (th : Bool) (op : OpD) : Int × Bool :=
  if op.kind = 1 then (if th then (0, true) else (90, false))
  else if op.kind = 2 then (if th then (91, false) else (0, true))
  else if op.kind = 3 then (if getD o.keys op.name = some op.data then (0, true) else (92, false))
  else if op.kind = 4 then (0, decide (o.seq < op.n))
  else (0, true)
def thereB (th : Bool) (kind : Int) : Bool := if kind = 5 ∨ kind = 8 ∨ kind = 9 ∨ kind = 11 ∨ kind = 12 then true else if kind = 13 then false else th
structure DoR where
  o : ObD
  there : Bool
  on : Bool
  e : Int
def DoR.no (e : Int) : DoR := ⟨ObD.none, false, false, e⟩
def doB (o : ObD) (th : Bool) (op : OpD) : DoR :=
  if mayB o && decide (1 ≤ op.kind) && decide (op.kind ≤ 14) then
    let o1 := if th then o else ObD.none
    let g := guardB o1 th op
    if g.1 = 0 then
      match changeB o1 op with
      | none => DoR.no 2
      | some o2 => ⟨if thereB th op.kind then o2 else ObD.none, thereB th op.kind, g.2, 0⟩
    else DoR.no g.1
  else DoR.no 1
end Go.Proofs.YtlekdfajcpmolaaGreatDoor
namespace Go.Proofs.YtlekdfajcpmolaaGreatDoor
open Go.RowKit Go.WideShapes

/-- an object as a value -/
def ObV (A : Nat → Prop) (w : World) (v : Value) (o : ObD) : Prop := ∃ dv kv, v = .agg #[dv, kv, .int .i64 o.seq] ∧ RB A w dv o.data ∧ SlE Enc.key A w kv o.keys
theorem ObV.ext {A : Nat → Prop} {w w' : World} {v : Value} {o : ObD} (h : ObV A w v o) (hb : Below w.heap.size w w') : ObV A w' v o := by
  obtain ⟨dv, kv, rfl, hd, hk⟩ := h
  exact ⟨dv, kv, rfl, hd.ext hb, hk.ext hb⟩
/-- the first part's outcome -/
inductive HeadC (d k : Nat) (s : Int) : Bool → Prop
  | yes : (d : Int) ≤ 64 → (k : Int) ≤ 120 → 0 ≤ s → s ≤ 1099511627776 → HeadC d k s true
  | no1 : ¬ (d : Int) ≤ 64 → HeadC d k s false
  | no2 : (d : Int) ≤ 64 → ¬ (k : Int) ≤ 120 → HeadC d k s false
  | no3 : (d : Int) ≤ 64 → (k : Int) ≤ 120 → ¬ 0 ≤ s → HeadC d k s false
  | no4 : (d : Int) ≤ 64 → (k : Int) ≤ 120 → 0 ≤ s → ¬ s ≤ 1099511627776 → HeadC d k s false
end Go.Proofs.YtlekdfajcpmolaaGreatDoor
namespace Go.Proofs.YtlekdfajcpmolaaGreatDoor
open Go.ChangeShapes Go.WideShapes Go.ChangeAt Go.RowKit Go.Deep Go.Joins

def Hp (w : World) : Nat → Prop := fun b => b < w.heap.size
def Enc.byte : Enc UInt8 where
  size := 1
  rd := fun _ _ cs s => cs = [bv s]
  len := fun h => by rw [h]; rfl
  one := fun h u hu => by rw [h] at hu; simp at hu; subst hu; rfl
  mono := fun h _ => h
  weak := fun h _ => h
def Enc.txn : Enc TxD where
  size := 2
  rd := fun A w cs t => ∃ v, cs = [.string t.obj, v] ∧ SlE Enc.op A w v t.ops
  len := fun ⟨v, h, _⟩ => by rw [h]; rfl
  one := fun ⟨v, h, hv⟩ u hu => by
    rw [h] at hu
    simp at hu
    rcases hu with rfl | rfl
    all_goals first | rfl | exact hv.one
  mono := fun ⟨v, h, hv⟩ hs => ⟨v, h, hv.mono hs⟩
  weak := fun ⟨v, h, hv⟩ hs => ⟨v, h, hv.weak hs⟩
def Enc.rq : Enc RqD where
  size := 9
  rd := fun A w cs q => ∃ v, cs = [.int .i64 q.client, .int .i64 q.life, .int .i64 q.seq, .int .i64 q.kind, .int .i64 q.image, .int .i64 q.who, .int .i64 q.n, .string q.txn.obj, v] ∧ SlE Enc.op A w v q.txn.ops
  len := fun ⟨v, h, _⟩ => by rw [h]; rfl
  one := fun ⟨v, h, hv⟩ u hu => by
    rw [h] at hu
    simp at hu
    rcases hu with rfl | rfl | rfl | rfl | rfl | rfl | rfl | rfl | rfl
    all_goals first | rfl | exact hv.one
  mono := fun ⟨v, h, hv⟩ hs => ⟨v, h, hv.mono hs⟩
  weak := fun ⟨v, h, hv⟩ hs => ⟨v, h, hv.weak hs⟩
def Enc.ob : Enc ObD where
  size := 3
  rd := fun A w cs o => ∃ dv kv, cs = [dv, kv, .int .i64 o.seq] ∧ RB A w dv o.data ∧ SlE Enc.key A w kv o.keys
  len := fun ⟨v, k, h, _⟩ => by rw [h]; rfl
  one := fun ⟨v, k, h, hv, hk⟩ u hu => by
    rw [h] at hu
    simp at hu
    rcases hu with rfl | rfl | rfl
    all_goals first | rfl | exact hv.one | exact hk.one
  mono := fun ⟨v, k, h, hv, hk⟩ hs => ⟨v, k, h, hv.mono hs, hk.mono hs⟩
  weak := fun ⟨v, k, h, hv, hk⟩ hs => ⟨v, k, h, hv.weak hs, hk.weak hs⟩
def Enc.rp : Enc RpD where
  size := 10
  rd := fun A w cs p => ∃ dv kv, cs = [.int .i64 p.client, .int .i64 p.life, .int .i64 p.seq, .int .i64 p.e, .int .i64 p.n, .int .i64 p.index, .bool p.there, dv, kv, .int .i64 p.obj.seq] ∧ RB A w dv p.obj.data ∧ SlE Enc.key A w kv p.obj.keys
  len := fun ⟨v, k, h, _⟩ => by rw [h]; rfl
  one := fun ⟨v, k, h, hv, hk⟩ u hu => by
    rw [h] at hu
    simp at hu
    rcases hu with rfl | rfl | rfl | rfl | rfl | rfl | rfl | rfl | rfl | rfl
    all_goals first | rfl | exact hv.one | exact hk.one
  mono := fun ⟨v, k, h, hv, hk⟩ hs => ⟨v, k, h, hv.mono hs, hk.mono hs⟩
  weak := fun ⟨v, k, h, hv, hk⟩ hs => ⟨v, k, h, hv.weak hs, hk.weak hs⟩

/-- every value of type t is read as data by E -/
def Opn {α : Type} (t : TypeId) (E : Enc α) : Prop :=
  Tryz.prog.cellsOf t = E.size ∧ ∀ (H : Type) (enc : TypeId × Value → H) (w : World) (n : Nat) (cs : List Value) (y : DataW H × List MemPlace), DataW.trod enc Tryz.prog w 0 (fun _ => true) true n t cs = some y → ∃ x, E.rd (Hp w) w cs x
theorem opn_int {t : TypeId} (ht : Tryz.prog.underlying t = some (.int .i64)) (hc : Tryz.prog.cellsOf t = 1) : Opn t (Enc.int .i64) := ⟨hc, fun H enc w n cs y h => by
  obtain ⟨k, rfl, _, _⟩ := DataW.trod_int ht h
  exact ⟨k, rfl⟩⟩
theorem flatten_len {s : Nat} : ∀ (m : List (List Value)), (∀ c ∈ m, c.length = s) → m.flatten.length = m.length * s
  | [], _ => by simp
  | c :: m, h => by
    rw [List.flatten_cons, List.length_append, flatten_len m fun c hc => h c (by simp [hc]), h c (by simp), List.length_cons, Nat.add_mul]
    omega
theorem opn_slice {α : Type} [Inhabited α] {t e : TypeId} {E : Enc α} (ht : Tryz.prog.underlying t = some (.slice e)) (hc : Tryz.prog.cellsOf t = 1) (hs : 0 < E.size) (h : Opn e E) : Opn t (Enc.slice E) := by
  refine ⟨hc, fun H enc w n cs y hy => ?_⟩
  rcases open_slice ht hy with ⟨rfl, _⟩ | ⟨a, len, cap, m, n', D, Pl, rfl, _, hl, hm, hmm, _, hcell⟩
  · exact ⟨[], _, rfl, SlE.nil _ _ _⟩
  · simp only [if_true] at hmm
    rw [hmm] at hcell
    clear hmm
    obtain ⟨f, hf⟩ := choose_lt (α := List Value × α) (n := len) (p := fun i x => w.cells? 0 (a.add (i * E.size)) E.size = some x.1 ∧ E.rd (Hp w) w x.1 x.2) (fun i hi => by
      obtain ⟨cs', h1, h2⟩ := hcell i (by omega)
      obtain ⟨x, hx⟩ := h.2 H enc w n' cs' (D i, Pl i) h2
      rw [h.1] at h1
      exact ⟨(cs', x), h1, hx⟩)
    have hall : ∀ c ∈ (List.range len).map (fun i => (f i).1), c.length = E.size := by
      intro c hc
      obtain ⟨i, hi, rfl⟩ := List.mem_map.1 hc
      exact E.len (hf i (List.mem_range.1 hi)).2
    refine ⟨(List.range len).map fun i => (f i).2, _, rfl, ⟨(List.range len).map fun i => (f i).1, by simp, ?_, by rw [flatten_len _ hall]; simp, ?_⟩⟩
    · intro i x c hx hc
      simp only [List.getElem?_map, Option.map_eq_some_iff] at hx hc
      obtain ⟨j, hj, rfl⟩ := hx
      obtain ⟨j', hj', rfl⟩ := hc
      rw [hj] at hj'
      cases hj'
      obtain ⟨hlt, rfl⟩ := List.getElem?_eq_some_iff.1 hj
      have hlt' : i < len := by simpa using hlt
      simpa using (hf i hlt').2
    · rcases Nat.eq_zero_or_pos cap with rfl | hcap
      · obtain rfl : len = 0 := by omega
        exact .inl ⟨⟨_, rfl⟩, rfl⟩
      · right
        obtain ⟨cs0, h1, -⟩ := hcell 0 hcap
        rw [h.1, Nat.zero_mul] at h1
        obtain ⟨-, h2, h3⟩ := World.cells?_some h1
        have h4 := h3 0 hs
        rw [List.getElem?_eq_getElem (by omega)] at h4
        have h5 := World.cell?_spot h4
        have h6 := World.block_lt_of_cell? w _ h4
        obtain ⟨b, off, spot⟩ := a
        obtain rfl : spot = none := by simpa [Addr.add] using h5
        have h6 : b < w.heap.size := by simpa [Addr.add] using h6
        refine ⟨b, off, cap, by simp, by simpa using hl, h6, h6, fun j hj => ?_⟩
        have hj : j < len * E.size := by simpa using hj
        have hi : j / E.size < len := Nat.div_lt_of_lt_mul (by rw [Nat.mul_comm]; exact hj)
        have hr : j % E.size < E.size := Nat.mod_lt _ hs
        have hjj : j / E.size * E.size + j % E.size = j := by rw [Nat.mul_comm]; exact Nat.div_add_mod _ _
        have hg := flat_get _ (j / E.size) (by simpa using hi) hall (j % E.size) hr
        rw [hjj] at hg
        rw [hg]
        obtain ⟨-, -, h7⟩ := World.cells?_some (hf _ hi).1
        have h8 := h7 _ hr
        rw [WideShapes.add_plain, WideShapes.add_plain, Nat.add_assoc, hjj] at h8
        rw [h8]
        simp
section
variable {H : Type} {enc : TypeId × Value → H} {w : World} {m : Nat} {cs : List Value} {y : DataW H × List MemPlace}
theorem opn_cut {α : Type} {t : TypeId} {E : Enc α} (h : Opn t E) {k : Nat} {z : Option (DataW H × List MemPlace)} (hz : z = some y) (hy : DataW.trod enc Tryz.prog w 0 (fun _ => true) true m t ((cs.drop k).take (Tryz.prog.cellsOf t)) = z) : ∃ x, E.rd (Hp w) w ((cs.drop k).take E.size) x := by
  subst hz
  rw [h.1] at hy
  exact h.2 H enc w m _ y hy
end
theorem opn_i : Opn 3 (Enc.int .i64) := opn_int Tryz.underlying3 (by kernel_rfl)
theorem list3' {α : Type} {l : List α} (h : l.length = 3) : ∃ a b c, l = [a, b, c] := by
  match l, h with
  | [a, b, c], _ => exact ⟨a, b, c, rfl⟩
theorem list8' {α : Type} {l : List α} (h : l.length = 8) : ∃ a b c d e f g i, l = [a, b, c, d, e, f, g, i] := by
  match l, h with
  | [a, b, c, d, e, f, g, i], _ => exact ⟨a, b, c, d, e, f, g, i, rfl⟩
instance OpD.some : Inhabited OpD := ⟨⟨0, 0, 0, ByteArray.empty, []⟩⟩
instance KyD.some : Inhabited KyD := ⟨⟨ByteArray.empty, []⟩⟩
instance TxD.some : Inhabited TxD := ⟨TxD.none⟩
instance RqD.some : Inhabited RqD := ⟨RqD.none⟩
instance RpD.some : Inhabited RpD := ⟨RpD.none⟩
instance ObD.some : Inhabited ObD := ⟨ObD.none⟩
section
variable {H : Type} {enc : TypeId × Value → H} {W : World} {base : Nat} {v : Value} {d : DataW H} {p : List MemPlace}
theorem agg_of_list {cs : Array Value} {l : List Value} (h : cs.toList = l) : cs = l.toArray := by subst h; simp
end
end Go.Proofs.YtlekdfajcpmolaaGreatDoor
