/- Ops, transactions, requests, keys, objects, replies as plain data, and how they lie in memory. Rows of data whose last cell is a row of bytes: how they are cloned. No program is named. The walks of bytes.Clone, slices.Clone at keys and at ops. -/
import Derived.Test.YtlgefkaafoidmaaGreatDoorGA
import Derived.OwnWalk
import Derived.Laws.OwnMore
namespace Go.Proofs.YtlgefkaafoidmaaGreatDoor
open Go.RowKit

structure OpD where
  kind : Int
  off : Int
  n : Int
  name : ByteArray
  data : List UInt8
structure TxD where
  obj : ByteArray
  ops : List OpD
structure RqD where
  client : Int
  life : Int
  seq : Int
  kind : Int
  image : Int
  who : Int
  n : Int
  txn : TxD
structure KyD where
  name : ByteArray
  value : List UInt8
structure ObD where
  data : List UInt8
  keys : List KyD
  seq : Int
structure RpD where
  client : Int
  life : Int
  seq : Int
  e : Int
  n : Int
  index : Int
  there : Bool
  obj : ObD
def TxD.none : TxD := ⟨ByteArray.empty, []⟩
def ObD.none : ObD := ⟨[], [], 0⟩
def RqD.none : RqD := ⟨0, 0, 0, 0, 0, 0, 0, TxD.none⟩
def RpD.none : RpD := ⟨0, 0, 0, 0, 0, 0, false, ObD.none⟩

theorem RB.mono {A : Nat → Prop} {w w' : World} {v : Value} {l : List UInt8} (h : RB A w v l) (hs : Same A w w') : RB A w' v l := SlA.mono h hs
theorem RB.weak {A A' : Nat → Prop} {w : World} {v : Value} {l : List UInt8} (h : RB A w v l) (hs : ∀ b, b < w.heap.size → A b → A' b) : RB A' w v l := SlA.weak (SlA.cut h) fun b hb => hs b hb.2 hb.1
theorem RB.one {A : Nat → Prop} {w : World} {v : Value} {l : List UInt8} (h : RB A w v l) : v.oneCell' = true := by
  obtain ⟨a, c, rfl⟩ := h.shape
  rfl
def Enc.op : Enc OpD where
  size := 5
  rd := fun A w cs x => ∃ v, cs = [.int .i64 x.kind, .int .i64 x.off, .int .i64 x.n, .string x.name, v] ∧ RB A w v x.data
  len := fun ⟨v, h, _⟩ => by rw [h]; rfl
  one := fun ⟨v, h, hv⟩ u hu => by
    rw [h] at hu
    simp at hu
    rcases hu with rfl | rfl | rfl | rfl | rfl
    all_goals first | rfl | exact hv.one
  mono := fun ⟨v, h, hv⟩ hs => ⟨v, h, hv.mono hs⟩
  weak := fun ⟨v, h, hv⟩ hs => ⟨v, h, hv.weak hs⟩
def Enc.key : Enc KyD where
  size := 2
  rd := fun A w cs x => ∃ v, cs = [.string x.name, v] ∧ RB A w v x.value
  len := fun ⟨v, h, _⟩ => by rw [h]; rfl
  one := fun ⟨v, h, hv⟩ u hu => by
    rw [h] at hu
    simp at hu
    rcases hu with rfl | rfl
    all_goals first | rfl | exact hv.one
  mono := fun ⟨v, h, hv⟩ hs => ⟨v, h, hv.mono hs⟩
  weak := fun ⟨v, h, hv⟩ hs => ⟨v, h, hv.weak hs⟩
abbrev Ops := SlE Enc.op
abbrev Keys := SlE Enc.key
theorem SlE.one {α : Type} {E : Enc α} {A : Nat → Prop} {w : World} {v : Value} {l : List α} (h : SlE E A w v l) : v.oneCell' = true := by
  obtain ⟨a, c, rfl⟩ := h.shape
  rfl
theorem SlE.ext {α : Type} {E : Enc α} {A : Nat → Prop} {w w' : World} {v : Value} {l : List α} (h : SlE E A w v l) (hb : Below w.heap.size w w') : SlE E A w' v l := h.mono (Same.of_ext hb)
/-- the cells of a row of data, flat -/
theorem SlE.flat {α : Type} {E : Enc α} {A : Nat → Prop} {w : World} {v : Value} {l : List α} (h : SlE E A w v l) :
    ∃ cs : List (List Value), cs.length = l.length ∧ (∀ (i : Nat) (x : α) (c : List Value), l[i]? = some x → cs[i]? = some c → E.rd A w c x) ∧ SlA A w E.size v l.length cs.flatten := by
  obtain ⟨cs, h1, h2, h3, h4⟩ := h.ex
  refine ⟨cs, h1, h2, h3, h4.imp (fun ⟨a, b⟩ => ⟨a, by rw [b]; rfl⟩) ?_⟩
  rintro ⟨b, off, cap, rfl, hc, hA, hl, hx⟩
  exact ⟨b, off, cap, rfl, hl, hA, hc, hx⟩
theorem SlE.of_flat {α : Type} {E : Enc α} {A : Nat → Prop} {w : World} {v : Value} {l : List α} {cs : List (List Value)} (h1 : cs.length = l.length)
    (h2 : ∀ (i : Nat) (x : α) (c : List Value), l[i]? = some x → cs[i]? = some c → E.rd A w c x) (h : SlA A w E.size v l.length cs.flatten) : SlE E A w v l := by
  obtain ⟨h3, h4⟩ := h
  refine ⟨cs, h1, h2, h3, h4.imp (fun ⟨a, b⟩ => ⟨a, List.length_eq_zero_iff.1 b⟩) ?_⟩
  rintro ⟨b, off, cap, rfl, hl, hA, hc, hx⟩
  exact ⟨b, off, cap, rfl, hc, hA, hl, hx⟩
theorem SlE.cut {α : Type} {E : Enc α} {A : Nat → Prop} {w : World} {v : Value} {l : List α} (h : SlE E A w v l) : SlE E (fun b => A b ∧ b < w.heap.size) w v l := h.weak fun b hb hA => ⟨hA, hb⟩
theorem SlE.len_le {α : Type} {E : Enc α} {A : Nat → Prop} {w : World} {a : Option Addr} {n c : Nat} {l : List α} (h : SlE E A w (.slice a n c) l) : n = l.length ∧ n ≤ c := by
  obtain ⟨cs, h1, h2, h3, ⟨⟨a0, e⟩, rfl⟩ | ⟨b, off, cap, e, hc, _⟩⟩ := h.ex
  · simp only [Value.slice.injEq] at e
    obtain ⟨_, rfl, rfl⟩ := e
    simp
  · simp only [Value.slice.injEq] at e
    obtain ⟨_, rfl, rfl⟩ := e
    exact ⟨rfl, hc⟩
/-- an op's cells, at its place in a row -/
theorem Ops.at {A : Nat → Prop} {w : World} {a : Option Addr} {n c : Nat} {l : List OpD} (h : SlE Enc.op A w (.slice a n c) l) {i : Nat} (hi : i < l.length) :
    ∃ b off v, a = some ⟨b, off, none⟩ ∧ b < w.heap.size ∧ A b ∧ w.cell? ⟨b, off + i * 5, none⟩ = some (.int .i64 l[i].kind) ∧ w.cell? ⟨b, off + i * 5 + 1, none⟩ = some (.int .i64 l[i].off) ∧
      w.cell? ⟨b, off + i * 5 + 2, none⟩ = some (.int .i64 l[i].n) ∧ w.cell? ⟨b, off + i * 5 + 3, none⟩ = some (.string l[i].name) ∧ w.cell? ⟨b, off + i * 5 + 4, none⟩ = some v ∧ RB A w v l[i].data := by
  obtain ⟨b, off, cap, cs, e, hb, hA, ⟨v, rfl, hv⟩, hc⟩ := h.at (i := i) (x := l[i]) (by simp [hi])
  simp only [Value.slice.injEq] at e
  obtain ⟨rfl, _, _⟩ := e
  refine ⟨b, off, v, rfl, hb, hA, hc 0 (by decide), hc 1 (by decide), hc 2 (by decide), hc 3 (by decide), hc 4 (by decide), hv⟩
theorem Keys.at {A : Nat → Prop} {w : World} {a : Option Addr} {n c : Nat} {l : List KyD} (h : SlE Enc.key A w (.slice a n c) l) {i : Nat} (hi : i < l.length) :
    ∃ b off v, a = some ⟨b, off, none⟩ ∧ b < w.heap.size ∧ A b ∧ w.cell? ⟨b, off + i * 2, none⟩ = some (.string l[i].name) ∧ w.cell? ⟨b, off + i * 2 + 1, none⟩ = some v ∧ RB A w v l[i].value := by
  obtain ⟨b, off, cap, cs, e, hb, hA, ⟨v, rfl, hv⟩, hc⟩ := h.at (i := i) (x := l[i]) (by simp [hi])
  simp only [Value.slice.injEq] at e
  obtain ⟨rfl, _, _⟩ := e
  exact ⟨b, off, v, rfl, hb, hA, hc 0 (by decide), hc 1 (by decide), hv⟩
end Go.Proofs.YtlgefkaafoidmaaGreatDoor
namespace Go.Proofs.YtlgefkaafoidmaaGreatDoor
open Go.RowKit

theorem flat_get {s : Nat} : ∀ (m : List (List Value)) (i : Nat) (hi : i < m.length), (∀ c ∈ m, c.length = s) → ∀ j, j < s → m.flatten[i * s + j]? = m[i][j]? := by
  intro m
  induction m with
  | nil => intro i hi; simp at hi
  | cons c m ih =>
    intro i hi hall j hj
    have hc := hall c (by simp)
    cases i with
    | zero => simp [List.getElem?_append_left (by rw [hc]; exact hj)]
    | succ i =>
      have := ih i (by simpa using hi) (fun c hc => hall c (by simp [hc])) j hj
      rw [List.flatten_cons, List.getElem?_append_right (by rw [hc, Nat.add_mul]; omega), hc]
      rw [show (i + 1) * s + j - s = i * s + j by rw [Nat.add_mul]; omega]
      simpa using this
theorem flat_set {s : Nat} : ∀ (m : List (List Value)) (i : Nat) (hi : i < m.length), (∀ c ∈ m, c.length = s) → ∀ j, j < s → ∀ v, m.flatten.set (i * s + j) v = (m.set i (m[i].set j v)).flatten := by
  intro m
  induction m with
  | nil => intro i hi; simp at hi
  | cons c m ih =>
    intro i hi hall j hj v
    have hc := hall c (by simp)
    cases i with
    | zero => simp [List.set_append_left _ _ (by rw [hc]; exact hj)]
    | succ i =>
      have := ih i (by simpa using hi) (fun c hc => hall c (by simp [hc])) j hj v
      rw [List.flatten_cons, List.set_append_right _ _ (by rw [hc, Nat.add_mul]; omega), hc]
      rw [show (i + 1) * s + j - s = i * s + j by rw [Nat.add_mul]; omega]
      simpa using this

/-- data with a row of bytes in the last cell -/
structure Fb (α : Type) where
  E : Enc α
  front : α → List Value
  bytes : α → List UInt8
  rd : ∀ A w cs x, E.rd A w cs x ↔ ∃ v, cs = front x ++ [v] ∧ RB A w v (bytes x)
  len : ∀ x, (front x).length + 1 = E.size
def Fb.op : Fb OpD where
  E := Enc.op
  front := fun x => [.int .i64 x.kind, .int .i64 x.off, .int .i64 x.n, .string x.name]
  bytes := fun x => x.data
  rd := fun _ _ _ _ => Iff.rfl
  len := fun _ => rfl
def Fb.key : Fb KyD where
  E := Enc.key
  front := fun x => [.string x.name]
  bytes := fun x => x.value
  rd := fun _ _ _ _ => Iff.rfl
  len := fun _ => rfl
/-- the cells of a row of such data: the bytes of the element i lie in the blocks of X i -/
structure CI {α : Type} (F : Fb α) (X : Nat → Nat → Prop) (w : World) (cs : List (List Value)) (l : List α) : Prop where
  len : cs.length = l.length
  at_ : ∀ (i : Nat) (x : α) (c : List Value), l[i]? = some x → cs[i]? = some c → ∃ v, c = F.front x ++ [v] ∧ RB (X i) w v (F.bytes x)
namespace CI
variable {α : Type} {F : Fb α} {X Y : Nat → Nat → Prop} {w w' : World} {cs : List (List Value)} {l : List α}
theorem same (h : CI F X w cs l) (hs : ∀ i, Same (X i) w w') : CI F X w' cs l :=
  ⟨h.len, fun i x c hx hc => by obtain ⟨v, e, hv⟩ := h.at_ i x c hx hc; exact ⟨v, e, hv.mono (hs i)⟩⟩
theorem weak (h : CI F X w cs l) (hs : ∀ i b, i < l.length → b < w.heap.size → X i b → Y i b) : CI F Y w cs l :=
  ⟨h.len, fun i x c hx hc => by obtain ⟨v, e, hv⟩ := h.at_ i x c hx hc; exact ⟨v, e, hv.weak fun b hb => hs i b (List.getElem?_eq_some_iff.1 hx).1 hb⟩⟩
theorem lens (h : CI F X w cs l) : ∀ c ∈ cs, c.length = F.E.size := by
  intro c hc
  obtain ⟨k, hk, rfl⟩ := List.getElem_of_mem hc
  obtain ⟨v, e, _⟩ := h.at_ k (l[k]'(h.len ▸ hk)) cs[k] (by simp [h.len ▸ hk]) (by simp [hk])
  rw [e, ← F.len (l[k]'(h.len ▸ hk))]
  simp
theorem flat_len (h : CI F X w cs l) : cs.flatten.length = l.length * F.E.size := by
  have : ∀ (m : List (List Value)), (∀ c ∈ m, c.length = F.E.size) → m.flatten.length = m.length * F.E.size := by
    intro m
    induction m with
    | nil => intro _; simp
    | cons c m ih =>
      intro hm
      rw [List.flatten_cons, List.length_append, ih (fun c hc => hm c (by simp [hc])), hm c (by simp), List.length_cons, Nat.add_mul]
      omega
  rw [this cs h.lens, h.len]
/-- the last cell of the element i -/
theorem last (h : CI F X w cs l) {i : Nat} (hi : i < l.length) : ∃ v, cs.flatten[i * F.E.size + (F.E.size - 1)]? = some v ∧ RB (X i) w v (F.bytes l[i]) := by
  have hi' : i < cs.length := h.len ▸ hi
  obtain ⟨v, e, hv⟩ := h.at_ i l[i] cs[i] (by simp [hi]) (by simp [hi'])
  refine ⟨v, ?_, hv⟩
  have hl := F.len l[i]
  rw [flat_get cs i hi' h.lens _ (by omega), e, ← hl]
  simp
/-- other bytes in the element i -/
theorem put (h : CI F X w cs l) {i : Nat} (hi : i < l.length) {v : Value} (hv : RB (Y i) w v (F.bytes l[i])) (hY : ∀ j, j ≠ i → j < l.length → ∀ b, X j b → Y j b) :
    ∃ cs', cs'.flatten = cs.flatten.set (i * F.E.size + (F.E.size - 1)) v ∧ CI F Y w cs' l := by
  have hi' : i < cs.length := h.len ▸ hi
  have hl := F.len l[i]
  refine ⟨cs.set i (cs[i].set (F.E.size - 1) v), (flat_set cs i hi' h.lens _ (by omega) v).symm, by simpa using h.len, fun j x c hx hc => ?_⟩
  by_cases hj : j = i
  · subst hj
    obtain ⟨u, e, _⟩ := h.at_ j l[j] cs[j] (by simp [hi]) (by simp [hi'])
    obtain rfl : l[j] = x := by simpa [hi] using hx
    obtain rfl : cs[j].set (F.E.size - 1) v = c := by simpa [hi'] using hc
    refine ⟨v, ?_, hv⟩
    rw [e, ← hl]
    simp
  · have hc' : cs[j]? = some c := by rwa [List.getElem?_set_ne (fun e => hj e.symm)] at hc
    obtain ⟨u, e, hu⟩ := h.at_ j x c hx hc'
    exact ⟨u, e, hu.weak fun b _ => hY j hj (List.getElem?_eq_some_iff.1 hx).1 b⟩
/-- read whole again -/
theorem whole {A : Nat → Prop} {v : Value} (h : CI F X w cs l) (hX : ∀ i b, i < l.length → b < w.heap.size → X i b → A b) (hs : SlA A w F.E.size v l.length cs.flatten) : SlE F.E A w v l :=
  SlE.of_flat h.len (fun i x c hx hc => (F.rd _ _ _ _).2 (by
    obtain ⟨u, e, hu⟩ := h.at_ i x c hx hc
    exact ⟨u, e, hu.weak fun b hb => hX i b (List.getElem?_eq_some_iff.1 hx).1 hb⟩)) hs
theorem one (h : CI F X w cs l) : ∀ u ∈ cs.flatten, u.oneCell' = true := by
  intro u hu
  obtain ⟨c, hc, hu⟩ := List.mem_flatten.1 hu
  obtain ⟨k, hk, rfl⟩ := List.getElem_of_mem hc
  obtain ⟨v, e, hv⟩ := h.at_ k (l[k]'(h.len ▸ hk)) cs[k] (by simp [h.len ▸ hk]) (by simp [hk])
  exact F.E.one ((F.rd (X k) w _ _).2 ⟨v, e, hv⟩) u hu
end CI
theorem SlE.cells {α : Type} {F : Fb α} {A : Nat → Prop} {w : World} {v : Value} {l : List α} (h : SlE F.E A w v l) : ∃ cs, CI F (fun _ => A) w cs l ∧ SlA A w F.E.size v l.length cs.flatten := by
  obtain ⟨cs, h1, h2, h3⟩ := h.flat
  exact ⟨cs, ⟨h1, fun i x c hx hc => (F.rd _ _ _ _).1 (h2 i x c hx hc)⟩, h3⟩
theorem owns_set {w : World} {base size g cap n : Nat} {e : TypeId} {xs : List Value} (h : w.ownsRow base e size (.slice (some ⟨g, 0, none⟩) n cap) n xs) (j : Nat) (u : Value) :
    (w.setCell ⟨g, j, none⟩ u).ownsRow base e size (.slice (some ⟨g, 0, none⟩) n cap) n (xs.set j u) := (h.stored j u).1
end Go.Proofs.YtlgefkaafoidmaaGreatDoor
namespace Go.Proofs.YtlgefkaafoidmaaGreatDoor
open Go.RowKit

set_option maxRecDepth 100000 in
set_option maxHeartbeats 800000 in
theorem bclone_any (A : Nat → Prop) (v : Value) (l : List UInt8) (w : World) (hl : l.length ≤ 1000000) (hv : RB A w v l) :
    Calls Tryz.prog 80 #[v] w (NewB w l) := by
  obtain ⟨a, cap, rfl⟩ := hv.shape
  rcases a with _ | p
  · obtain ⟨-, h0, rfl⟩ := SlA.none_ hv
    obtain rfl : l = [] := List.eq_nil_of_length_eq_zero h0
    have he := fun w : World => Go.Lib.run_eql_slice_nil (P := Tryz.prog) w 27 5 none 0 0 0 0 Tryz.underlying27
    go_enter Tryz.func80, Tryz.ntmps80
    go_wp2
    go_ret
    exact ⟨_, rfl, OB.nil _ _, Below.refl _ _⟩
  · have hcap := (SlA.src hv).2.1
    have HV := Lib.hid hv
    clear hv
    obtain ⟨i0, hi, hz0, hz1, hz2⟩ := info_parts infoByte
    have he := fun w : World => Go.Lib.run_eql_slice_nil (P := Tryz.prog) w 27 5 (some p) l.length cap 0 0 Tryz.underlying27
    go_enter Tryz.func80, Tryz.ntmps80
    go_wp2_with (first | (at_builtin; refine wpList_append_sl rfl _ _ 27 rfl w.heap.size 5 i0 (.int .u8 0) 1 1 Tryz.underlying27 hi hz0 hz1 hz2 rfl (by decide) _ 0 [] rfl (World.ownsRow_made w #[] 0 (Nat.le_refl _) (by decide) rfl) A (.slice (some p) l.length cap) l.length (l.map bv) rfl ?c1 (one_bytes l) ?c2 ?c3 ?c4 ?_) | go_in)
    case c1 => exact SlA.ext HV.out ((Below.refl _ _).alloc (Nat.le_refl _) _)
    case c2 => unfold maxLen; omega
    case c3 => omega
    case c4 => simp
    intro v1 w1 ho hg
    go_wp2
    go_ret
    refine ⟨v1, rfl, OB.cast ho (by simp) (by simp), ((Below.refl _ w).alloc (Nat.le_refl _) _).grown hg (by simp) fun j hj => ?_⟩
    simp [Value.ownBlock] at hj
    omega

/-- what a call that hands back a new row leaves -/
def NewR (e : TypeId) (size : Nat) (w : World) (n : Nat) (xs : List Value) (r : Ending) (w' : World) : Prop := ∃ v : Value, r = .returned v ∧ w'.ownsRow w.heap.size e size v n xs ∧ Below w.heap.size w w'
theorem infoKey : (Tryz.prog.info? 89).map (fun i => (i.zero, i.size, i.bytes)) = some (some (.agg #[.string ByteArray.empty, .slice none 0 0]), 2, 40) := by kernel_rfl
theorem infoOp : (Tryz.prog.info? 58).map (fun i => (i.zero, i.size, i.bytes)) = some (some (.agg #[.int .i64 0, .int .i64 0, .int .i64 0, .string ByteArray.empty, .slice none 0 0]), 5, 64) := by kernel_rfl
set_option maxRecDepth 100000 in
set_option maxHeartbeats 800000 in
theorem kclone_any (A : Nat → Prop) (v : Value) (n : Nat) (xs : List Value) (w : World) (hl : n ≤ 10000) (hv : SlA A w 2 v n xs) (h1 : ∀ u ∈ xs, u.oneCell' = true) :
    Calls Tryz.prog 81 #[v] w (NewR 89 2 w n xs) := by
  obtain ⟨i0, hi, hz0, hz1, hz2⟩ := info_parts infoKey
  have HV := Lib.hid hv
  obtain ⟨a, cap, rfl⟩ := SlA.shape hv
  rcases a with _ | p
  · obtain ⟨-, rfl, rfl⟩ := SlA.none_ hv
    obtain rfl : xs = [] := List.eq_nil_of_length_eq_zero (by simpa using hv.1)
    have he := fun w : World => Go.Lib.run_eql_slice_nil (P := Tryz.prog) w 36 89 none 0 0 0 0 Tryz.underlying36
    clear hv
    go_enter Tryz.func81, Tryz.ntmps81
    go_wp2
    go_ret
    exact ⟨_, rfl, World.ownsRow_nil _ _ _ _, Below.refl _ _⟩
  · have hcap := (SlA.src hv).2.1
    clear hv
    have he := fun w : World => Go.Lib.run_eql_slice_nil (P := Tryz.prog) w 36 89 (some p) n cap 0 0 Tryz.underlying36
    go_enter Tryz.func81, Tryz.ntmps81
    go_wp2_with (first | (at_builtin; refine wpList_append_sl rfl _ _ 36 rfl w.heap.size 89 i0 _ 2 40 Tryz.underlying36 hi hz0 hz1 hz2 rfl (by decide) _ 0 [] rfl (World.ownsRow_made w #[] 0 (Nat.le_refl _) (by decide) rfl) A (.slice (some p) n cap) n xs rfl ?c1 h1 ?c2 ?c3 ?c4 ?_) | go_in)
    case c1 => exact SlA.ext HV.out ((Below.refl _ _).alloc (Nat.le_refl _) _)
    case c2 => unfold maxLen; omega
    case c3 => omega
    case c4 => simp
    intro v1 w1 ho hg
    go_wp2
    go_ret
    refine ⟨v1, rfl, by simpa using ho, ((Below.refl _ w).alloc (Nat.le_refl _) _).grown hg (by simp) fun j hj => ?_⟩
    simp [Value.ownBlock] at hj
    omega
set_option maxRecDepth 100000 in
set_option maxHeartbeats 800000 in
theorem oclone_any (A : Nat → Prop) (v : Value) (n : Nat) (xs : List Value) (w : World) (hl : n ≤ 10000) (hv : SlA A w 5 v n xs) (h1 : ∀ u ∈ xs, u.oneCell' = true) :
    Calls Tryz.prog 78 #[v] w (NewR 58 5 w n xs) := by
  obtain ⟨i0, hi, hz0, hz1, hz2⟩ := info_parts infoOp
  have HV := Lib.hid hv
  obtain ⟨a, cap, rfl⟩ := SlA.shape hv
  rcases a with _ | p
  · obtain ⟨-, rfl, rfl⟩ := SlA.none_ hv
    obtain rfl : xs = [] := List.eq_nil_of_length_eq_zero (by simpa using hv.1)
    have he := fun w : World => Go.Lib.run_eql_slice_nil (P := Tryz.prog) w 22 58 none 0 0 0 0 Tryz.underlying22
    clear hv
    go_enter Tryz.func78, Tryz.ntmps78
    go_wp2
    go_ret
    exact ⟨_, rfl, World.ownsRow_nil _ _ _ _, Below.refl _ _⟩
  · have hcap := (SlA.src hv).2.1
    clear hv
    have he := fun w : World => Go.Lib.run_eql_slice_nil (P := Tryz.prog) w 22 58 (some p) n cap 0 0 Tryz.underlying22
    go_enter Tryz.func78, Tryz.ntmps78
    go_wp2_with (first | (at_builtin; refine wpList_append_sl rfl _ _ 22 rfl w.heap.size 58 i0 _ 5 64 Tryz.underlying22 hi hz0 hz1 hz2 rfl (by decide) _ 0 [] rfl (World.ownsRow_made w #[] 0 (Nat.le_refl _) (by decide) rfl) A (.slice (some p) n cap) n xs rfl ?c1 h1 ?c2 ?c3 ?c4 ?_) | go_in)
    case c1 => exact SlA.ext HV.out ((Below.refl _ _).alloc (Nat.le_refl _) _)
    case c2 => unfold maxLen; omega
    case c3 => omega
    case c4 => simp
    intro v1 w1 ho hg
    go_wp2
    go_ret
    refine ⟨v1, rfl, by simpa using ho, ((Below.refl _ w).alloc (Nat.le_refl _) _).grown hg (by simp) fun j hj => ?_⟩
    simp [Value.ownBlock] at hj
    omega
end Go.Proofs.YtlgefkaafoidmaaGreatDoor
