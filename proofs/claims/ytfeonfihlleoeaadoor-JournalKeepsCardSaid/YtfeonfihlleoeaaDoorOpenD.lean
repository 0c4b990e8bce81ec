/- What a law is handed, opened as data: numbers, texts, rows of bytes, ops, transactions, requests, objects, replies. -/
import Derived.Test.YtfeonfihlleoeaaDoorGAA
import Derived.Test.YtfeonfihlleoeaaDoorGAC
import Derived.Deep.Slices
import Derived.Lib.SmallJoins
namespace Go.Proofs.YtfeonfihlleoeaaDoor
open Go.ChangeShapes Go.WideShapes Go.ChangeAt Go.RowKit Go.Deep Go.Joins

def Hp (w : World) : Nat → Prop := fun b => b < w.heap.size
def Enc.str : Enc ByteArray where
  size := 1
  rd := fun _ _ cs s => cs = [.string s] ∧ s.size ≤ maxLen
  len := fun h => by rw [h.1]; rfl
  one := fun h u hu => by rw [h.1] at hu; simp at hu; subst hu; rfl
  mono := fun h _ => h
  weak := fun h _ => h
def Enc.boo : Enc Bool where
  size := 1
  rd := fun _ _ cs s => cs = [.bool s]
  len := fun h => by rw [h]; rfl
  one := fun h u hu => by rw [h] at hu; simp at hu; subst hu; rfl
  mono := fun h _ => h
  weak := fun h _ => h
def Enc.byte : Enc UInt8 where
  size := 1
  rd := fun _ _ cs s => cs = [bv s]
  len := fun h => by rw [h]; rfl
  one := fun h u hu => by rw [h] at hu; simp at hu; subst hu; rfl
  mono := fun h _ => h
  weak := fun h _ => h
def Enc.bts : Enc (List UInt8) where
  size := 1
  rd := fun A w cs l => ∃ v, cs = [v] ∧ RB A w v l
  len := fun ⟨v, h, _⟩ => by rw [h]; rfl
  one := fun ⟨v, h, hv⟩ u hu => by rw [h] at hu; simp at hu; subst hu; exact hv.one
  mono := fun ⟨v, h, hv⟩ hs => ⟨v, h, hv.mono hs⟩
  weak := fun ⟨v, h, hv⟩ hs => ⟨v, h, hv.weak hs⟩
def Enc.txn : Enc TxD where
  size := 2
  rd := fun A w cs t => ∃ v, cs = [.string t.obj, v] ∧ SlE Enc.op A w v t.ops
  len := fun ⟨v, h, _⟩ => by rw [h]; rfl
  one := fun ⟨v, h, hv⟩ u hu => by
    rw [h] at hu
    simp at hu
    rcases hu with rfl | rfl
    all_goals first | rfl | exact hv.one
  mono := fun ⟨v, h, hv⟩ hs => ⟨v, h, hv.mono hs⟩
  weak := fun ⟨v, h, hv⟩ hs => ⟨v, h, hv.weak hs⟩
def Enc.rq : Enc RqD where
  size := 9
  rd := fun A w cs q => ∃ v, cs = [.int .i64 q.client, .int .i64 q.life, .int .i64 q.seq, .int .i64 q.kind, .int .i64 q.image, .int .i64 q.who, .int .i64 q.n, .string q.txn.obj, v] ∧ SlE Enc.op A w v q.txn.ops
  len := fun ⟨v, h, _⟩ => by rw [h]; rfl
  one := fun ⟨v, h, hv⟩ u hu => by
    rw [h] at hu
    simp at hu
    rcases hu with rfl | rfl | rfl | rfl | rfl | rfl | rfl | rfl | rfl
    all_goals first | rfl | exact hv.one
  mono := fun ⟨v, h, hv⟩ hs => ⟨v, h, hv.mono hs⟩
  weak := fun ⟨v, h, hv⟩ hs => ⟨v, h, hv.weak hs⟩
def Enc.ob : Enc ObD where
  size := 3
  rd := fun A w cs o => ∃ dv kv, cs = [dv, kv, .int .i64 o.seq] ∧ RB A w dv o.data ∧ SlE Enc.key A w kv o.keys
  len := fun ⟨v, k, h, _⟩ => by rw [h]; rfl
  one := fun ⟨v, k, h, hv, hk⟩ u hu => by
    rw [h] at hu
    simp at hu
    rcases hu with rfl | rfl | rfl
    all_goals first | rfl | exact hv.one | exact hk.one
  mono := fun ⟨v, k, h, hv, hk⟩ hs => ⟨v, k, h, hv.mono hs, hk.mono hs⟩
  weak := fun ⟨v, k, h, hv, hk⟩ hs => ⟨v, k, h, hv.weak hs, hk.weak hs⟩
def Enc.rp : Enc RpD where
  size := 10
  rd := fun A w cs p => ∃ dv kv, cs = [.int .i64 p.client, .int .i64 p.life, .int .i64 p.seq, .int .i64 p.e, .int .i64 p.n, .int .i64 p.index, .bool p.there, dv, kv, .int .i64 p.obj.seq] ∧ RB A w dv p.obj.data ∧ SlE Enc.key A w kv p.obj.keys
  len := fun ⟨v, k, h, _⟩ => by rw [h]; rfl
  one := fun ⟨v, k, h, hv, hk⟩ u hu => by
    rw [h] at hu
    simp at hu
    rcases hu with rfl | rfl | rfl | rfl | rfl | rfl | rfl | rfl | rfl | rfl
    all_goals first | rfl | exact hv.one | exact hk.one
  mono := fun ⟨v, k, h, hv, hk⟩ hs => ⟨v, k, h, hv.mono hs, hk.mono hs⟩
  weak := fun ⟨v, k, h, hv, hk⟩ hs => ⟨v, k, h, hv.weak hs, hk.weak hs⟩

/-- every value of type t is read as data by E -/
def Opn {α : Type} (t : TypeId) (E : Enc α) : Prop :=
  Tryd.prog.cellsOf t = E.size ∧ ∀ (H : Type) (enc : TypeId × Value → H) (w : World) (n : Nat) (cs : List Value) (y : DataW H × List MemPlace), DataW.trod enc Tryd.prog w 0 (fun _ => true) true n t cs = some y → ∃ x, E.rd (Hp w) w cs x
theorem opn_int {t : TypeId} (ht : Tryd.prog.underlying t = some (.int .i64)) (hc : Tryd.prog.cellsOf t = 1) : Opn t (Enc.int .i64) := ⟨hc, fun H enc w n cs y h => by
  obtain ⟨k, rfl, _, _⟩ := DataW.trod_int ht h
  exact ⟨k, rfl⟩⟩
theorem opn_str : Opn 9 Enc.str := ⟨by kernel_rfl, fun H enc w n cs y h => by
  obtain ⟨s, rfl, _, hs⟩ := DataW.trod_string Tryd.underlying9 h
  exact ⟨s, rfl, hs⟩⟩
theorem opn_boo : Opn 4 Enc.boo := ⟨by kernel_rfl, fun H enc w n cs y h => by
  obtain ⟨b, rfl, _⟩ := DataW.trod_bool Tryd.underlying4 h
  exact ⟨b, rfl⟩⟩
theorem opn_byte : Opn 5 Enc.byte := ⟨by kernel_rfl, fun H enc w n cs y h => by
  obtain ⟨k, rfl, _, hk⟩ := DataW.trod_int Tryd.underlying5 h
  have hk : 0 ≤ k ∧ k ≤ 255 := by simpa [Lit.wf, IntKind.min, IntKind.max, IntKind.signed, IntKind.bits] using hk
  refine ⟨UInt8.ofNat k.toNat, ?_⟩
  show _ = [Value.int .u8 ((UInt8.ofNat k.toNat).toNat : Int)]
  congr 2
  simp
  omega⟩
theorem flatten_len {s : Nat} : ∀ (m : List (List Value)), (∀ c ∈ m, c.length = s) → m.flatten.length = m.length * s
  | [], _ => by simp
  | c :: m, h => by
    rw [List.flatten_cons, List.length_append, flatten_len m fun c hc => h c (by simp [hc]), h c (by simp), List.length_cons, Nat.add_mul]
    omega
theorem opn_slice {α : Type} [Inhabited α] {t e : TypeId} {E : Enc α} (ht : Tryd.prog.underlying t = some (.slice e)) (hc : Tryd.prog.cellsOf t = 1) (hs : 0 < E.size) (h : Opn e E) : Opn t (Enc.slice E) := by
  refine ⟨hc, fun H enc w n cs y hy => ?_⟩
  rcases open_slice ht hy with ⟨rfl, _⟩ | ⟨a, len, cap, m, n', D, Pl, rfl, _, hl, hm, hmm, _, hcell⟩
  · exact ⟨[], _, rfl, SlE.nil _ _ _⟩
  · simp only [if_true] at hmm
    rw [hmm] at hcell
    clear hmm
    obtain ⟨f, hf⟩ := choose_lt (α := List Value × α) (n := len) (p := fun i x => w.cells? 0 (a.add (i * E.size)) E.size = some x.1 ∧ E.rd (Hp w) w x.1 x.2) (fun i hi => by
      obtain ⟨cs', h1, h2⟩ := hcell i (by omega)
      obtain ⟨x, hx⟩ := h.2 H enc w n' cs' (D i, Pl i) h2
      rw [h.1] at h1
      exact ⟨(cs', x), h1, hx⟩)
    have hall : ∀ c ∈ (List.range len).map (fun i => (f i).1), c.length = E.size := by
      intro c hc
      obtain ⟨i, hi, rfl⟩ := List.mem_map.1 hc
      exact E.len (hf i (List.mem_range.1 hi)).2
    refine ⟨(List.range len).map fun i => (f i).2, _, rfl, ⟨(List.range len).map fun i => (f i).1, by simp, ?_, by rw [flatten_len _ hall]; simp, ?_⟩⟩
    · intro i x c hx hc
      simp only [List.getElem?_map, Option.map_eq_some_iff] at hx hc
      obtain ⟨j, hj, rfl⟩ := hx
      obtain ⟨j', hj', rfl⟩ := hc
      rw [hj] at hj'
      cases hj'
      obtain ⟨hlt, rfl⟩ := List.getElem?_eq_some_iff.1 hj
      have hlt' : i < len := by simpa using hlt
      simpa using (hf i hlt').2
    · rcases Nat.eq_zero_or_pos cap with rfl | hcap
      · obtain rfl : len = 0 := by omega
        exact .inl ⟨⟨_, rfl⟩, rfl⟩
      · right
        obtain ⟨cs0, h1, -⟩ := hcell 0 hcap
        rw [h.1, Nat.zero_mul] at h1
        obtain ⟨-, h2, h3⟩ := World.cells?_some h1
        have h4 := h3 0 hs
        rw [List.getElem?_eq_getElem (by omega)] at h4
        have h5 := World.cell?_spot h4
        have h6 := World.block_lt_of_cell? w _ h4
        obtain ⟨b, off, spot⟩ := a
        obtain rfl : spot = none := by simpa [Addr.add] using h5
        have h6 : b < w.heap.size := by simpa [Addr.add] using h6
        refine ⟨b, off, cap, by simp, by simpa using hl, h6, h6, fun j hj => ?_⟩
        have hj : j < len * E.size := by simpa using hj
        have hi : j / E.size < len := Nat.div_lt_of_lt_mul (by rw [Nat.mul_comm]; exact hj)
        have hr : j % E.size < E.size := Nat.mod_lt _ hs
        have hjj : j / E.size * E.size + j % E.size = j := by rw [Nat.mul_comm]; exact Nat.div_add_mod _ _
        have hg := flat_get _ (j / E.size) (by simpa using hi) hall (j % E.size) hr
        rw [hjj] at hg
        rw [hg]
        obtain ⟨-, -, h7⟩ := World.cells?_some (hf _ hi).1
        have h8 := h7 _ hr
        rw [WideShapes.add_plain, WideShapes.add_plain, Nat.add_assoc, hjj] at h8
        rw [h8]
        simp
theorem bts_of {A : Nat → Prop} {w : World} {v : Value} {l : List UInt8} (h : SlE Enc.byte A w v l) : RB A w v l := by
  obtain ⟨cs, h1, h2, h3⟩ := h.flat
  have e : cs.flatten = l.map bv := by
    have : cs = l.map fun x => [bv x] := by
      apply List.ext_getElem?
      intro i
      by_cases hi : i < l.length
      · rw [List.getElem?_eq_getElem (by omega), List.getElem?_map, List.getElem?_eq_getElem hi]
        exact congrArg some (h2 i l[i] cs[i] (by simp [hi]) (by simp [h1, hi]))
      · rw [List.getElem?_eq_none (by omega), List.getElem?_eq_none (by simp; omega)]
    rw [this]
    clear h1 h2 h3 this h
    induction l with
    | nil => rfl
    | cons x l ih => simp [ih]
  unfold RB
  rw [← e]
  exact h3
theorem opn_bts : Opn 22 Enc.bts :=
  ⟨by kernel_rfl, fun H enc w n cs y h => by
    obtain ⟨l, v, rfl, hv⟩ := (opn_slice (E := Enc.byte) Tryd.underlying22 (by kernel_rfl) (by decide) opn_byte).2 H enc w n cs y h
    exact ⟨l, v, rfl, bts_of hv⟩⟩
section
variable {H : Type} {enc : TypeId × Value → H} {w : World} {m : Nat} {cs : List Value} {y : DataW H × List MemPlace}
theorem opn_at {α : Type} {t : TypeId} {E : Enc α} (h : Opn t E) (hy : DataW.trod enc Tryd.prog w 0 (fun _ => true) true m t cs = some y) : ∃ x, E.rd (Hp w) w cs x := h.2 H enc w m cs y hy
theorem opn_cut {α : Type} {t : TypeId} {E : Enc α} (h : Opn t E) {k : Nat} {z : Option (DataW H × List MemPlace)} (hz : z = some y) (hy : DataW.trod enc Tryd.prog w 0 (fun _ => true) true m t ((cs.drop k).take (Tryd.prog.cellsOf t)) = z) : ∃ x, E.rd (Hp w) w ((cs.drop k).take E.size) x := by
  subst hz
  rw [h.1] at hy
  exact h.2 H enc w m _ y hy
end
theorem opn_i : Opn 3 (Enc.int .i64) := opn_int Tryd.underlying3 (by kernel_rfl)
theorem opn_e : Opn 29 (Enc.int .i64) := opn_int Tryd.underlying29 (by kernel_rfl)
theorem list2' {α : Type} {l : List α} (h : l.length = 2) : ∃ a b, l = [a, b] := by
  match l, h with
  | [a, b], _ => exact ⟨a, b, rfl⟩
theorem list3' {α : Type} {l : List α} (h : l.length = 3) : ∃ a b c, l = [a, b, c] := by
  match l, h with
  | [a, b, c], _ => exact ⟨a, b, c, rfl⟩
theorem list5' {α : Type} {l : List α} (h : l.length = 5) : ∃ a b c d e, l = [a, b, c, d, e] := by
  match l, h with
  | [a, b, c, d, e], _ => exact ⟨a, b, c, d, e, rfl⟩
theorem list8' {α : Type} {l : List α} (h : l.length = 8) : ∃ a b c d e f g i, l = [a, b, c, d, e, f, g, i] := by
  match l, h with
  | [a, b, c, d, e, f, g, i], _ => exact ⟨a, b, c, d, e, f, g, i, rfl⟩
theorem list9' {α : Type} {l : List α} (h : l.length = 9) : ∃ a b c d e f g i j, l = [a, b, c, d, e, f, g, i, j] := by
  match l, h with
  | [a, b, c, d, e, f, g, i, j], _ => exact ⟨a, b, c, d, e, f, g, i, j, rfl⟩
theorem list10' {α : Type} {l : List α} (h : l.length = 10) : ∃ a b c d e f g i j k, l = [a, b, c, d, e, f, g, i, j, k] := by
  match l, h with
  | [a, b, c, d, e, f, g, i, j, k], _ => exact ⟨a, b, c, d, e, f, g, i, j, k, rfl⟩
set_option maxRecDepth 100000 in
theorem opn_op : Opn 48 Enc.op := by
  refine ⟨by kernel_rfl, fun H enc w n cs y h => ?_⟩
  obtain ⟨xs, m, _, rfl, hl, hlen, hf⟩ := DataW.trod_struct Tryd.underlying48 h
  obtain ⟨c0, c1, c2, c3, c4, rfl⟩ := list5' (hl.trans (show Tryd.prog.cellsOf 48 = 5 by kernel_rfl))
  obtain ⟨y0, y1, y2, y3, y4, rfl⟩ := list5' (l := xs) hlen
  obtain ⟨x0, e0⟩ := opn_cut (y := y0) opn_i (k := 0) rfl (hf 0 _ rfl)
  obtain ⟨x1, e1⟩ := opn_cut (y := y1) opn_i (k := 1) rfl (hf 1 _ rfl)
  obtain ⟨x2, e2⟩ := opn_cut (y := y2) opn_i (k := 2) rfl (hf 2 _ rfl)
  obtain ⟨x3, e3, -⟩ := opn_cut (y := y3) opn_str (k := 3) rfl (hf 3 _ rfl)
  obtain ⟨x4, v, e4, r4⟩ := opn_cut (y := y4) opn_bts (k := 4) rfl (hf 4 _ rfl)
  simp [Enc.int, Enc.str, Enc.bts] at e0 e1 e2 e3 e4
  subst e0 e1 e2 e3 e4
  exact ⟨⟨x0, x1, x2, x3, x4⟩, _, rfl, r4⟩
instance OpD.some : Inhabited OpD := ⟨⟨0, 0, 0, ByteArray.empty, []⟩⟩
instance KyD.some : Inhabited KyD := ⟨⟨ByteArray.empty, []⟩⟩
instance TxD.some : Inhabited TxD := ⟨TxD.none⟩
instance RqD.some : Inhabited RqD := ⟨RqD.none⟩
instance RpD.some : Inhabited RpD := ⟨RpD.none⟩
instance ObD.some : Inhabited ObD := ⟨ObD.none⟩
theorem opn_ops : Opn 26 (Enc.slice Enc.op) := opn_slice Tryd.underlying26 (by kernel_rfl) (by decide) opn_op
set_option maxRecDepth 100000 in
theorem opn_key : Opn 51 Enc.key := by
  refine ⟨by kernel_rfl, fun H enc w n cs y h => ?_⟩
  obtain ⟨xs, m, _, rfl, hl, hlen, hf⟩ := DataW.trod_struct Tryd.underlying51 h
  obtain ⟨c0, c1, rfl⟩ := list2' (hl.trans (show Tryd.prog.cellsOf 51 = 2 by kernel_rfl))
  obtain ⟨y0, y1, rfl⟩ := list2' (l := xs) hlen
  obtain ⟨x0, e0, -⟩ := opn_cut (y := y0) opn_str (k := 0) rfl (hf 0 _ rfl)
  obtain ⟨x1, v, e1, r1⟩ := opn_cut (y := y1) opn_bts (k := 1) rfl (hf 1 _ rfl)
  simp [Enc.str, Enc.bts] at e0 e1
  subst e0 e1
  exact ⟨⟨x0, x1⟩, _, rfl, r1⟩
theorem opn_keys : Opn 37 (Enc.slice Enc.key) := opn_slice Tryd.underlying37 (by kernel_rfl) (by decide) opn_key
set_option maxRecDepth 100000 in
theorem opn_ob : Opn 39 Enc.ob := by
  refine ⟨by kernel_rfl, fun H enc w n cs y h => ?_⟩
  obtain ⟨xs, m, _, rfl, hl, hlen, hf⟩ := DataW.trod_struct Tryd.underlying39 h
  obtain ⟨c0, c1, c2, rfl⟩ := list3' (hl.trans (show Tryd.prog.cellsOf 39 = 3 by kernel_rfl))
  obtain ⟨y0, y1, y2, rfl⟩ := list3' (l := xs) hlen
  obtain ⟨x0, v0, e0, r0⟩ := opn_cut (y := y0) opn_bts (k := 0) rfl (hf 0 _ rfl)
  obtain ⟨x1, v1, e1, r1⟩ := opn_cut (y := y1) opn_keys (k := 1) rfl (hf 1 _ rfl)
  obtain ⟨x2, e2⟩ := opn_cut (y := y2) opn_i (k := 2) rfl (hf 2 _ rfl)
  simp [Enc.bts, Enc.slice, Enc.int] at e0 e1 e2
  subst e0 e1 e2
  exact ⟨⟨x0, x1, x2⟩, _, _, rfl, r0, r1⟩
section
variable {H : Type} {enc : TypeId × Value → H} {W : World} {base : Nat} {v : Value} {d : DataW H} {p : List MemPlace}
set_option maxRecDepth 100000 in
/-- a struct that is handed in, by value -/
theorem opn_agg {α : Type} {t : TypeId} {E : Enc α} {fs : Array Field} (ht : Tryd.prog.underlying t = some (.struct fs)) (ho : Opn t E) (hv : Value.okWide Tryd.prog W .any base t v) (h : DataW.Trod enc Tryd.prog W 0 (fun _ => true) true t v d p) :
    ∃ cs x, v = .agg cs ∧ E.rd (Hp W) W cs.toList x := by
  obtain ⟨cs, rfl, _⟩ := okWide_struct ht hv
  obtain ⟨fuel, hf⟩ := h
  obtain ⟨x, hx⟩ := ho.2 H enc W fuel _ _ hf
  exact ⟨cs, x, rfl, hx⟩
theorem agg_of_list {cs : Array Value} {l : List Value} (h : cs.toList = l) : cs = l.toArray := by subst h; simp
set_option maxRecDepth 100000 in
theorem open_ob (hv : Value.okWide Tryd.prog W .any base 39 v) (h : DataW.Trod enc Tryd.prog W 0 (fun _ => true) true 39 v d p) : ∃ o, ObV (Hp W) W v o := by
  obtain ⟨cs, o, rfl, dv, kv, e, hd, hk⟩ := opn_agg Tryd.underlying39 opn_ob hv h
  exact ⟨o, dv, kv, by rw [agg_of_list e], hd, hk⟩
set_option maxRecDepth 100000 in
/-- an op as a value -/
theorem open_op (hv : Value.okWide Tryd.prog W .any base 48 v) (h : DataW.Trod enc Tryd.prog W 0 (fun _ => true) true 48 v d p) : ∃ (k off n : Int) (nm : ByteArray) (a : Option Addr) (c : Nat) (l : List UInt8), v = .agg #[.int .i64 k, .int .i64 off, .int .i64 n, .string nm, .slice a l.length c] ∧ RB (Hp W) W (.slice a l.length c) l := by
  obtain ⟨cs, x, rfl, u, e, hu⟩ := opn_agg Tryd.underlying48 opn_op hv h
  obtain ⟨a, c, rfl⟩ := hu.shape
  exact ⟨x.kind, x.off, x.n, x.name, a, c, x.data, by rw [agg_of_list e], hu⟩
set_option maxRecDepth 100000 in
/-- a slice that is handed in -/
theorem opn_row {α : Type} [Inhabited α] {t e : TypeId} {E : Enc α} (ht : Tryd.prog.underlying t = some (.slice e)) (hc : Tryd.prog.cellsOf t = 1) (hs : 0 < E.size) (ho : Opn e E) (hv : Value.okWide Tryd.prog W .any base t v) (h : DataW.Trod enc Tryd.prog W 0 (fun _ => true) true t v d p) :
    ∃ l, SlE E (Hp W) W v l := by
  obtain ⟨a, n, c, rfl⟩ := okWide_slice ht hv
  obtain ⟨fuel, hf⟩ := h
  obtain ⟨l, v', e, hl⟩ := (opn_slice ht hc hs ho).2 H enc W fuel _ _ hf
  simp [Value.cells] at e
  subst e
  exact ⟨l, hl⟩
end
end Go.Proofs.YtfeonfihlleoeaaDoor
