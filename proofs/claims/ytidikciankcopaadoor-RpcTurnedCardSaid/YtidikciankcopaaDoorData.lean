/- Ops, transactions, requests, keys, objects, replies as plain data, and how they lie in memory. -/
import Derived.Test.YtidikciankcopaaDoorClone
namespace Go.Proofs.YtidikciankcopaaDoor
open Go.RowKit

structure OpD where
  kind : Int
  off : Int
  n : Int
  name : ByteArray
  data : List UInt8
structure TxD where
  obj : ByteArray
  ops : List OpD
structure RqD where
  client : Int
  life : Int
  seq : Int
  kind : Int
  image : Int
  who : Int
  n : Int
  txn : TxD
structure KyD where
  name : ByteArray
  value : List UInt8
structure ObD where
  data : List UInt8
  keys : List KyD
  seq : Int
structure RpD where
  client : Int
  life : Int
  seq : Int
  e : Int
  n : Int
  index : Int
  there : Bool
  obj : ObD
def TxD.none : TxD := ⟨ByteArray.empty, []⟩
def ObD.none : ObD := ⟨[], [], 0⟩
def RqD.none : RqD := ⟨0, 0, 0, 0, 0, 0, 0, TxD.none⟩
def RpD.none : RpD := ⟨0, 0, 0, 0, 0, 0, false, ObD.none⟩

theorem RB.mono {A : Nat → Prop} {w w' : World} {v : Value} {l : List UInt8} (h : RB A w v l) (hs : Same A w w') : RB A w' v l := SlA.mono h hs
theorem RB.weak {A A' : Nat → Prop} {w : World} {v : Value} {l : List UInt8} (h : RB A w v l) (hs : ∀ b, b < w.heap.size → A b → A' b) : RB A' w v l := SlA.weak (SlA.cut h) fun b hb => hs b hb.2 hb.1
theorem RB.one {A : Nat → Prop} {w : World} {v : Value} {l : List UInt8} (h : RB A w v l) : v.oneCell' = true := by
  obtain ⟨a, c, rfl⟩ := h.shape
  rfl
def Enc.op : Enc OpD where
  size := 5
  rd := fun A w cs x => ∃ v, cs = [.int .i64 x.kind, .int .i64 x.off, .int .i64 x.n, .string x.name, v] ∧ RB A w v x.data
  len := fun ⟨v, h, _⟩ => by rw [h]; rfl
  one := fun ⟨v, h, hv⟩ u hu => by
    rw [h] at hu
    simp at hu
    rcases hu with rfl | rfl | rfl | rfl | rfl
    all_goals first | rfl | exact hv.one
  mono := fun ⟨v, h, hv⟩ hs => ⟨v, h, hv.mono hs⟩
  weak := fun ⟨v, h, hv⟩ hs => ⟨v, h, hv.weak hs⟩
def Enc.key : Enc KyD where
  size := 2
  rd := fun A w cs x => ∃ v, cs = [.string x.name, v] ∧ RB A w v x.value
  len := fun ⟨v, h, _⟩ => by rw [h]; rfl
  one := fun ⟨v, h, hv⟩ u hu => by
    rw [h] at hu
    simp at hu
    rcases hu with rfl | rfl
    all_goals first | rfl | exact hv.one
  mono := fun ⟨v, h, hv⟩ hs => ⟨v, h, hv.mono hs⟩
  weak := fun ⟨v, h, hv⟩ hs => ⟨v, h, hv.weak hs⟩
abbrev Ops := SlE Enc.op
abbrev Keys := SlE Enc.key
theorem SlE.one {α : Type} {E : Enc α} {A : Nat → Prop} {w : World} {v : Value} {l : List α} (h : SlE E A w v l) : v.oneCell' = true := by
  obtain ⟨a, c, rfl⟩ := h.shape
  rfl
theorem SlE.ext {α : Type} {E : Enc α} {A : Nat → Prop} {w w' : World} {v : Value} {l : List α} (h : SlE E A w v l) (hb : Below w.heap.size w w') : SlE E A w' v l := h.mono (Same.of_ext hb)
/-- the cells of a row of data, flat -/
theorem SlE.flat {α : Type} {E : Enc α} {A : Nat → Prop} {w : World} {v : Value} {l : List α} (h : SlE E A w v l) :
    ∃ cs : List (List Value), cs.length = l.length ∧ (∀ (i : Nat) (x : α) (c : List Value), l[i]? = some x → cs[i]? = some c → E.rd A w c x) ∧ SlA A w E.size v l.length cs.flatten := by
  obtain ⟨cs, h1, h2, h3, h4⟩ := h.ex
  refine ⟨cs, h1, h2, h3, h4.imp (fun ⟨a, b⟩ => ⟨a, by rw [b]; rfl⟩) ?_⟩
  rintro ⟨b, off, cap, rfl, hc, hA, hl, hx⟩
  exact ⟨b, off, cap, rfl, hl, hA, hc, hx⟩
theorem SlE.of_flat {α : Type} {E : Enc α} {A : Nat → Prop} {w : World} {v : Value} {l : List α} {cs : List (List Value)} (h1 : cs.length = l.length)
    (h2 : ∀ (i : Nat) (x : α) (c : List Value), l[i]? = some x → cs[i]? = some c → E.rd A w c x) (h : SlA A w E.size v l.length cs.flatten) : SlE E A w v l := by
  obtain ⟨h3, h4⟩ := h
  refine ⟨cs, h1, h2, h3, h4.imp (fun ⟨a, b⟩ => ⟨a, List.length_eq_zero_iff.1 b⟩) ?_⟩
  rintro ⟨b, off, cap, rfl, hl, hA, hc, hx⟩
  exact ⟨b, off, cap, rfl, hc, hA, hl, hx⟩
theorem SlE.cut {α : Type} {E : Enc α} {A : Nat → Prop} {w : World} {v : Value} {l : List α} (h : SlE E A w v l) : SlE E (fun b => A b ∧ b < w.heap.size) w v l := h.weak fun b hb hA => ⟨hA, hb⟩
theorem SlE.len_le {α : Type} {E : Enc α} {A : Nat → Prop} {w : World} {a : Option Addr} {n c : Nat} {l : List α} (h : SlE E A w (.slice a n c) l) : n = l.length ∧ n ≤ c := by
  obtain ⟨cs, h1, h2, h3, ⟨⟨a0, e⟩, rfl⟩ | ⟨b, off, cap, e, hc, _⟩⟩ := h.ex
  · simp only [Value.slice.injEq] at e
    obtain ⟨_, rfl, rfl⟩ := e
    simp
  · simp only [Value.slice.injEq] at e
    obtain ⟨_, rfl, rfl⟩ := e
    exact ⟨rfl, hc⟩
/-- an op's cells, at its place in a row -/
theorem Ops.at {A : Nat → Prop} {w : World} {a : Option Addr} {n c : Nat} {l : List OpD} (h : SlE Enc.op A w (.slice a n c) l) {i : Nat} (hi : i < l.length) :
    ∃ b off v, a = some ⟨b, off, none⟩ ∧ b < w.heap.size ∧ A b ∧ w.cell? ⟨b, off + i * 5, none⟩ = some (.int .i64 l[i].kind) ∧ w.cell? ⟨b, off + i * 5 + 1, none⟩ = some (.int .i64 l[i].off) ∧
      w.cell? ⟨b, off + i * 5 + 2, none⟩ = some (.int .i64 l[i].n) ∧ w.cell? ⟨b, off + i * 5 + 3, none⟩ = some (.string l[i].name) ∧ w.cell? ⟨b, off + i * 5 + 4, none⟩ = some v ∧ RB A w v l[i].data := by
  obtain ⟨b, off, cap, cs, e, hb, hA, ⟨v, rfl, hv⟩, hc⟩ := h.at (i := i) (x := l[i]) (by simp [hi])
  simp only [Value.slice.injEq] at e
  obtain ⟨rfl, _, _⟩ := e
  refine ⟨b, off, v, rfl, hb, hA, hc 0 (by decide), hc 1 (by decide), hc 2 (by decide), hc 3 (by decide), hc 4 (by decide), hv⟩
theorem Keys.at {A : Nat → Prop} {w : World} {a : Option Addr} {n c : Nat} {l : List KyD} (h : SlE Enc.key A w (.slice a n c) l) {i : Nat} (hi : i < l.length) :
    ∃ b off v, a = some ⟨b, off, none⟩ ∧ b < w.heap.size ∧ A b ∧ w.cell? ⟨b, off + i * 2, none⟩ = some (.string l[i].name) ∧ w.cell? ⟨b, off + i * 2 + 1, none⟩ = some v ∧ RB A w v l[i].value := by
  obtain ⟨b, off, cap, cs, e, hb, hA, ⟨v, rfl, hv⟩, hc⟩ := h.at (i := i) (x := l[i]) (by simp [hi])
  simp only [Value.slice.injEq] at e
  obtain ⟨rfl, _, _⟩ := e
  exact ⟨b, off, v, rfl, hb, hA, hc 0 (by decide), hc 1 (by decide), hv⟩
end Go.Proofs.YtidikciankcopaaDoor
