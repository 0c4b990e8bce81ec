/- The walks of object.Get, object.from, object.At: the first key that meets something. The walks of object.from, object.At, object.spot, object.Read. The walk of object.Read. The walk of object.Clone: what it hands back is the call's own, part by part. -/
import Derived.Test.YtlekdfajcpmolaaGreatDoorGAC
import Derived.Laws.CopyRow
import Derived.Test.YtlekdfajcpmolaaGreatDoorGCF
import Derived.OwnWalk
import Derived.Deep.DrawnRows
import Derived.Laws.OwnMore
namespace Go.Proofs.YtlekdfajcpmolaaGreatDoor
open Go.RowKit Go.WideShapes

theorem e0 (s : ByteArray) : s.size = 0 ↔ s.toList = [] := by
  rw [Lib.toList_data, ← List.length_eq_zero_iff]
  exact Iff.rfl
/-! The first place at which something is so -/
theorem tw_get {α : Type} (q : α → Bool) : ∀ (l : List α) (i : Nat) x, i < (l.takeWhile q).length → l[i]? = some x → q x = true
  | [], i, x, h, _ => by simp at h
  | y :: l, i, x, h, hx => by
    rw [List.takeWhile_cons] at h
    by_cases hy : q y = true
    · rw [if_pos hy] at h
      cases i with
      | zero => simp at hx; subst hx; exact hy
      | succ i => exact tw_get q l i x (by simpa using h) (by simpa using hx)
    · rw [if_neg hy] at h
      simp at h
theorem tw_stop {α : Type} (q : α → Bool) : ∀ (l : List α) x, l[(l.takeWhile q).length]? = some x → q x = false
  | [], x, h => by simp at h
  | y :: l, x, h => by
    rw [List.takeWhile_cons] at h
    by_cases hy : q y = true
    · rw [if_pos hy] at h
      exact tw_stop q l x (by simpa using h)
    · rw [if_neg hy] at h
      simp at h
      subst h
      simpa using hy
theorem tw_le {α : Type} (q : α → Bool) (l : List α) : (l.takeWhile q).length ≤ l.length := (List.takeWhile_sublist q).length_le
/-- what a call that hands back new bytes, and whether there are any, leaves -/
structure ObD.okl (o : ObD) : Prop where
  data : o.data.length ≤ 1000000
  keys : o.keys.length ≤ 10000
  vals : ∀ k ∈ o.keys, k.value.length ≤ 1000000
end Go.Proofs.YtlekdfajcpmolaaGreatDoor
namespace Go.Proofs.YtlekdfajcpmolaaGreatDoor
open Go.RowKit Go.WideShapes

end Go.Proofs.YtlekdfajcpmolaaGreatDoor
namespace Go.Proofs.YtlekdfajcpmolaaGreatDoor
open Go.RowKit Go.WideShapes

end Go.Proofs.YtlekdfajcpmolaaGreatDoor
namespace Go.Proofs.YtlekdfajcpmolaaGreatDoor
open Go.RowKit Go.WideShapes

theorem owns_keep {w w' : World} {base size n : Nat} {e : TypeId} {v : Value} {xs : List Value} (h : w.ownsRow base e size v n xs) (hb : ∀ g, v.ownBlock = some g → w'.heap[g]? = w.heap[g]?) : w'.ownsRow base e size v n xs := by
  refine ⟨h.1, h.2.imp id ?_⟩
  rintro ⟨g, cap, cur, rfl, h1, h2, h3⟩
  exact ⟨g, cap, cur, rfl, h1, by rw [hb g rfl]; exact h2, h3⟩
theorem OB.keep {w w' : World} {base : Nat} {v : Value} {l : List UInt8} (h : OB base w v l) (hb : ∀ g, v.ownBlock = some g → w'.heap[g]? = w.heap[g]?) : OB base w' v l := owns_keep h hb
/-- a block of bytes that may be written -/
def U8 (w : World) (b : Nat) : Prop := ∃ cs, w.heap[b]? = some (.cells cs 5 (0, 0))
theorem U8.of_eq {w w' : World} {b : Nat} (h : U8 w b) (e : w'.heap[b]? = w.heap[b]?) : U8 w' b := by
  obtain ⟨cs, h⟩ := h
  exact ⟨cs, e.trans h⟩
theorem OB.rbU {base : Nat} {w : World} {v : Value} {l : List UInt8} (h : OB base w v l) : RB (fun b => base ≤ b ∧ U8 w b) w v l := by
  have h' := h
  refine ⟨h.1, h.2.imp (fun ⟨h1, h2⟩ => ⟨⟨_, h1⟩, h2⟩) ?_⟩
  rintro ⟨g, cap, cur, rfl, hb, hg, hn, -⟩
  refine ⟨g, 0, cap, rfl, (Array.getElem?_eq_some_iff.1 hg).1, ⟨hb, cur, hg⟩, hn, fun j hj => ?_⟩
  have := World.ownsRow.cellAt h' j hj
  simpa using this
/-- cells whose blocks stand as they stood -/
theorem CI.sameU {α : Type} {F : Fb α} {X Y : Nat → Nat → Prop} {w w' : World} {cs : List (List Value)} {l : List α} (h : CI F X w cs l) (hs : ∀ i b, X i b → b < w.heap.size → w'.heap[b]? = w.heap[b]?) (hsz : w.heap.size ≤ w'.heap.size)
    (hY : ∀ i b, i < l.length → b < w.heap.size → X i b → w'.heap[b]? = w.heap[b]? → Y i b) : CI F Y w' cs l :=
  ((h.weak (Y := fun i b => X i b ∧ b < w.heap.size) fun _i _b _ hb h => ⟨h, hb⟩).same fun i => ⟨hsz, fun b h hb => hs i b h.1 hb⟩).weak fun i b hi _ h => hY i b hi h.2 h.1 (hs i b h.1 h.2)
/-- an object of the call's own: its data, its keys' row, its keys' values lie in blocks from base on, each apart from the others -/
structure Own8 (base : Nat) (w : World) (dv kv : Value) (o : ObD) : Prop where
  mk ::
  data : OB base w dv o.data
  ex : ∃ cs, w.ownsRow base 132 2 kv o.keys.length cs.flatten ∧ CI Fb.key (fun _ b => base ≤ b ∧ kv.ownBlock ≠ some b ∧ dv.ownBlock ≠ some b ∧ U8 w b) w cs o.keys
/-- where the parts of a call's own object stand as they stood -/
theorem Own8.keep {base : Nat} {w w' : World} {dv kv : Value} {o : ObD} (h : Own8 base w dv kv o) (hs : Same (fun b => base ≤ b) w w') : Own8 base w' dv kv o := by
  obtain ⟨hd, cs, hk, hc⟩ := h
  exact ⟨hd.keep fun g hg => hs.block g (hd.lt g hg).1 (hd.lt g hg).2, cs, owns_keep hk fun g hg => hs.block g (hk.lt g hg).1 (hk.lt g hg).2, hc.sameU (fun i b h hb => hs.block b h.1 hb) hs.size fun i b _ _ h e => ⟨h.1, h.2.1, h.2.2.1, h.2.2.2.of_eq e⟩⟩
theorem Own8.obv {base : Nat} {w : World} {dv kv : Value} {o : ObD} (h : Own8 base w dv kv o) : ObV (fun b => base ≤ b) w (.agg #[dv, kv, .int .i64 o.seq]) o := by
  obtain ⟨hd, cs, hk, hc⟩ := h
  exact ⟨_, _, rfl, hd.rb, hc.whole (fun i b _ _ hb => hb.1) (SlA.of_owns hk)⟩
theorem CI.nil {α : Type} (F : Fb α) (X : Nat → Nat → Prop) (w : World) : CI F X w [] [] := ⟨rfl, fun i x c hx => by simp at hx⟩
theorem Own8.none (base : Nat) (w : World) : Own8 base w (.slice none 0 0) (.slice none 0 0) ObD.none := ⟨OB.nil _ _, [], World.ownsRow_nil _ _ _ _, CI.nil _ _ _⟩
attribute [local go_sem ↓] Go.wp_at_zero Go.wp_at_succ
end Go.Proofs.YtlekdfajcpmolaaGreatDoor
