/- The walks of object.refuse, object.limit, object.key. Rows of bytes of the call's own: noughts put behind, bytes laid over, noughts laid over, cut. The walks of object.data, kind by kind. The walks of object.data: noughts, cuts. The walk of object.change, kind by kind. The walk of object.change, the other kinds. The walks of bytes.Equal, slices.EqualFunc at keys, object.Same. The walk of object.guard. The walk of object.change, the rest; object.change at any kind. errors.As at a refusal of object: the walk. -/
import Derived.Test.YtlekdfajcpmolaaGreatDoorGCO
import Derived.Lib.AppendZerosOnto
import Derived.Lib.SliceRun
import Derived.BigRegion
import Derived.Test.YtlekdfajcpmolaaGreatDoorGCN
import Derived.Laws.IdiomStrings
namespace Go.Proofs.YtlekdfajcpmolaaGreatDoor
open Go.RowKit Go.WideShapes

/-- an object in a box of its own, its parts the call's own -/
structure IsO (base pb : Nat) (w : World) (dv kv : Value) (o : ObD) : Prop where
  lt : pb < base
  le : base ≤ w.heap.size
  blk : w.heap[pb]? = some (.cells #[dv, kv, .int .i64 o.seq] 69 (0, 0))
  own : Own8 base w dv kv o
theorem IsO.ext {base pb : Nat} {w w' : World} {dv kv : Value} {o : ObD} (h : IsO base pb w dv kv o) (hb : Below w.heap.size w w') : IsO base pb w' dv kv o :=
  ⟨h.lt, Nat.le_trans h.le hb.size, (hb.block _ (by have := h.lt; have := h.le; omega)).trans h.blk, h.own.keep (Same.of_ext hb)⟩
/-- what stands in blocks below base, but for the box, stays -/
def Chg (base pb : Nat) : Nat → Prop := fun k => k = pb ∨ base ≤ k
end Go.Proofs.YtlekdfajcpmolaaGreatDoor
namespace Go.Proofs.YtlekdfajcpmolaaGreatDoor
open Go.RowKit Go.WideShapes Go.Lib

section
variable {P : Program} {w : World} {ops : Array Oper} {rest : List Oper} {o : Oper} {a : Act} {Q : Exit → Act → World → Prop}
end
/-- bytes laid over a row of the call's own -/
theorem OB.over {base g n c off : Nat} {w : World} {l x : List UInt8} {cur : Array Value} (ho : OB base w (.slice (some ⟨g, 0, none⟩) n c) l) (hg : w.heap[g]? = some (.cells cur 5 (0, 0))) (hf : off + x.length ≤ l.length) :
    OB base (w.setRow g (cur.toList.take off ++ x.map bv ++ cur.toList.drop (off + (x.map bv).length)).toArray) (.slice (some ⟨g, 0, none⟩) n c) (l.take off ++ x ++ l.drop (off + x.length)) := by
  obtain ⟨hl, ⟨e, -⟩ | ⟨g', c', cur', e, hbg, hg', hnc, hcm, hcs, ht⟩⟩ := ho
  · simp at e
  · simp only [Value.slice.injEq, Option.some.injEq, Addr.mk.injEq] at e
    obtain ⟨⟨rfl, -⟩, rfl, rfl⟩ := e
    rw [hg] at hg'
    simp only [Option.some.injEq, Obj.cells.injEq] at hg'
    obtain ⟨rfl, -, -⟩ := hg'
    have hlen : (l.take off ++ x ++ l.drop (off + x.length)).length = l.length := by simp; omega
    refine ⟨by simp, .inr ⟨g, c, _, by rw [hlen], hbg, setRow_heap w g _ _ _ _ hg, by omega, hcm, ?_, ?_⟩⟩
    · simp; omega
    · rw [hlen]
      have e1 : cur.toList.take l.length = l.map bv := by simpa using ht
      have e2 : cur.toList.take off = (l.map bv).take off := by rw [← e1, List.take_take]; congr 1; omega
      have e3 : (cur.toList.drop (off + x.length)).take (l.length - (off + x.length)) = (l.map bv).drop (off + x.length) := by rw [← e1, List.drop_take]
      rw [Nat.mul_one, List.length_map, e2]
      have hk : l.length = ((l.map bv).take off ++ x.map bv).length + (l.length - (off + x.length)) := by simp; omega
      rw [hk, List.take_length_add_append, e3]
      simp
end Go.Proofs.YtlekdfajcpmolaaGreatDoor
namespace Go.Proofs.YtlekdfajcpmolaaGreatDoor
open Go.RowKit Go.WideShapes Go.Lib

theorem hn8x : Hid ((Tryz.prog.info? 5).map (·.size) = some 1) := by
  show _ = _
  kernel_rfl
end Go.Proofs.YtlekdfajcpmolaaGreatDoor
namespace Go.Proofs.YtlekdfajcpmolaaGreatDoor
open Go.RowKit Go.WideShapes Go.Lib

end Go.Proofs.YtlekdfajcpmolaaGreatDoor
namespace Go.Proofs.YtlekdfajcpmolaaGreatDoor
open Go.RowKit Go.WideShapes

end Go.Proofs.YtlekdfajcpmolaaGreatDoor
namespace Go.Proofs.YtlekdfajcpmolaaGreatDoor
open Go.RowKit Go.WideShapes

theorem IsO.after {base pb : Nat} {dv kv : Value} {o0 : ObD} {w w' w2 : World} (h : IsO base pb w' dv kv o0 ∧ Fr (Chg base pb) w w') (hb : Below w'.heap.size w' w2) : IsO base pb w2 dv kv o0 ∧ Fr (Chg base pb) w w2 :=
  ⟨h.1.ext hb, Fr.trans (S := Chg base pb) (T := Chg base pb) h.2 (Fr.ext hb) (fun _ _ h => h)⟩
end Go.Proofs.YtlekdfajcpmolaaGreatDoor
namespace Go.Proofs.YtlekdfajcpmolaaGreatDoor
open Go.RowKit Go.WideShapes

theorem cnv_bytes {A : Nat → Prop} {w : World} {v : Value} {l : List UInt8} (h : RB A w v l) (W : World) (hW : Below w.heap.size w W) : (Go.convert 28 9 v).run Tryz.prog W = .ok (.string ⟨l.toArray⟩) W := by
  obtain ⟨a, c, rfl⟩ := h.shape
  cases a with
  | none =>
    obtain ⟨h0, -, -⟩ := SlA.none_ h
    obtain rfl := List.eq_nil_of_length_eq_zero h0
    exact run_convert_bytes_nil W _ 5 Tryz.underlying28 Tryz.underlying5 _ _ _ Tryz.underlying9
  | some p =>
    refine run_convert_bytes_back W 28 9 5 p c l Tryz.underlying28 Tryz.underlying5 Tryz.underlying9 fun j hj => ?_
    exact cellExt hW ((SlA.src h).2.2 j _ (bv_at hj))
/-- a call that answers so and makes nothing but memory -/
def Says (b : Bool) (w : World) (e : Ending) (w' : World) : Prop := e = .returned (.bool b) ∧ Below w.heap.size w w'
end Go.Proofs.YtlekdfajcpmolaaGreatDoor
namespace Go.Proofs.YtlekdfajcpmolaaGreatDoor
open Go.RowKit Go.WideShapes

end Go.Proofs.YtlekdfajcpmolaaGreatDoor
namespace Go.Proofs.YtlekdfajcpmolaaGreatDoor
open Go.RowKit Go.WideShapes

end Go.Proofs.YtlekdfajcpmolaaGreatDoor
namespace Go.Proofs.YtlekdfajcpmolaaGreatDoor
open Go.RowKit Go.Extern.Stop Go.Stop Go.Extern

end Go.Proofs.YtlekdfajcpmolaaGreatDoor
