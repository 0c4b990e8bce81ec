/- Law 09: what is small enough. Law 19: which heads are small enough. The walk of terrazzoref09.Same, at data that are the same. -/
import Derived.Test.YtlekdfajcpmolaaGreatDoorGCX
import Derived.Test.YtlekdfajcpmolaaGreatDoorGCH
import Derived.Test.YtlekdfajcpmolaaGreatDoorGAF
import Derived.Test.YtlekdfajcpmolaaGreatDoorGCP
import Derived.Test.YtlekdfajcpmolaaGreatDoorGCY
namespace Go.Proofs.YtlekdfajcpmolaaGreatDoor
open Go.RowKit Go.WideShapes

def kyP (k : KyD) : Prop := k.value.length ≤ 3000 ∧ k.name.size ≤ 100
def opsP (o : OpD) : Prop := o.data.length ≤ 3000 ∧ o.name.size ≤ 100
structure Few9 (o : ObD) (t : TxD) : Prop where
  data : o.data.length ≤ 200
  keys : o.keys.length ≤ 200
  ops : t.ops.length ≤ 40
  obj : t.obj.size ≤ 100
  key : ∀ k ∈ o.keys, kyP k
  op : ∀ x ∈ t.ops, opsP x
theorem Few9.okl {o : ObD} {t : TxD} (h : Few9 o t) : o.okl := ⟨by have := h.data; omega, by have := h.keys; omega, fun k hk => by have := (h.key k hk).1; omega⟩
theorem all_take_succ {α : Type} {P : α → Prop} {l : List α} {k : Nat} (h : ∀ x ∈ l.take k, P x) (hk : k < l.length) (h1 : P l[k]) : ∀ x ∈ l.take (k + 1), P x := by
  intro o ho
  rw [List.take_succ_eq_append_getElem hk] at ho
  rcases List.mem_append.1 ho with ho | ho
  · exact h o ho
  · simp at ho
    subst ho
    exact h1
end Go.Proofs.YtlekdfajcpmolaaGreatDoor
namespace Go.Proofs.YtlekdfajcpmolaaGreatDoor
open Go.RowKit Go.WideShapes

def snP (s : SnD) : Prop := s.map.length ≤ 1000
structure Few19 (h : HeD) : Prop where
  mk ::
  map : h.map.length ≤ 1000
  snaps : h.snaps.length ≤ 10
  each : ∀ s ∈ h.snaps, snP s
theorem Few19.okl {h : HeD} (f : Few19 h) : h.okl := ⟨Nat.le_trans f.map (by decide), Nat.le_trans f.snaps (by decide), fun s hs => Nat.le_trans (f.each s hs) (by decide)⟩
def Few19R (h : HeD) (w : World) (e : Ending) (w' : World) : Prop := ∃ b, e = .returned (.bool b) ∧ (b = true → Few19 h) ∧ Below w.heap.size w w'
set_option maxRecDepth 100000 in
set_option maxHeartbeats 8000000 in
theorem few19_any (A : Nat → Prop) (h : HeD) (v : Value) (w : World) (hv : HeV A w v h) : Calls Tryz.prog 10 #[v] w (Few19R h w) := by
  obtain ⟨mv, sv, rfl, h1, h2⟩ := hv
  obtain ⟨ma, mc, rfl⟩ := h1.shape
  obtain ⟨sa, sc, rfl⟩ := h2.shape
  obtain ⟨u, c, o, sz, m, ss, la, sq⟩ := h
  unfold hdV
  simp only at *
  have HS := Lib.hid h2
  clear h1 h2
  by_cases k1 : (1000 : Int) < m.length
  · go_enter Tryz.func10, Tryz.ntmps10
    go_wp2
    go_ret
    exact ⟨false, rfl, by simp, by ((repeat' (first | exact Below.refl _ _ | refine below_drewN ?_ _ | refine Below.drew ?_ | refine Below.alloc ?_ ?_ _ | refine Below.trans ?_ (Below.mono (by assumption) ?_))); all_goals (first | exact Nat.le_refl _ | exact Below.size (by assumption) | omega | (simp; done) | (simp; omega)))⟩
  by_cases k2 : (10 : Int) < ss.length
  · go_enter Tryz.func10, Tryz.ntmps10
    go_wp2
    go_ret
    exact ⟨false, rfl, by simp, by ((repeat' (first | exact Below.refl _ _ | refine below_drewN ?_ _ | refine Below.drew ?_ | refine Below.alloc ?_ ?_ _ | refine Below.trans ?_ (Below.mono (by assumption) ?_))); all_goals (first | exact Nat.le_refl _ | exact Below.size (by assumption) | omega | (simp; done) | (simp; omega)))⟩
  go_enter Tryz.func10, Tryz.ntmps10
  go_wp2
  obtain ⟨w0, hw0⟩ : ∃ w0, w0 = w.alloc (.cells #[.int .i64 u, .int .i64 c, .int .i64 o, .int .i64 sz, .slice ma m.length mc, .slice sa ss.length sc, .int .i64 la, .int .i64 sq] 27) := ⟨_, rfl⟩
  rw [← hw0]
  have hb0 : Below w.heap.size w w0 := by rw [hw0]; ((repeat' (first | exact Below.refl _ _ | refine below_drewN ?_ _ | refine Below.drew ?_ | refine Below.alloc ?_ ?_ _ | refine Below.trans ?_ (Below.mono (by assumption) ?_))); all_goals (first | exact Nat.le_refl _ | exact Below.size (by assumption) | omega | (simp; done) | (simp; omega)))
  have HW := Lib.hid hb0
  have P0 := Lib.hid (show w0.heap[w.heap.size]? = some (.cells #[.int .i64 u, .int .i64 c, .int .i64 o, .int .i64 sz, .slice ma m.length mc, .slice sa ss.length sc, .int .i64 la, .int .i64 sq] 27 (0, 0)) from by rw [hw0]; exact heap_alloc_new _ _)
  have HS0 := Lib.hid (SlE.ext HS.out hb0)
  obtain ⟨y0, g0⟩ := blk_cell (i := 0) P0.out
  obtain ⟨y1, g1⟩ := blk_cell (i := 1) P0.out
  obtain ⟨y2, g2⟩ := blk_cell (i := 2) P0.out
  obtain ⟨y3, g3⟩ := blk_cell (i := 3) P0.out
  obtain ⟨y4, g4⟩ := blk_cell (i := 4) P0.out
  obtain ⟨y5, g5⟩ := blk_cell (i := 5) P0.out
  obtain ⟨y6, g6⟩ := blk_cell (i := 6) P0.out
  obtain ⟨y7, g7⟩ := blk_cell (i := 7) P0.out
  simp at y0 y1 y2 y3 y4 y5 y6 y7
  clear hw0 hb0 HS g0 g1 g2 g3 g4 g5 g6 g7
  go_loopw [3] (fun q wr => ∃ k : Nat, k ≤ ss.length ∧ q = .int .i64 k ∧ w0 = wr ∧ ∀ x ∈ ss.take k, snP x) (fun q _ => ss.length - (intOf q).toNat)
  case atStart => exact ⟨0, Nat.zero_le _, rfl, rfl, fun o ho => by simp at ho⟩
  case round =>
    obtain ⟨k, hk, rfl, rfl, hf⟩ := hrel
    have HF := Lib.hid hf
    clear hf
    by_cases hlt : k < ss.length
    · obtain ⟨b, off, x, rfl, hb, -, c0, c1, c2, hx⟩ := Snaps.at HS0.out hlt
      obtain ⟨xa, xc, rfl⟩ := hx.shape
      have HF1 : Hid (snP ss[k] → ∀ x ∈ ss.take (k + 1), snP x) := Lib.hid (all_take_succ HF.out hlt)
      clear hx HS0
      generalize ss[k] = s at *
      by_cases d1 : (1000 : Int) < s.map.length
      · go_wp2
        go_ret
        exact ⟨false, rfl, by simp, HW.out⟩
      · go_wp2
        go_roundw
        case rel => exact ⟨k + 1, by omega, by go_num, trivial, HF1.out (by show s.map.length ≤ 1000; omega)⟩
        case measure => simp [intOf]; omega
    · have HSS : Hid (∀ x ∈ ss, snP x) := Lib.hid (by have := HF.out; rw [List.take_of_length_le (by omega)] at this; exact this)
      clear HF
      go_wp2
      go_ret
      exact ⟨true, rfl, fun _ => ⟨by show m.length ≤ 1000; omega, by show ss.length ≤ 10; omega, HSS.out⟩, HW.out⟩
end Go.Proofs.YtlekdfajcpmolaaGreatDoor
namespace Go.Proofs.YtlekdfajcpmolaaGreatDoor
open Go.RowKit Go.WideShapes

/-- a call that answers yes and makes nothing but memory -/
def Yes9 (w : World) (e : Ending) (w' : World) : Prop := e = .returned (.bool true) ∧ Below w.heap.size w w'
set_option maxRecDepth 100000 in
set_option maxHeartbeats 4000000 in
theorem same9_yes (A B : Nat → Prop) (t : TxD) (va vb : Value) (w : World) (ha : SlE Enc.op A w va t.ops) (hb : SlE Enc.op B w vb t.ops) (hl : t.ops.length ≤ 100000) :
    Calls Tryz.prog 19 #[.agg #[.string t.obj, va], .agg #[.string t.obj, vb]] w (Yes9 w) := by
  obtain ⟨aa, ca, rfl⟩ := ha.shape
  obtain ⟨ab, cb, rfl⟩ := hb.shape
  obtain ⟨ob, ops⟩ := t
  simp only at *
  have HA := Lib.hid ha
  have HB := Lib.hid hb
  clear ha hb
  go_enter Tryz.func19, Tryz.ntmps19
  go_wp2
  obtain ⟨w0, hw0⟩ : ∃ w0, w0 = (w.alloc (.cells #[.string ob, .slice aa ops.length ca] 42)).alloc (.cells #[.string ob, .slice ab ops.length cb] 42) := ⟨_, rfl⟩
  rw [← hw0]
  have B0 : w0.heap[w.heap.size]? = some (.cells #[.string ob, .slice aa ops.length ca] 42 (0, 0)) := by rw [hw0]; exact (Below.heap_alloc _ _ _ (by simp)).trans (heap_alloc_new _ _)
  have B1 : w0.heap[w.heap.size + 1]? = some (.cells #[.string ob, .slice ab ops.length cb] 42 (0, 0)) := by rw [hw0]; exact heap_alloc2_new _ _ _
  have hw : Below w.heap.size w w0 := by rw [hw0]; ((repeat' (first | exact Below.refl _ _ | refine below_drewN ?_ _ | refine Below.drew ?_ | refine Below.alloc ?_ ?_ _ | refine Below.trans ?_ (Below.mono (by assumption) ?_))); all_goals (first | exact Nat.le_refl _ | exact Below.size (by assumption) | omega | (simp; done) | (simp; omega)))
  have HA0 := Lib.hid (HA.out.ext hw)
  have HB0 := Lib.hid (HB.out.ext hw)
  have HW := Lib.hid hw
  have HB0' := Lib.hid B0
  have HB1' := Lib.hid B1
  clear hw0 hw B0 B1 HA HB
  go_loopw [5] (fun q wr => ∃ k : Nat, k ≤ ops.length ∧ q = .int .i64 k ∧ Below w0.heap.size w0 wr) (fun q _ => ops.length - (intOf q).toNat)
  case atStart => exact ⟨0, Nat.zero_le _, rfl, Below.refl _ _⟩
  case round =>
    obtain ⟨k, hk, rfl, hbr⟩ := hrel
    have HBR := Lib.hid hbr
    have h0 : w.heap.size < w0.heap.size := (Array.getElem?_eq_some_iff.1 HB0'.out).1
    have h1 : w.heap.size + 1 < w0.heap.size := (Array.getElem?_eq_some_iff.1 HB1'.out).1
    have hsr := hbr.size
    have hl0 : w.heap.size < wr.heap.size := by omega
    have hl1 : w.heap.size + 1 < wr.heap.size := by omega
    obtain ⟨x1, f1⟩ := blk_cell (i := 1) ((hbr.block _ h0).trans HB0'.out)
    obtain ⟨y1, g1⟩ := blk_cell (i := 1) ((hbr.block _ h1).trans HB1'.out)
    simp at x1 y1
    clear hbr
    by_cases hlt : k < ops.length
    · have HAr := Lib.hid (HA0.out.ext HBR.out)
      have HBr := Lib.hid (HB0.out.ext HBR.out)
      obtain ⟨b, off, v, rfl, hb, -, c0, c1, c2, c3, c4, hv⟩ := Ops.at HAr.out hlt
      obtain ⟨b', off', v', rfl, hb', -, d0, d1, d2, d3, d4, hv'⟩ := Ops.at HBr.out hlt
      obtain ⟨va, vc, rfl⟩ := hv.shape
      obtain ⟨va', vc', rfl⟩ := hv'.shape
      have s1 : ∀ o1 o2, (Go.convert 28 9 (.slice va (ops[k]).data.length vc)).run Tryz.prog ((wr.alloc o1).alloc o2) = .ok (.string ⟨(ops[k]).data.toArray⟩) ((wr.alloc o1).alloc o2) := fun o1 o2 => cnv_bytes hv _ (by ((repeat' (first | exact Below.refl _ _ | refine below_drewN ?_ _ | refine Below.drew ?_ | refine Below.alloc ?_ ?_ _ | refine Below.trans ?_ (Below.mono (by assumption) ?_))); all_goals (first | exact Nat.le_refl _ | exact Below.size (by assumption) | omega | (simp; done) | (simp; omega))))
      have s2 : ∀ o1 o2, (Go.convert 28 9 (.slice va' (ops[k]).data.length vc')).run Tryz.prog ((wr.alloc o1).alloc o2) = .ok (.string ⟨(ops[k]).data.toArray⟩) ((wr.alloc o1).alloc o2) := fun o1 o2 => cnv_bytes hv' _ (by ((repeat' (first | exact Below.refl _ _ | refine below_drewN ?_ _ | refine Below.drew ?_ | refine Below.alloc ?_ ?_ _ | refine Below.trans ?_ (Below.mono (by assumption) ?_))); all_goals (first | exact Nat.le_refl _ | exact Below.size (by assumption) | omega | (simp; done) | (simp; omega))))
      clear hv hv'
      go_wp2
      go_roundw
      case rel => exact ⟨k + 1, by omega, by go_num, HBR.out.trans (Below.mono (by ((repeat' (first | exact Below.refl _ _ | refine below_drewN ?_ _ | refine Below.drew ?_ | refine Below.alloc ?_ ?_ _ | refine Below.trans ?_ (Below.mono (by assumption) ?_))); all_goals (first | exact Nat.le_refl _ | exact Below.size (by assumption) | omega | (simp; done) | (simp; omega))) : Below wr.heap.size wr _) hsr)⟩
      case measure => simp [intOf]; omega
    · go_wp2
      go_ret
      exact ⟨rfl, HW.out.trans (HBR.out.mono HW.out.size)⟩
end Go.Proofs.YtlekdfajcpmolaaGreatDoor
