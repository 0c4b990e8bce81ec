/- The walks of journal.Append and of the reference's Append. -/
import Derived.Test.YtfeonfihlleoeaaDoorEe20
import Derived.Test.YtfeonfihlleoeaaDoorGAT
import Derived.Test.YtfeonfihlleoeaaDoorGAU
import Derived.Test.YtfeonfihlleoeaaDoorOpenD
namespace Go.Proofs.YtfeonfihlleoeaaDoor
open Go.RowKit Go.WideShapes

theorem infoOp20 : (Tryd.prog.info? 48).map (fun i => (i.zero, i.size, i.bytes)) = some (some (.agg #[.int .i64 0, .int .i64 0, .int .i64 0, .string ByteArray.empty, .slice none 0 0]), 5, 64) := by kernel_rfl
theorem set2w {w : World} {p : Nat} {t : TypeId} {a b x c : Value} (h : w.heap[p]? = some (.cells #[a, b] t (0, 0))) : ((w.setCell ⟨p, 0, none⟩ x).setCell ⟨p, 1, none⟩ c).heap[p]? = some (.cells #[x, c] t (0, 0)) := by simp [World.setCell, Array.getElem?_modify, h]
theorem set2w1 {w : World} {p : Nat} {t : TypeId} {a b x : Value} (h : w.heap[p]? = some (.cells #[a, b] t (0, 0))) : (w.setCell ⟨p, 1, none⟩ x).heap[p]? = some (.cells #[a, x] t (0, 0)) := by simp [World.setCell, Array.getElem?_modify, h]
/-- what a call of Append's add leaves -/
def App1 (pt base : Nat) (nm : ByteArray) (acc : List OpD) (op : OpD) (w : World) (e : Ending) (w' : World) : Prop :=
  e = .returned (.tuple #[]) ∧ ∃ va vc, w'.heap[pt]? = some (.cells #[.string nm, .slice va (acc ++ [op]).length vc] 28 (0, 0)) ∧ EnR Enc.op 48 base w' (.slice va (acc ++ [op]).length vc) (acc ++ [op]) ∧
    (∀ B, B ≤ pt → Below B w w') ∧ (∀ b, b < base → b ≠ pt → w'.heap[b]? = w.heap[b]?) ∧ w.heap.size ≤ w'.heap.size
set_option maxRecDepth 100000 in
set_option maxHeartbeats 4000000 in
theorem app1_any (pt base : Nat) (nm : ByteArray) (op : OpD) (xv : Value) (va : Option Addr) (vc : Nat) (acc : List OpD) (w : World) (hT : w.heap[pt]? = some (.cells #[.string nm, .slice va acc.length vc] 28 (0, 0)))
    (hR : EnR Enc.op 48 base w (.slice va acc.length vc) acc) (hpt : pt < base) (hbase : base ≤ w.heap.size) (hx : RB (fun b => base ≤ b ∧ (Value.slice va acc.length vc).ownBlock ≠ some b) w xv op.data) (hl : acc.length ≤ 1000) :
    Calls Tryd.prog 19 #[.agg #[.int .i64 op.kind, .int .i64 op.off, .int .i64 op.n, .string op.name, xv], .pointer (some ⟨pt, 0, none⟩)] w (App1 pt base nm acc op w) := by
  obtain ⟨xa, xc, rfl⟩ := hx.shape
  obtain ⟨i0, hi, hz0, hz1, hz2⟩ := info_parts infoOp20
  have HX := Lib.hid hx
  have HR := Lib.hid hR
  have HT := Lib.hid hT
  obtain ⟨k, o, n, name, d⟩ := op
  simp only at HX ⊢
  clear hx hR hT
  go_enter Tryd.func19, Tryd.ntmps19
  go_upto_region 1 with fail
  obtain ⟨w1, hw1⟩ : ∃ w1, w1 = w.alloc (.cells #[.int .i64 k, .int .i64 o, .int .i64 n, .string name, .slice xa d.length xc] 48) := ⟨_, rfl⟩
  rw [← hw1]
  have hb1 : Below w.heap.size w w1 := by rw [hw1]; ((repeat' (first | exact Below.refl _ _ | refine below_drewN ?_ _ | refine Below.drew ?_ | refine Below.alloc ?_ ?_ _ | refine Below.trans ?_ (Below.mono (by assumption) ?_))); all_goals (first | exact Nat.le_refl _ | exact Below.size (by assumption) | omega | (simp; done) | (simp; omega)))
  have B1 : w1.heap[w.heap.size]? = some (.cells #[.int .i64 k, .int .i64 o, .int .i64 n, .string name, .slice xa d.length xc] 48 (0, 0)) := by rw [hw1]; exact heap_alloc_new _ _
  have T1 := dblk hb1 HT.out
  have HT1 := Lib.hid T1
  have HR1 := Lib.hid (HR.out.ext hb1)
  have HK1 : Hid (Enc.op.rd (fun b => base ≤ b ∧ (Value.slice va acc.length vc).ownBlock ≠ some b) w1 [.int .i64 k, .int .i64 o, .int .i64 n, .string name, .slice xa d.length xc] ⟨k, o, n, name, d⟩) := Lib.hid ⟨_, rfl, HX.out.ext hb1⟩
  have HB1 := Lib.hid hb1
  have hs1 : base ≤ w1.heap.size := Nat.le_trans hbase hb1.size
  obtain ⟨y0, e0⟩ := blk_cell (i := 0) (B1)
  obtain ⟨y1, e1⟩ := blk_cell (i := 1) (B1)
  obtain ⟨y2, e2⟩ := blk_cell (i := 2) (B1)
  obtain ⟨y3, e3⟩ := blk_cell (i := 3) (B1)
  obtain ⟨y4, e4⟩ := blk_cell (i := 4) (B1)
  simp at y0 y1 y2 y3 y4
  obtain ⟨z0, k0⟩ := blk_cell (i := 0) T1
  obtain ⟨z1, k1⟩ := blk_cell (i := 1) T1
  simp at z0 z1
  have hp1 : pt < w1.heap.size := by omega
  have hpw : w.heap.size < w1.heap.size := (Array.getElem?_eq_some_iff.1 B1).1
  clear hw1 hb1 B1 T1 HX HR HT
  go_wp2_with (first | (at_builtin; refine stop_in ?_) | go_in)
  unfold Stop
  refine wpList_pushR w1 (by rfl) (.tmp 4) (.tmp 6) 26 (by rfl) Enc.op base 48 i0 _ 64 Tryd.underlying26 hi hz0 hz1 hz2 (by rfl) (by decide) (by decide) _ acc (by rfl) HR1.out [.int .i64 k, .int .i64 o, .int .i64 n, .string name, .slice xa d.length xc] 48 ⟨k, o, n, name, d⟩ (by rfl) HK1.out (by omega) hs1 ?_
  intro v' w2 hE hB
  obtain ⟨a2, c2, rfl⟩ := hE.shape
  have HE := Lib.hid hE
  have HB2 := Lib.hid hB
  have T2 := (hB.block pt hpt).trans HT1.out
  have HT2 := Lib.hid T2
  have hp2 : pt < w2.heap.size := (Array.getElem?_eq_some_iff.1 T2).1
  clear hE hB y0 y1 y2 y3 y4 e0 e1 e2 e3 e4 z0 z1 k0 k1
  obtain ⟨z0, k0⟩ := blk_cell (i := 0) T2
  obtain ⟨z1, k1⟩ := blk_cell (i := 1) T2
  simp at z0 z1
  clear T2
  go_wp2
  go_end0
  refine ⟨rfl, a2, c2, by rw [List.length_append]; exact set2w1 HT2.out, by refine HE.out.same ?_; exact ⟨by simp [World.setCell], fun b hb _ => Below.heap_setCell _ _ _ _ (show b ≠ pt by omega)⟩, fun B h => (((HB1.out.mono (by omega)).trans (HB2.out.mono (by omega))).setCell (show B ≤ (⟨pt, 1, none⟩ : Addr).block from h) _), fun b h1 h2 => ?_, ?_⟩
  · rw [Below.heap_setCell _ _ _ _ h2, HB2.out.block b h1, HB1.out.block b (by omega)]
  · have := HB1.out.size
    have := HB2.out.size
    simp [World.setCell]
    omega
/-- the ops that write an entry down -/
def appL (e : EnD) : List OpD := [⟨4, 0, e.seq, ⟨#[]⟩, []⟩, ⟨9, 0, 0, enK e.seq, pkE e⟩] ++ (if 8 < e.seq then [⟨10, 0, 0, enK (e.seq - 8), []⟩] else []) ++ [⟨12, 0, e.seq, ⟨#[]⟩, []⟩]
def appT (i : Int) (e : EnD) : TxD := if mayE e then ⟨jrnS i, appL e⟩ else ⟨⟨#[]⟩, []⟩
def AppO (i : Int) (e : EnD) (w : World) (x : Ending) (w' : World) : Prop := ∃ va vc, x = .returned (.tuple #[.agg #[.string (appT i e).obj, .slice va (appT i e).ops.length vc], .int .i64 (chkN e)]) ∧ SlE Enc.op (fun b => w.heap.size ≤ b) w' (.slice va (appT i e).ops.length vc) (appT i e).ops ∧ Below w.heap.size w w'
set_option maxRecDepth 100000 in
set_option maxHeartbeats 16000000 in
theorem jappend_any (A : Nat → Prop) (i : Int) (e : EnD) (a : Option Addr) (c : Nat) (w : World) (hv : RB A w (.slice a e.data.length c) e.data) (hdl : e.data.length ≤ 1000000) (hL : LayW w) : Calls Tryd.prog 7 #[.int .i64 i, enV e (.slice a e.data.length c)] w (AppO i e w) := by
  have hck := fun W => echeck_any e a c W
  have hpk := fun W (h : Below w.heap.size w W) => epack_any A e a c W (hv.ext h) hdl (hL.ext h)
  have hnm := fun x W (h : Below w.heap.size w W) => ename_any x W (hL.ext h)
  have hat : appT i e = if mayE e then ⟨jrnS i, appL e⟩ else ⟨⟨#[]⟩, []⟩ := rfl
  have hal : appL e = [⟨4, 0, e.seq, ⟨#[]⟩, []⟩, ⟨9, 0, 0, enK e.seq, pkE e⟩] ++ (if 8 < e.seq then [⟨10, 0, 0, enK (e.seq - 8), []⟩] else []) ++ [⟨12, 0, e.seq, ⟨#[]⟩, []⟩] := rfl
  have hms : mayE e = true → 1 ≤ e.seq ∧ e.seq ≤ 1099511627776 := fun h => (kind_ways h).2.1
  obtain ⟨s, o, k, f, n, p, d⟩ := e
  simp only [enV] at *
  have HPK := Lib.hid hpk
  have HNM := Lib.hid hnm
  have HCC := Lib.hid hck
  have HAT := Lib.hid hat
  have HAL := Lib.hid hal
  have HMS := Lib.hid hms
  generalize pkE ⟨s, o, k, f, n, p, d⟩ = PK at *
  clear hck hpk hnm hat hal hv hL hms
  go_enter Tryd.func7, Tryd.ntmps7
  go_upto_region 1 with fail
  obtain ⟨wq, hwq⟩ : ∃ wq, wq = (w.alloc (.cells #[.int .i64 s, .int .i64 o, .int .i64 k, .int .i64 f, .int .i64 n, .int .i64 p, .slice a d.length c] 24)).alloc (.cells #[.string ⟨#[]⟩, .slice none 0 0] 28) := ⟨_, rfl⟩
  try rw [← hwq]
  have BX : Hid (wq.heap[w.heap.size]? = some (.cells #[.int .i64 s, .int .i64 o, .int .i64 k, .int .i64 f, .int .i64 n, .int .i64 p, .slice a d.length c] 24 (0, 0))) := Lib.hid (by rw [hwq]; exact dnew (heap_alloc_new _ _) _)
  have RX : Hid (wq.heap[w.heap.size + 1]? = some (.cells #[.string ⟨#[]⟩, .slice none 0 0] 28 (0, 0))) := Lib.hid (by rw [hwq]; exact heap_alloc2_new _ _ _)
  have HB : Hid (Below w.heap.size w wq) := Lib.hid (by rw [hwq]; ((repeat' (first | exact Below.refl _ _ | refine below_drewN ?_ _ | refine Below.drew ?_ | refine Below.alloc ?_ ?_ _ | refine Below.trans ?_ (Below.mono (by assumption) ?_))); all_goals (first | exact Nat.le_refl _ | exact Below.size (by assumption) | omega | (simp; done) | (simp; omega))))
  clear hwq
  obtain ⟨y0, e0⟩ := blk_cell (i := 0) (BX.out)
  obtain ⟨y1, e1⟩ := blk_cell (i := 1) (BX.out)
  obtain ⟨y2, e2⟩ := blk_cell (i := 2) (BX.out)
  obtain ⟨y3, e3⟩ := blk_cell (i := 3) (BX.out)
  obtain ⟨y4, e4⟩ := blk_cell (i := 4) (BX.out)
  obtain ⟨y5, e5⟩ := blk_cell (i := 5) (BX.out)
  obtain ⟨y6, e6⟩ := blk_cell (i := 6) (BX.out)
  simp at y0 y1 y2 y3 y4 y5 y6
  go_wp2_with fail
  refine (HCC.out _).mono ?_
  rintro x w1 ⟨rfl, hb1⟩
  replace HB := Lib.hid (dcall HB.out hb1)
  replace BX := Lib.hid (dblk hb1 BX.out)
  replace RX := Lib.hid (dblk hb1 RX.out)
  clear hb1 y0 y1 y2 y3 y4 y5 y6 e0 e1 e2 e3 e4 e5 e6
  obtain ⟨y0, e0⟩ := blk_cell (i := 0) (BX.out)
  obtain ⟨y1, e1⟩ := blk_cell (i := 1) (BX.out)
  obtain ⟨y2, e2⟩ := blk_cell (i := 2) (BX.out)
  obtain ⟨y3, e3⟩ := blk_cell (i := 3) (BX.out)
  obtain ⟨y4, e4⟩ := blk_cell (i := 4) (BX.out)
  obtain ⟨y5, e5⟩ := blk_cell (i := 5) (BX.out)
  obtain ⟨y6, e6⟩ := blk_cell (i := 6) (BX.out)
  simp at y0 y1 y2 y3 y4 y5 y6
  cases hm : mayE ⟨s, o, k, f, n, p, d⟩ with
  | false =>
    have hc : chkN ⟨s, o, k, f, n, p, d⟩ = 70 := by rw [chkN, hm]; rfl
    have HT : Hid (appT i ⟨s, o, k, f, n, p, d⟩ = ⟨⟨#[]⟩, []⟩) := Lib.hid (by rw [HAT.out, hm]; rfl)
    have HCK := Lib.hid hc
    rw [hc]
    clear hm hc
    obtain ⟨u0, h0⟩ := blk_cell (i := 0) RX.out
    obtain ⟨u1, h1⟩ := blk_cell (i := 1) RX.out
    simp at u0 u1
    have hrs := (Array.getElem?_eq_some_iff.1 RX.out).1
    go_wp2
    refine bodyPost_ret (results_cell_w1 rfl _ _ (w.heap.size + 1) 28 _ (0, 0) _ rfl (set2w RX.out) Tryd.underlying28 rfl (by kernel_rfl)) rfl ?_
    refine ⟨none, 0, by rw [HT.out, HCK.out]; rfl, by rw [HT.out]; exact SlE.nil _ _ _, (HB.out.setCell (show w.heap.size ≤ (⟨w.heap.size + 1, 0, none⟩ : Addr).block from Nat.le_succ _) _).setCell (show w.heap.size ≤ (⟨w.heap.size + 1, 1, none⟩ : Addr).block from Nat.le_succ _) _⟩
  | true =>
    have hc : chkN ⟨s, o, k, f, n, p, d⟩ = 0 := by rw [chkN, hm]; rfl
    have HT0 : Hid (appT i ⟨s, o, k, f, n, p, d⟩ = ⟨jrnS i, appL ⟨s, o, k, f, n, p, d⟩⟩) := Lib.hid (by rw [HAT.out, hm]; rfl)
    have HCK := Lib.hid hc
    obtain ⟨hs1, hs2⟩ := HMS.out hm
    rw [hc]
    clear hm hc HAT HMS
    go_wp2_with fail
    refine (jname_any i _).mono ?_
    rintro x w' ⟨rfl, rfl⟩
    have hwp0 : w.heap.size + 1 < w1.heap.size := (Array.getElem?_eq_some_iff.1 RX.out).1
    go_upto_region 6 with fail
    obtain ⟨pt, hpt⟩ : ∃ pt, pt = w1.heap.size := ⟨_, rfl⟩
    obtain ⟨wq, hwq⟩ : ∃ wq, wq = w1.alloc (.cells #[.string (jrnS i), .slice none 0 0] 28) := ⟨_, rfl⟩
    rw [← hwq, ← hpt]
    have hb2 : Below w1.heap.size w1 wq := by rw [hwq]; exact (Below.refl _ w1).alloc (Nat.le_refl _) _
    have TX : Hid (wq.heap[pt]? = some (.cells #[.string (jrnS i), .slice none ([] : List OpD).length 0] 28 (0, 0))) := Lib.hid (by rw [hwq, hpt]; exact heap_alloc_new _ _)
    have RO : Hid (EnR Enc.op 48 (pt + 1) wq (.slice none ([] : List OpD).length 0) []) := Lib.hid (EnR.nil _ _ _ _)
    replace HB := Lib.hid (dcall HB.out hb2)
    replace BX := Lib.hid (dblk hb2 BX.out)
    replace RX := Lib.hid (dblk hb2 RX.out)
    have hwpt : w.heap.size ≤ pt := by omega
    have hwp1 : w.heap.size + 1 < pt := by omega
    have hbp : pt + 1 ≤ wq.heap.size := by rw [hwq, hpt]; simp
    clear hwq hpt hb2 hwp0 y0 y1 y2 y3 y4 y5 y6 e0 e1 e2 e3 e4 e5 e6
    obtain ⟨y0, e0⟩ := blk_cell (i := 0) (BX.out)
    obtain ⟨y1, e1⟩ := blk_cell (i := 1) (BX.out)
    obtain ⟨y2, e2⟩ := blk_cell (i := 2) (BX.out)
    obtain ⟨y3, e3⟩ := blk_cell (i := 3) (BX.out)
    obtain ⟨y4, e4⟩ := blk_cell (i := 4) (BX.out)
    obtain ⟨y5, e5⟩ := blk_cell (i := 5) (BX.out)
    obtain ⟨y6, e6⟩ := blk_cell (i := 6) (BX.out)
    simp at y0 y1 y2 y3 y4 y5 y6
    go_wp2_with fail
    refine (app1_any pt (pt + 1) (jrnS i) ⟨4, 0, s, ⟨#[]⟩, []⟩ (.slice none 0 0) _ _ [] _ TX.out RO.out (Nat.lt_succ_self _) hbp (RB.nil _ _) (by simp)).mono ?_
    rintro x wz ⟨rfl, ya, yc, hty, hry, hbl, hke, hsz⟩
    replace TX := Lib.hid hty
    replace RO := Lib.hid hry
    replace BX := Lib.hid ((hke _ (by omega) (by omega)).trans BX.out)
    replace RX := Lib.hid ((hke _ (by omega) (by omega)).trans RX.out)
    replace HB := Lib.hid (HB.out.trans (hbl _ hwpt))
    have hbp : pt + 1 ≤ wz.heap.size := Nat.le_trans hbp hsz
    clear hty hry hbl hke hsz y0 y1 y2 y3 y4 y5 y6 e0 e1 e2 e3 e4 e5 e6
    obtain ⟨wq, hwq⟩ : ∃ wq, wq = wz := ⟨_, rfl⟩
    subst hwq
    obtain ⟨y0, e0⟩ := blk_cell (i := 0) (BX.out)
    obtain ⟨y1, e1⟩ := blk_cell (i := 1) (BX.out)
    obtain ⟨y2, e2⟩ := blk_cell (i := 2) (BX.out)
    obtain ⟨y3, e3⟩ := blk_cell (i := 3) (BX.out)
    obtain ⟨y4, e4⟩ := blk_cell (i := 4) (BX.out)
    obtain ⟨y5, e5⟩ := blk_cell (i := 5) (BX.out)
    obtain ⟨y6, e6⟩ := blk_cell (i := 6) (BX.out)
    simp at y0 y1 y2 y3 y4 y5 y6
    simp only [List.nil_append, List.length_singleton] at TX RO
    go_upto_region 7 with fail
    go_cut [] (fun wx => ∃ xa xc, wx.heap[pt]? = some (.cells #[.string (jrnS i), .slice xa 2 xc] 28 (0, 0)) ∧ EnR Enc.op 48 (pt + 1) wx (.slice xa 2 xc) [⟨4, 0, s, ⟨#[]⟩, []⟩, ⟨9, 0, 0, enK s, PK⟩] ∧ wx.heap[w.heap.size]? = wq.heap[w.heap.size]? ∧ wx.heap[w.heap.size + 1]? = wq.heap[w.heap.size + 1]? ∧ Below w.heap.size w wx ∧ pt + 1 ≤ wx.heap.size)
    case first =>
      have hcells : Hid (∀ W : World, W.heap[w.heap.size]? = wq.heap[w.heap.size]? → W.cell? ⟨w.heap.size, 0, none⟩ = some (.int .i64 s) ∧ W.cell? ⟨w.heap.size, 1, none⟩ = some (.int .i64 o) ∧ W.cell? ⟨w.heap.size, 2, none⟩ = some (.int .i64 k) ∧ W.cell? ⟨w.heap.size, 3, none⟩ = some (.int .i64 f) ∧ W.cell? ⟨w.heap.size, 4, none⟩ = some (.int .i64 n) ∧ W.cell? ⟨w.heap.size, 5, none⟩ = some (.int .i64 p) ∧ W.cell? ⟨w.heap.size, 6, none⟩ = some (.slice a d.length c)) := Lib.hid fun W h => by
        have hB := h.trans BX.out
        exact ⟨(blk_cell hB).1, (blk_cell hB).1, (blk_cell hB).1, (blk_cell hB).1, (blk_cell hB).1, (blk_cell hB).1, (blk_cell hB).1⟩
      have hpx : w.heap.size < wq.heap.size := by omega
      clear y0 y1 y2 y3 y4 y5 y6 e0 e1 e2 e3 e4 e5 e6
      go_region_held3 (fun W => W.cell? ⟨w.heap.size, 0, none⟩ = some (.int .i64 s) ∧ W.cell? ⟨w.heap.size, 1, none⟩ = some (.int .i64 o) ∧ W.cell? ⟨w.heap.size, 2, none⟩ = some (.int .i64 k) ∧ W.cell? ⟨w.heap.size, 3, none⟩ = some (.int .i64 f) ∧ W.cell? ⟨w.heap.size, 4, none⟩ = some (.int .i64 n) ∧ W.cell? ⟨w.heap.size, 5, none⟩ = some (.int .i64 p) ∧ W.cell? ⟨w.heap.size, 6, none⟩ = some (.slice a d.length c))
        ((refine hcells.out _ ?_; first
          | (with_reducible exact hq9)
          | (with_reducible exact hq8)
          | (with_reducible exact hq7)
          | rfl))
        (first
          | (go_at_call 20; refine (HNM.out s _ HB.out.drew).mono ?_; rintro x w7 ⟨rfl, hb7⟩; have hz7 : Below wq.heap.size wq w7 := Below.trans (Below.drew (Below.refl wq.heap.size wq)) (Below.mono hb7 (Nat.le_refl _)); have hq7 : w7.heap[w.heap.size]? = wq.heap[w.heap.size]? := hz7.block _ hpx)
          | (go_at_call 21; refine (HPK.out _ (dcall HB.out hz7)).mono ?_; rintro x w8 ⟨v8, rfl, hv8, hb8⟩; obtain ⟨pa, pc, rfl⟩ := hv8.rb.shape; have hz8 : Below wq.heap.size wq w8 := Below.trans hz7 (Below.mono hb8 hz7.size); have hq8 : w8.heap[w.heap.size]? = wq.heap[w.heap.size]? := hz8.block _ hpx; have HV8 := Lib.hid (hv8.rb.weak (A' := fun b => wq.heap.size ≤ b) fun b _ hb => Nat.le_trans hz7.size hb))
          | (go_at_call 19; refine (app1_any pt (pt + 1) (jrnS i) ⟨9, 0, 0, enK s, PK⟩ _ _ _ [⟨4, 0, s, ⟨#[]⟩, []⟩] _ (dblk hz8 TX.out) (RO.out.ext hz8) (Nat.lt_succ_self _) (Nat.le_trans hbp hz8.size) (HV8.out.weak fun b _ hb => ⟨by omega, fun h => by have := (RO.out.lt b h).2; omega⟩) (by simp)).mono ?_; rintro x w9 ⟨rfl, xa, xc, htx, hrx, hbl, hke, hsz⟩; have hq9 : w9.heap[w.heap.size]? = wq.heap[w.heap.size]? := (hke _ (by omega) (by omega)).trans hq8; have hr9 : w9.heap[w.heap.size + 1]? = wq.heap[w.heap.size + 1]? := (hke _ (by omega) (by omega)).trans (hz8.block _ (by omega)); have hb9 : Below w.heap.size w w9 := Below.trans (dcall HB.out hz8) (hbl _ hwpt); have hs9 : pt + 1 ≤ w9.heap.size := Nat.le_trans (Nat.le_trans hbp hz8.size) hsz))
      all_goals
        go_wp2
        go_meet
        exact ⟨xa, xc, htx, hrx, hq9, hr9, hb9, hs9⟩
    case rest =>
      obtain ⟨xa, xc, htx, hrx, hq9, hr9, hb9, hs9⟩ := hcut
      replace TX := Lib.hid htx
      replace RO := Lib.hid hrx
      replace BX := Lib.hid (hq9.trans BX.out)
      replace RX := Lib.hid (hr9.trans RX.out)
      replace HB := Lib.hid hb9
      have hbp : pt + 1 ≤ wc.heap.size := hs9
      clear htx hrx hq9 hr9 hb9 hs9 y0 y1 y2 y3 y4 y5 y6 e0 e1 e2 e3 e4 e5 e6
      obtain ⟨wq, hwq⟩ : ∃ wq, wq = wc := ⟨_, rfl⟩
      subst hwq
      obtain ⟨y0, e0⟩ := blk_cell (i := 0) (BX.out)
      obtain ⟨y1, e1⟩ := blk_cell (i := 1) (BX.out)
      obtain ⟨y2, e2⟩ := blk_cell (i := 2) (BX.out)
      obtain ⟨y3, e3⟩ := blk_cell (i := 3) (BX.out)
      obtain ⟨y4, e4⟩ := blk_cell (i := 4) (BX.out)
      obtain ⟨y5, e5⟩ := blk_cell (i := 5) (BX.out)
      obtain ⟨y6, e6⟩ := blk_cell (i := 6) (BX.out)
      simp at y0 y1 y2 y3 y4 y5 y6
      by_cases h8 : 8 < s
      · have HT : Hid (appT i ⟨s, o, k, f, n, p, d⟩ = ⟨jrnS i, [⟨4, 0, s, ⟨#[]⟩, []⟩, ⟨9, 0, 0, enK s, PK⟩] ++ [⟨10, 0, 0, enK (s - 8), []⟩] ++ [⟨12, 0, s, ⟨#[]⟩, []⟩]⟩) := Lib.hid (by rw [HT0.out, HAL.out, if_pos h8])
        go_wp2_with fail
        refine (HNM.out (s - 8) _ HB.out).mono ?_
        rintro x w7 ⟨rfl, hb7⟩
        replace TX := Lib.hid (dblk hb7 TX.out)
        replace RO := Lib.hid (RO.out.ext hb7)
        replace BX := Lib.hid (dblk hb7 BX.out)
        replace RX := Lib.hid (dblk hb7 RX.out)
        replace HB := Lib.hid (dcall HB.out hb7)
        have hbp : pt + 1 ≤ w7.heap.size := Nat.le_trans hbp hb7.size
        clear hb7 y0 y1 y2 y3 y4 y5 y6 e0 e1 e2 e3 e4 e5 e6
        obtain ⟨y0, e0⟩ := blk_cell (i := 0) (BX.out)
        obtain ⟨y1, e1⟩ := blk_cell (i := 1) (BX.out)
        obtain ⟨y2, e2⟩ := blk_cell (i := 2) (BX.out)
        obtain ⟨y3, e3⟩ := blk_cell (i := 3) (BX.out)
        obtain ⟨y4, e4⟩ := blk_cell (i := 4) (BX.out)
        obtain ⟨y5, e5⟩ := blk_cell (i := 5) (BX.out)
        obtain ⟨y6, e6⟩ := blk_cell (i := 6) (BX.out)
        simp at y0 y1 y2 y3 y4 y5 y6
        go_wp2_with fail
        refine (app1_any pt (pt + 1) (jrnS i) ⟨10, 0, 0, enK (s - 8), []⟩ (.slice none 0 0) _ _ [⟨4, 0, s, ⟨#[]⟩, []⟩, ⟨9, 0, 0, enK s, PK⟩] _ TX.out RO.out (Nat.lt_succ_self _) hbp (RB.nil _ _) (by simp)).mono ?_
        rintro x wz ⟨rfl, ya, yc, hty, hry, hbl, hke, hsz⟩
        replace TX := Lib.hid hty
        replace RO := Lib.hid hry
        replace BX := Lib.hid ((hke _ (by omega) (by omega)).trans BX.out)
        replace RX := Lib.hid ((hke _ (by omega) (by omega)).trans RX.out)
        replace HB := Lib.hid (HB.out.trans (hbl _ hwpt))
        have hbp : pt + 1 ≤ wz.heap.size := Nat.le_trans hbp hsz
        clear hty hry hbl hke hsz y0 y1 y2 y3 y4 y5 y6 e0 e1 e2 e3 e4 e5 e6
        obtain ⟨wq, hwq⟩ : ∃ wq, wq = wz := ⟨_, rfl⟩
        subst hwq
        obtain ⟨y0, e0⟩ := blk_cell (i := 0) (BX.out)
        obtain ⟨y1, e1⟩ := blk_cell (i := 1) (BX.out)
        obtain ⟨y2, e2⟩ := blk_cell (i := 2) (BX.out)
        obtain ⟨y3, e3⟩ := blk_cell (i := 3) (BX.out)
        obtain ⟨y4, e4⟩ := blk_cell (i := 4) (BX.out)
        obtain ⟨y5, e5⟩ := blk_cell (i := 5) (BX.out)
        obtain ⟨y6, e6⟩ := blk_cell (i := 6) (BX.out)
        simp at y0 y1 y2 y3 y4 y5 y6
        go_wp2_with fail
        refine (app1_any pt (pt + 1) (jrnS i) ⟨12, 0, s, ⟨#[]⟩, []⟩ (.slice none 0 0) _ _ ([⟨4, 0, s, ⟨#[]⟩, []⟩, ⟨9, 0, 0, enK s, PK⟩] ++ [⟨10, 0, 0, enK (s - 8), []⟩]) _ TX.out RO.out (Nat.lt_succ_self _) hbp (RB.nil _ _) (by simp)).mono ?_
        rintro x wz ⟨rfl, ya, yc, hty, hry, hbl, hke, hsz⟩
        replace TX := Lib.hid hty
        replace RO := Lib.hid hry
        replace BX := Lib.hid ((hke _ (by omega) (by omega)).trans BX.out)
        replace RX := Lib.hid ((hke _ (by omega) (by omega)).trans RX.out)
        replace HB := Lib.hid (HB.out.trans (hbl _ hwpt))
        have hbp : pt + 1 ≤ wz.heap.size := Nat.le_trans hbp hsz
        clear hty hry hbl hke hsz y0 y1 y2 y3 y4 y5 y6 e0 e1 e2 e3 e4 e5 e6
        obtain ⟨wq, hwq⟩ : ∃ wq, wq = wz := ⟨_, rfl⟩
        subst hwq
        obtain ⟨y0, e0⟩ := blk_cell (i := 0) (BX.out)
        obtain ⟨y1, e1⟩ := blk_cell (i := 1) (BX.out)
        obtain ⟨y2, e2⟩ := blk_cell (i := 2) (BX.out)
        obtain ⟨y3, e3⟩ := blk_cell (i := 3) (BX.out)
        obtain ⟨y4, e4⟩ := blk_cell (i := 4) (BX.out)
        obtain ⟨y5, e5⟩ := blk_cell (i := 5) (BX.out)
        obtain ⟨y6, e6⟩ := blk_cell (i := 6) (BX.out)
        simp at y0 y1 y2 y3 y4 y5 y6
        obtain ⟨z0, k0⟩ := blk_cell (i := 0) TX.out
        obtain ⟨z1, k1⟩ := blk_cell (i := 1) TX.out
        obtain ⟨u0, h0⟩ := blk_cell (i := 0) RX.out
        obtain ⟨u1, h1⟩ := blk_cell (i := 1) RX.out
        simp at z0 z1 u0 u1
        have hrs := (Array.getElem?_eq_some_iff.1 RX.out).1
        go_wp2
        refine bodyPost_ret (results_cell_w1 rfl _ _ (w.heap.size + 1) 28 _ (0, 0) _ rfl (set2w RX.out) Tryd.underlying28 rfl (by kernel_rfl)) rfl ?_
        refine ⟨_, _, by rw [HT.out, HCK.out]; rfl, ?_, (HB.out.setCell (show w.heap.size ≤ (⟨w.heap.size + 1, 0, none⟩ : Addr).block from Nat.le_succ _) _).setCell (show w.heap.size ≤ (⟨w.heap.size + 1, 1, none⟩ : Addr).block from Nat.le_succ _) _⟩
        rw [HT.out]
        have hro := SlE.weak (A' := fun b => b ≠ w.heap.size + 1 ∧ w.heap.size ≤ b) RO.out.sle fun b _ hb => ⟨by omega, by omega⟩
        exact SlE.weak (SlE.mono hro ⟨by simp [World.setCell], fun b hb _ => (Below.heap_setCell _ _ _ _ hb.1).trans (Below.heap_setCell _ _ _ _ hb.1)⟩) fun b _ hb => hb.2
      · have HT : Hid (appT i ⟨s, o, k, f, n, p, d⟩ = ⟨jrnS i, [⟨4, 0, s, ⟨#[]⟩, []⟩, ⟨9, 0, 0, enK s, PK⟩] ++ [⟨12, 0, s, ⟨#[]⟩, []⟩]⟩) := Lib.hid (by rw [HT0.out, HAL.out, if_neg h8, List.append_nil])
        go_wp2_with fail
        refine (app1_any pt (pt + 1) (jrnS i) ⟨12, 0, s, ⟨#[]⟩, []⟩ (.slice none 0 0) _ _ [⟨4, 0, s, ⟨#[]⟩, []⟩, ⟨9, 0, 0, enK s, PK⟩] _ TX.out RO.out (Nat.lt_succ_self _) hbp (RB.nil _ _) (by simp)).mono ?_
        rintro x wz ⟨rfl, ya, yc, hty, hry, hbl, hke, hsz⟩
        replace TX := Lib.hid hty
        replace RO := Lib.hid hry
        replace BX := Lib.hid ((hke _ (by omega) (by omega)).trans BX.out)
        replace RX := Lib.hid ((hke _ (by omega) (by omega)).trans RX.out)
        replace HB := Lib.hid (HB.out.trans (hbl _ hwpt))
        have hbp : pt + 1 ≤ wz.heap.size := Nat.le_trans hbp hsz
        clear hty hry hbl hke hsz y0 y1 y2 y3 y4 y5 y6 e0 e1 e2 e3 e4 e5 e6
        obtain ⟨wq, hwq⟩ : ∃ wq, wq = wz := ⟨_, rfl⟩
        subst hwq
        obtain ⟨y0, e0⟩ := blk_cell (i := 0) (BX.out)
        obtain ⟨y1, e1⟩ := blk_cell (i := 1) (BX.out)
        obtain ⟨y2, e2⟩ := blk_cell (i := 2) (BX.out)
        obtain ⟨y3, e3⟩ := blk_cell (i := 3) (BX.out)
        obtain ⟨y4, e4⟩ := blk_cell (i := 4) (BX.out)
        obtain ⟨y5, e5⟩ := blk_cell (i := 5) (BX.out)
        obtain ⟨y6, e6⟩ := blk_cell (i := 6) (BX.out)
        simp at y0 y1 y2 y3 y4 y5 y6
        obtain ⟨z0, k0⟩ := blk_cell (i := 0) TX.out
        obtain ⟨z1, k1⟩ := blk_cell (i := 1) TX.out
        obtain ⟨u0, h0⟩ := blk_cell (i := 0) RX.out
        obtain ⟨u1, h1⟩ := blk_cell (i := 1) RX.out
        simp at z0 z1 u0 u1
        have hrs := (Array.getElem?_eq_some_iff.1 RX.out).1
        go_wp2
        refine bodyPost_ret (results_cell_w1 rfl _ _ (w.heap.size + 1) 28 _ (0, 0) _ rfl (set2w RX.out) Tryd.underlying28 rfl (by kernel_rfl)) rfl ?_
        refine ⟨_, _, by rw [HT.out, HCK.out]; rfl, ?_, (HB.out.setCell (show w.heap.size ≤ (⟨w.heap.size + 1, 0, none⟩ : Addr).block from Nat.le_succ _) _).setCell (show w.heap.size ≤ (⟨w.heap.size + 1, 1, none⟩ : Addr).block from Nat.le_succ _) _⟩
        rw [HT.out]
        have hro := SlE.weak (A' := fun b => b ≠ w.heap.size + 1 ∧ w.heap.size ≤ b) RO.out.sle fun b _ hb => ⟨by omega, by omega⟩
        exact SlE.weak (SlE.mono hro ⟨by simp [World.setCell], fun b hb _ => (Below.heap_setCell _ _ _ _ hb.1).trans (Below.heap_setCell _ _ _ _ hb.1)⟩) fun b _ hb => hb.2
end Go.Proofs.YtfeonfihlleoeaaDoor
