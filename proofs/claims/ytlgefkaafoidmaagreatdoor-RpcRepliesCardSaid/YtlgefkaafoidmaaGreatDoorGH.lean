/- The walks of rpc's sessions. The walks of rpc's sessions: Due, Hear, and what refuses. The walks of rpc's cache. The walk of rpc.mayRequest, where a request may be and has no transaction. The walk of rpc.open. The walk of rpc.UnpackRequest: what is refused; a request without a transaction. How a request's cells stand while its numbers are read. -/
import Derived.Test.YtlgefkaafoidmaaGreatDoorGG
import Derived.Laws.ResultCell
import Derived.BigQuiet
import Derived.Test.YtlgefkaafoidmaaGreatDoorWrt
import Derived.Deep.DrawnRows
import Derived.Laws.BytesArg
namespace Go.Proofs.YtlgefkaafoidmaaGreatDoor
open Go.RowKit Go.WideShapes

/-- a session behind a pointer: what it waits for lies in a block of its own; lo: the blocks that it may lead to -/
structure IsS (lo : Nat → Prop) (w : World) (p : Nat) (c l last at_ : Int) (wait : Option RqD) : Prop where
  mk ::
  ex : ∃ wp : Option Addr, w.heap[p]? = some (.cells #[.int .i64 c, .int .i64 l, .int .i64 last, .int .i64 at_, .pointer wp] 94 (0, 0)) ∧
    match wait with
    | none => wp = none
    | some q => ∃ x ov, wp = some ⟨x, 0, none⟩ ∧ x ≠ p ∧ lo x ∧ w.heap[x]? = some (.cells (rqC q ov) 26 (0, 0)) ∧ SlE Enc.op lo w ov q.txn.ops
  lo : ¬ lo p
theorem IsS.lt {lo : Nat → Prop} {w : World} {p : Nat} {c l last at_ : Int} {wait : Option RqD} (h : IsS lo w p c l last at_ wait) : p < w.heap.size := by
  obtain ⟨v, hb, _⟩ := h.ex
  exact (Array.getElem?_eq_some_iff.1 hb).1
theorem IsS.ext {lo : Nat → Prop} {w w' : World} {p : Nat} {c l last at_ : Int} {wait : Option RqD} (h : IsS lo w p c l last at_ wait) (hb : Below w.heap.size w w') : IsS lo w' p c l last at_ wait := by
  obtain ⟨wp, h1, h2⟩ := h.ex
  refine ⟨⟨wp, (hb.block _ h.lt).trans h1, ?_⟩, h.lo⟩
  cases wait with
  | none => exact h2
  | some q =>
    obtain ⟨x, ov, e, hx, hlx, hb2, hs⟩ := h2
    exact ⟨x, ov, e, hx, hlx, (hb.block _ (Array.getElem?_eq_some_iff.1 hb2).1).trans hb2, hs.ext hb⟩
theorem IsS.same {lo : Nat → Prop} {w w' : World} {p : Nat} {c l last at_ : Int} {wait : Option RqD} (h : IsS lo w p c l last at_ wait) (hs : Same (fun b => lo b ∨ b = p) w w') : IsS lo w' p c l last at_ wait := by
  obtain ⟨wp, h1, h2⟩ := h.ex
  refine ⟨⟨wp, (hs.block _ (.inr rfl) h.lt).trans h1, ?_⟩, h.lo⟩
  cases wait with
  | none => exact h2
  | some q =>
    obtain ⟨x, ov, e, hx, hlx, hb2, hk⟩ := h2
    exact ⟨x, ov, e, hx, hlx, (hs.block _ (.inl hlx) (Array.getElem?_eq_some_iff.1 hb2).1).trans hb2, hk.mono (hs.weak fun b hb => .inl hb)⟩
theorem results_cell_tmp_row {P : Program} {fn : Func} {p u : Tmp} {ty : TypeId} (h : fn.results = #[.cell p ty, .tmp u]) (tmps : Array Value) (w : World) (g : Nat) (t : TypeId) (cs : Array Value) (fr : Nat × Nat) (d : TypeDesc)
    (hp : tmps.getD p undef = .pointer (some ⟨g, 0, none⟩)) (hg : w.heap[g]? = some (.cells cs t fr))
    (hu : P.underlying ty = some d) (hd : (match d with | .struct _ | .array _ _ => true | _ => false) = true) (hi : (P.info? ty).map (·.size) = some cs.size) :
    (results fn tmps).run P w = .ok (.tuple #[.agg cs, tmps.getD u undef]) w := by
  have hp' : tmps[p]?.getD undef = .pointer (some ⟨g, 0, none⟩) := by simpa using hp
  rw [results_cell_tmp h]
  simp [hp', asAddr, run_loadVar_row w g t ty cs fr d hg hu hd hi, Result.andThen]
set_option maxRecDepth 100000 in
theorem open_any (lo : Nat → Prop) (c l : Int) (w : World) (hlo : ¬ lo w.heap.size) : Calls Tryz.prog 18 #[.int .i64 c, .int .i64 l] w fun e w' => e = .returned (.pointer (some ⟨w.heap.size, 0, none⟩)) ∧ IsS lo w' w.heap.size c l 0 0 none ∧ Below w.heap.size w w' := by
  go_enter Tryz.func18, Tryz.ntmps18
  go_wp2
  go_ret
  refine ⟨rfl, ⟨⟨none, ?_, rfl⟩, hlo⟩, by ((repeat' (first | exact Below.refl _ _ | refine below_drewN ?_ _ | refine Below.drew ?_ | refine Below.alloc ?_ ?_ _ | refine Below.trans ?_ (Below.mono (by assumption) ?_))); all_goals (first | exact Nat.le_refl _ | exact Below.size (by assumption) | omega | (simp; done) | (simp; omega)))⟩
  exact heap_alloc_new _ _
set_option maxRecDepth 100000 in
theorem busy_any (lo : Nat → Prop) (w : World) (p : Nat) (c l last at_ : Int) (wait : Option RqD) (h : IsS lo w p c l last at_ wait) : Calls Tryz.prog 24 #[.pointer (some ⟨p, 0, none⟩)] w fun e w' => e = .returned (.bool wait.isSome) ∧ w = w' := by
  obtain ⟨wp, h1, h2⟩ := h.ex
  obtain ⟨c4, f4⟩ := blk_cell (i := 4) h1
  simp at c4
  clear h1 h
  cases wait with
  | none =>
    subst h2
    go_enter Tryz.func24, Tryz.ntmps24
    go_wp2
    go_ret
    exact ⟨rfl, rfl⟩
  | some q =>
    obtain ⟨x, ov, rfl, -⟩ := h2
    go_enter Tryz.func24, Tryz.ntmps24
    go_wp2
    go_ret
    exact ⟨rfl, rfl⟩
set_option maxRecDepth 100000 in
set_option maxHeartbeats 4000000 in
theorem ask_idle (A : Nat → Prop) (lo : Nat → Prop) (w : World) (p : Nat) (c l at_ now : Int) (last : Nat) (v : Value) (q : RqD) (h : IsS lo w p c l last at_ none) (hlast : last ≤ 1000) (hv : RqV A w v q) (ho : q.okl) (hA : ¬ A p) (hLo : ∀ b, w.heap.size ≤ b → lo b) :
    Calls Tryz.prog 19 #[.pointer (some ⟨p, 0, none⟩), v, .int .i64 now] w fun e w' => ∃ v', e = .returned (.tuple #[v', .bool true]) ∧ RqV (fun b => w.heap.size ≤ b) w' v' { q with client := c, life := l, seq := (last + 1 : Nat) } ∧
      IsS lo w' p c l (last + 1 : Nat) now (some { q with client := c, life := l, seq := (last + 1 : Nat) }) ∧ Fr (fun k => k = p) w w' := by
  obtain ⟨wp, h1, h2⟩ := h.ex
  obtain rfl : wp = none := h2
  have hlo := h.lo
  have hpl := h.lt
  obtain ⟨c0, f0⟩ := blk_cell (i := 0) h1
  obtain ⟨c1, f1⟩ := blk_cell (i := 1) h1
  obtain ⟨c2, f2⟩ := blk_cell (i := 2) h1
  obtain ⟨c3, f3⟩ := blk_cell (i := 3) h1
  obtain ⟨c4, f4⟩ := blk_cell (i := 4) h1
  simp at c0 c1 c2 c3 c4
  obtain ⟨ov, rfl, hk⟩ := hv
  obtain ⟨oa, oc, rfl⟩ := hk.shape
  have HK := Lib.hid hk
  have HO := Lib.hid ho
  have HB := Lib.hid h1
  have HLo := Lib.hid hLo
  clear h h1 hk ho hLo
  obtain ⟨qc, ql, qs, qk, qi, qw, qn, qo, qops⟩ := q
  simp only [rqV] at *
  go_enter Tryz.func19, Tryz.ntmps19
  go_wp2_with fail
  refine (own_any (fun b => A b ∧ b < w.heap.size) _ ⟨qc, ql, qs, qk, qi, qw, qn, qo, qops⟩ _ ⟨_, rfl, (SlE.cut HK.out).mono (Same.alloc (Same.alloc (Same.setCell (a := ⟨p, 2, none⟩) (Same.refl _ _) (fun h => hA h.1) _) _) _)⟩ HO.out).mono ?_
  rintro e w1 ⟨v1, rfl, hr1, hb1⟩
  obtain ⟨ov1, rfl, hk1⟩ := hr1
  obtain ⟨oa1, oc1, rfl⟩ := hk1.shape
  have hsz : (w.setCell ⟨p, 2, none⟩ (.int .i64 ((last : Int) + 1))).heap.size = w.heap.size := by simp [World.setCell]
  simp only [World.size_alloc, hsz] at hb1 hk1
  have hs1 := hb1.size
  simp only [World.size_alloc, hsz] at hs1
  have P1 : w1.heap[p]? = some (.cells #[.int .i64 c, .int .i64 l, .int .i64 ((last : Int) + 1), .int .i64 at_, .pointer none] 94 (0, 0)) := by
    rw [hb1.block p (by omega), Below.heap_alloc _ _ _ (by simp [hsz]; omega), Below.heap_alloc _ _ _ (by simp [hsz]; omega)]
    exact set_blk3 (j := 2) HB.out
  have Q1 : w1.heap[w.heap.size]? = some (.cells (rqC ⟨qc, ql, qs, qk, qi, qw, qn, qo, qops⟩ (.slice oa qops.length oc)) 26 (0, 0)) := by
    rw [hb1.block _ (by omega), Below.heap_alloc _ _ _ (by simp [hsz])]
    have := heap_alloc_new (w.setCell ⟨p, 2, none⟩ (.int .i64 ((last : Int) + 1))) (.cells (rqC ⟨qc, ql, qs, qk, qi, qw, qn, qo, qops⟩ (.slice oa qops.length oc)) 26)
    rwa [hsz] at this
  have R1 : w1.heap[w.heap.size + 1]? = some (.cells rq0 26 (0, 0)) := by
    rw [hb1.block _ (by omega)]
    have := heap_alloc2_new (w.setCell ⟨p, 2, none⟩ (.int .i64 ((last : Int) + 1))) (.cells (rqC ⟨qc, ql, qs, qk, qi, qw, qn, qo, qops⟩ (.slice oa qops.length oc)) 26) (.cells rq0 26)
    rwa [hsz] at this
  have K1 := Lib.hid hk1
  have hf1 : Fr (fun k => k = p) w w1 := by
    refine (Fr.alloc (Fr.alloc (Fr.setCell (S := fun k => k = p) (a := ⟨p, 2, none⟩) (Fr.refl _ w) (fun _ => rfl) (.int .i64 ((last : Int) + 1))) _) _).trans (Fr.ext (S := fun k => k = p) (hb1.mono (by simp [hsz]))) fun _ _ h => h
  have HF1 := Lib.hid hf1
  clear hb1 hk1 hf1 c0 c1 c2 c3 c4 f0 f1 f2 f3 f4
  obtain ⟨x0, f0⟩ := blk_cell (i := 0) P1
  obtain ⟨x1, f1⟩ := blk_cell (i := 1) P1
  obtain ⟨x2, f2⟩ := blk_cell (i := 2) P1
  obtain ⟨x3, f3⟩ := blk_cell (i := 3) P1
  obtain ⟨x4, f4⟩ := blk_cell (i := 4) P1
  obtain ⟨y0, g0⟩ := blk_cell (i := 0) Q1
  obtain ⟨y1, g1⟩ := blk_cell (i := 1) Q1
  obtain ⟨y2, g2⟩ := blk_cell (i := 2) Q1
  obtain ⟨y3, g3⟩ := blk_cell (i := 3) Q1
  obtain ⟨y4, g4⟩ := blk_cell (i := 4) Q1
  obtain ⟨y5, g5⟩ := blk_cell (i := 5) Q1
  obtain ⟨y6, g6⟩ := blk_cell (i := 6) Q1
  obtain ⟨y7, g7⟩ := blk_cell (i := 7) Q1
  obtain ⟨y8, g8⟩ := blk_cell (i := 8) Q1
  simp [rqC] at x0 x1 x2 x3 x4 y0 y1 y2 y3 y4 y5 y6 y7 y8
  have HP := Lib.hid P1
  have HQ := Lib.hid Q1
  have HR := Lib.hid R1
  clear P1 Q1 R1
  simp only [rqV]
  go_wp2_with fail
  obtain ⟨w3, hw3⟩ : ∃ w3, w3 = (((((((((w1.setCell ⟨w.heap.size, 0, none⟩ (.int .i64 qc)).setCell ⟨w.heap.size, 1, none⟩ (.int .i64 ql)).setCell ⟨w.heap.size, 2, none⟩ (.int .i64 qs)).setCell ⟨w.heap.size, 3, none⟩ (.int .i64 qk)).setCell ⟨w.heap.size, 4, none⟩ (.int .i64 qi)).setCell ⟨w.heap.size, 5, none⟩ (.int .i64 qw)).setCell ⟨w.heap.size, 6, none⟩ (.int .i64 qn)).setCell ⟨w.heap.size, 7, none⟩ (.string qo)).setCell ⟨w.heap.size, 8, none⟩ (.slice oa1 qops.length oc1)) := ⟨_, rfl⟩
  rw [← hw3]
  have P3 : w3.heap[p]? = some (.cells #[.int .i64 c, .int .i64 l, .int .i64 ((last : Int) + 1), .int .i64 at_, .pointer none] 94 (0, 0)) := by
    rw [hw3]
    exact ((same9 (A := fun b => b = p) (fun h => by have h : w.heap.size = p := h; omega)).block p rfl (Array.getElem?_eq_some_iff.1 HP.out).1).trans HP.out
  have Q3 : w3.heap[w.heap.size]? = some (.cells (rqC ⟨qc, ql, qs, qk, qi, qw, qn, qo, qops⟩ (.slice oa1 qops.length oc1)) 26 (0, 0)) := by
    rw [hw3]
    exact set9_blk HQ.out
  have R3 : w3.heap[w.heap.size + 1]? = some (.cells rq0 26 (0, 0)) := by
    rw [hw3]
    exact ((same9 (A := fun b => b = w.heap.size + 1) (fun h => by have h : w.heap.size = w.heap.size + 1 := h; omega)).block _ rfl (Array.getElem?_eq_some_iff.1 HR.out).1).trans HR.out
  have hs3 : w1.heap.size = w3.heap.size := by
    rw [hw3]
    simp [World.setCell]
  have hk3 : SlE Enc.op (fun b => w.heap.size + 2 ≤ b) w3 (.slice oa1 qops.length oc1) qops := by
    rw [hw3]
    exact K1.out.mono (same9 (fun h => by have h : w.heap.size + 2 ≤ w.heap.size := h; omega))
  have hf3 : Fr (fun k => k = p) w w3 := by
    rw [hw3]
    refine HF1.out.trans (Fr.of_below (below9 (Below.refl w.heap.size w1) (Nat.le_refl _))) fun i hi h => by omega
  have K3 := Lib.hid hk3
  have HF3 := Lib.hid hf3
  clear hw3 hk3 hf3 K1 HF1 HP HQ HR x0 f0 x1 f1 x2 f2 x3 f3 x4 f4 y0 g0 y1 g1 y2 g2 y3 g3 y4 g4 y5 g5 y6 g6 y7 g7 y8 g8
  obtain ⟨x0, f0⟩ := blk_cell (i := 0) P3
  obtain ⟨x1, f1⟩ := blk_cell (i := 1) P3
  obtain ⟨x2, f2⟩ := blk_cell (i := 2) P3
  obtain ⟨x3, f3⟩ := blk_cell (i := 3) P3
  obtain ⟨x4, f4⟩ := blk_cell (i := 4) P3
  obtain ⟨y0, g0⟩ := blk_cell (i := 0) Q3
  obtain ⟨y1, g1⟩ := blk_cell (i := 1) Q3
  obtain ⟨y2, g2⟩ := blk_cell (i := 2) Q3
  obtain ⟨y3, g3⟩ := blk_cell (i := 3) Q3
  obtain ⟨y4, g4⟩ := blk_cell (i := 4) Q3
  obtain ⟨y5, g5⟩ := blk_cell (i := 5) Q3
  obtain ⟨y6, g6⟩ := blk_cell (i := 6) Q3
  obtain ⟨y7, g7⟩ := blk_cell (i := 7) Q3
  obtain ⟨y8, g8⟩ := blk_cell (i := 8) Q3
  simp [rqC] at x0 x1 x2 x3 x4 y0 y1 y2 y3 y4 y5 y6 y7 y8
  have HP := Lib.hid P3
  have HQ := Lib.hid Q3
  have HR := Lib.hid R3
  clear P3 Q3 R3
  go_region
  go_wp2_with fail
  obtain ⟨w5, hw5⟩ : ∃ w5, w5 = (((((w3.setCell ⟨w.heap.size, 0, none⟩ (.int .i64 c)).setCell ⟨w.heap.size, 1, none⟩ (.int .i64 l)).setCell ⟨w.heap.size, 2, none⟩ (.int .i64 ((last : Int) + 1))).setCell ⟨p, 4, none⟩ (.pointer (some ⟨w.heap.size, 0, none⟩))).setCell ⟨p, 3, none⟩ (.int .i64 now)) := ⟨_, rfl⟩
  rw [← hw5]
  have hne : p ≠ w.heap.size := by omega
  have P5 : w5.heap[p]? = some (.cells #[.int .i64 c, .int .i64 l, .int .i64 ((last : Int) + 1), .int .i64 now, .pointer (some ⟨w.heap.size, 0, none⟩)] 94 (0, 0)) := by
    rw [hw5]
    exact set_blk3 (j := 3) (set_blk3 (j := 4) ((Below.heap_setCell _ _ _ _ hne).trans ((Below.heap_setCell _ _ _ _ hne).trans ((Below.heap_setCell _ _ _ _ hne).trans HP.out))))
  have Q5 : w5.heap[w.heap.size]? = some (.cells (rqC ⟨c, l, (last : Int) + 1, qk, qi, qw, qn, qo, qops⟩ (.slice oa1 qops.length oc1)) 26 (0, 0)) := by
    rw [hw5]
    exact (Below.heap_setCell _ _ _ _ (Ne.symm hne)).trans ((Below.heap_setCell _ _ _ _ (Ne.symm hne)).trans (set_blk3 (j := 2) (set_blk3 (j := 1) (set_blk3 (j := 0) HQ.out))))
  have hsm5 : ∀ A' : Nat → Prop, ¬ A' p → ¬ A' w.heap.size → Same A' w3 w5 := fun A' h1 h2 => by
    rw [hw5]
    exact Same.setCell (a := ⟨p, 3, none⟩) (Same.setCell (a := ⟨p, 4, none⟩) (Same.setCell (a := ⟨w.heap.size, 2, none⟩) (Same.setCell (a := ⟨w.heap.size, 1, none⟩) (Same.setCell (a := ⟨w.heap.size, 0, none⟩) (Same.refl _ _) h2 _) h2 _) h2 _) h1 _) h1 _
  have R5 : w5.heap[w.heap.size + 1]? = some (.cells rq0 26 (0, 0)) :=
    ((hsm5 (fun b => b = w.heap.size + 1) (fun h => by have h : p = _ := h; omega) (fun h => by have h : w.heap.size = w.heap.size + 1 := h; omega)).block _ rfl (Array.getElem?_eq_some_iff.1 HR.out).1).trans HR.out
  have hs5 : w3.heap.size = w5.heap.size := by
    rw [hw5]
    simp [World.setCell]
  have hk5 : SlE Enc.op (fun b => w.heap.size + 2 ≤ b) w5 (.slice oa1 qops.length oc1) qops := K3.out.mono (hsm5 _ (fun h => by have h : w.heap.size + 2 ≤ p := h; omega) (fun h => by have h : w.heap.size + 2 ≤ w.heap.size := h; omega))
  have hf5 : Fr (fun k => k = p) w w5 := by
    rw [hw5]
    have f1 : Fr (fun k => k = p) w (((w3.setCell ⟨w.heap.size, 0, none⟩ (.int .i64 c)).setCell ⟨w.heap.size, 1, none⟩ (.int .i64 l)).setCell ⟨w.heap.size, 2, none⟩ (.int .i64 ((last : Int) + 1))) :=
      HF3.out.trans (Fr.of_below ((((Below.refl w.heap.size w3).setCell (p := ⟨w.heap.size, 0, none⟩) (Nat.le_refl _) _).setCell (p := ⟨w.heap.size, 1, none⟩) (Nat.le_refl _) _).setCell (p := ⟨w.heap.size, 2, none⟩) (Nat.le_refl _) _)) fun i hi h => by omega
    exact Fr.setCell (a := ⟨p, 3, none⟩) (Fr.setCell (a := ⟨p, 4, none⟩) f1 (fun _ => rfl) _) (fun _ => rfl) _
  have K5 := Lib.hid hk5
  have HF5 := Lib.hid hf5
  clear hw5 hk5 hf5 hsm5 K3 HF3 HP HQ HR x0 f0 x1 f1 x2 f2 x3 f3 x4 f4 y0 g0 y1 g1 y2 g2 y3 g3 y4 g4 y5 g5 y6 g6 y7 g7 y8 g8
  have HP := Lib.hid P5
  have HQ := Lib.hid Q5
  have HR := Lib.hid R5
  clear P5 Q5 R5
  refine (own_any (fun b => w.heap.size + 2 ≤ b) (rqV ⟨c, l, (last : Int) + 1, qk, qi, qw, qn, qo, qops⟩ (.slice oa1 qops.length oc1)) ⟨c, l, (last : Int) + 1, qk, qi, qw, qn, qo, qops⟩ w5.drew ⟨_, rfl, K5.out.mono (Same.drew (Same.refl _ _))⟩ ⟨HO.out.ops, HO.out.vals⟩).mono ?_
  rintro e w6 ⟨v6, rfl, hr6, hb6⟩
  obtain ⟨ov6, rfl, hk6⟩ := hr6
  obtain ⟨oa6, oc6, rfl⟩ := hk6.shape
  replace hb6 : Below w5.heap.size w5 w6 := ((Below.refl _ w5).drew).trans hb6
  replace hk6 : SlE Enc.op (fun b => w5.heap.size ≤ b) w6 (.slice oa6 qops.length oc6) qops := hk6
  have P6 := (hb6.block p (by omega)).trans HP.out
  have Q6 := (hb6.block w.heap.size (by omega)).trans HQ.out
  have R6 := (hb6.block (w.heap.size + 1) (by omega)).trans HR.out
  obtain ⟨x0, f0⟩ := blk_cell (i := 0) R6
  obtain ⟨x1, f1⟩ := blk_cell (i := 1) R6
  obtain ⟨x2, f2⟩ := blk_cell (i := 2) R6
  obtain ⟨x3, f3⟩ := blk_cell (i := 3) R6
  obtain ⟨x4, f4⟩ := blk_cell (i := 4) R6
  obtain ⟨x5, f5⟩ := blk_cell (i := 5) R6
  obtain ⟨x6, f6⟩ := blk_cell (i := 6) R6
  obtain ⟨x7, f7⟩ := blk_cell (i := 7) R6
  obtain ⟨x8, f8⟩ := blk_cell (i := 8) R6
  simp [rq0] at x0 x1 x2 x3 x4 x5 x6 x7 x8
  have HP6 := Lib.hid P6
  have HQ6 := Lib.hid Q6
  have HR6 := Lib.hid R6
  have K6 := Lib.hid hk6
  have HB6 := Lib.hid hb6
  clear P6 Q6 R6 hk6 hb6 HP HQ HR
  simp only [rqV]
  go_wp2
  refine bodyPost_ret (results_cell_tmp_row rfl _ _ (w.heap.size + 1) 26 _ (0, 0) _ rfl (set9_blk HR6.out) Tryz.underlying26 rfl (by kernel_rfl)) rfl ?_
  have hs6 := HB6.out.size
  refine ⟨_, rfl, ⟨_, rfl, ?_⟩, ⟨⟨_, ?_, w.heap.size, .slice oa1 qops.length oc1, rfl, by omega, HLo.out _ (Nat.le_refl _), ?_, ?_⟩, hlo⟩, ?_⟩
  · exact (K6.out.mono (same9 (fun h => by have h : w5.heap.size ≤ w.heap.size + 1 := h; omega))).weak fun b _ h => by omega
  · exact ((same9 (A := fun b => b = p) (fun h => by have h : w.heap.size + 1 = p := h; omega)).block p rfl (Array.getElem?_eq_some_iff.1 HP6.out).1).trans HP6.out
  · exact ((same9 (A := fun b => b = w.heap.size) (fun h => by have h : w.heap.size + 1 = w.heap.size := h; omega)).block _ rfl (Array.getElem?_eq_some_iff.1 HQ6.out).1).trans HQ6.out
  · exact ((K5.out.ext HB6.out).mono (same9 (fun h => by have h : w.heap.size + 2 ≤ w.heap.size + 1 := h; omega))).weak fun b _ h => HLo.out b (by omega)
  · refine (HF5.out.trans (Fr.ext HB6.out) fun _ _ h => h).trans (Fr.of_below (below9 (Below.refl w.heap.size w6) (by omega))) fun i hi h => by omega
end Go.Proofs.YtlgefkaafoidmaaGreatDoor
namespace Go.Proofs.YtlgefkaafoidmaaGreatDoor
open Go.RowKit Go.WideShapes

/-- a reply as a value -/
def rpV (p : RpD) (dv kv : Value) : Value := .agg #[.int .i64 p.client, .int .i64 p.life, .int .i64 p.seq, .int .i64 p.e, .int .i64 p.n, .int .i64 p.index, .bool p.there, dv, kv, .int .i64 p.obj.seq]
def RpV (A : Nat → Prop) (w : World) (v : Value) (p : RpD) : Prop := ∃ dv kv, v = rpV p dv kv ∧ RB A w dv p.obj.data ∧ SlE Enc.key A w kv p.obj.keys
/-- what a method that refuses leaves -/
def NoRq (w : World) (e : Ending) (w' : World) : Prop := e = .returned (.tuple #[rqV RqD.none (.slice none 0 0), .bool false]) ∧ Below w.heap.size w w'
theorem same9b {w : World} {p : Nat} {a' b' c' d' e' f' g' h' i' : Value} {B : Nat} (h : B ≤ p) :
    Below B w (((((((((w.setCell ⟨p, 0, none⟩ a').setCell ⟨p, 1, none⟩ b').setCell ⟨p, 2, none⟩ c').setCell ⟨p, 3, none⟩ d').setCell ⟨p, 4, none⟩ e').setCell ⟨p, 5, none⟩ f').setCell ⟨p, 6, none⟩ g').setCell ⟨p, 7, none⟩ h').setCell ⟨p, 8, none⟩ i') := below9 (Below.refl _ _) h
set_option maxRecDepth 100000 in
set_option maxHeartbeats 1600000 in
theorem ask_nil (w : World) (q : RqD) (ov : Value) (hov : ov.oneCell' = true) (now : Int) : Calls Tryz.prog 19 #[.pointer none, rqV q ov, .int .i64 now] w (NoRq w) := by
  obtain ⟨qc, ql, qs, qk, qi, qw, qn, qo, qops⟩ := q
  simp only [rqV]
  go_enter Tryz.func19, Tryz.ntmps19
  go_wp2
  (try simp only [Exit.inBlock, Exit.then])
  refine bodyPost_ret (results_cell_tmp_row rfl _ _ (w.heap.size + 1) 26 _ (0, 0) _ rfl (heap_alloc2_new _ _ _) Tryz.underlying26 rfl (by kernel_rfl)) rfl ?_
  exact ⟨rfl, ((Below.refl _ w).alloc (Nat.le_refl _) _).alloc (by simp) _⟩
set_option maxRecDepth 100000 in
set_option maxHeartbeats 1600000 in
theorem due_nil (w : World) (now : Int) : Calls Tryz.prog 20 #[.pointer none, .int .i64 now] w (NoRq w) := by
  go_enter Tryz.func20, Tryz.ntmps20
  go_wp2
  (try simp only [Exit.inBlock, Exit.then])
  refine bodyPost_ret (results_cell_tmp_row rfl _ _ w.heap.size 26 _ (0, 0) _ rfl (heap_alloc_new _ _) Tryz.underlying26 rfl (by kernel_rfl)) rfl ?_
  exact ⟨rfl, (Below.refl _ w).alloc (Nat.le_refl _) _⟩
set_option maxRecDepth 100000 in
set_option maxHeartbeats 1600000 in
theorem hear_nil (w : World) (p : RpD) (dv kv : Value) : Calls Tryz.prog 21 #[.pointer none, rpV p dv kv] w fun e w' => e = .returned (.bool false) ∧ Below w.heap.size w w' := by
  obtain ⟨pc, pl, ps, pe, pn, px, pt, ⟨od, ok, os⟩⟩ := p
  simp only [rpV]
  go_enter Tryz.func21, Tryz.ntmps21
  go_wp2
  go_quiet (fail)
  go_wp2
  go_ret
  exact ⟨rfl, by ((repeat' (first | exact Below.refl _ _ | refine below_drewN ?_ _ | refine Below.drew ?_ | refine Below.alloc ?_ ?_ _ | refine Below.trans ?_ (Below.mono (by assumption) ?_))); all_goals (first | exact Nat.le_refl _ | exact Below.size (by assumption) | omega | (simp; done) | (simp; omega)))⟩
set_option maxRecDepth 100000 in
theorem busy_nil (w : World) : Calls Tryz.prog 24 #[.pointer none] w fun e w' => e = .returned (.bool false) ∧ w = w' := by
  go_enter Tryz.func24, Tryz.ntmps24
  go_wp2
  go_ret
  exact ⟨rfl, rfl⟩
set_option maxRecDepth 100000 in
set_option maxHeartbeats 1600000 in
theorem ask_busy (lo : Nat → Prop) (w : World) (p : Nat) (c l last at_ now : Int) (q0 : RqD) (q : RqD) (ov : Value) (h : IsS lo w p c l last at_ (some q0)) : Calls Tryz.prog 19 #[.pointer (some ⟨p, 0, none⟩), rqV q ov, .int .i64 now] w (NoRq w) := by
  have hpl := h.lt
  obtain ⟨wp, h1, h2⟩ := h.ex
  obtain ⟨x, ov0, rfl, -⟩ := h2
  obtain ⟨c4, f4⟩ := blk_cell (i := 4) h1
  simp at c4
  clear h1 h
  obtain ⟨qc, ql, qs, qk, qi, qw, qn, qo, qops⟩ := q
  simp only [rqV]
  go_enter Tryz.func19, Tryz.ntmps19
  go_wp2
  (try simp only [Exit.inBlock, Exit.then])
  refine bodyPost_ret (results_cell_tmp_row rfl _ _ (w.heap.size + 1) 26 _ (0, 0) _ rfl (heap_alloc2_new _ _ _) Tryz.underlying26 rfl (by kernel_rfl)) rfl ?_
  exact ⟨rfl, ((Below.refl _ w).alloc (Nat.le_refl _) _).alloc (by simp) _⟩
set_option maxRecDepth 100000 in
set_option maxHeartbeats 1600000 in
theorem due_idle (lo : Nat → Prop) (w : World) (p : Nat) (c l last at_ now : Int) (h : IsS lo w p c l last at_ none) : Calls Tryz.prog 20 #[.pointer (some ⟨p, 0, none⟩), .int .i64 now] w (NoRq w) := by
  have hpl := h.lt
  obtain ⟨wp, h1, h2⟩ := h.ex
  obtain rfl : wp = none := h2
  obtain ⟨c4, f4⟩ := blk_cell (i := 4) h1
  simp at c4
  clear h1 h
  go_enter Tryz.func20, Tryz.ntmps20
  go_wp2
  (try simp only [Exit.inBlock, Exit.then])
  refine bodyPost_ret (results_cell_tmp_row rfl _ _ w.heap.size 26 _ (0, 0) _ rfl (heap_alloc_new _ _) Tryz.underlying26 rfl (by kernel_rfl)) rfl ?_
  exact ⟨rfl, (Below.refl _ w).alloc (Nat.le_refl _) _⟩
set_option maxRecDepth 100000 in
set_option maxHeartbeats 1600000 in
theorem due_early (lo : Nat → Prop) (w : World) (p : Nat) (c l last at_ now : Int) (q0 : RqD) (h : IsS lo w p c l last at_ (some q0)) (h0 : 0 ≤ at_ ∧ at_ ≤ 1000000) (h1 : 0 ≤ now ∧ now ≤ 1000000) (hn : now < at_ ∨ now - at_ < 4) :
    Calls Tryz.prog 20 #[.pointer (some ⟨p, 0, none⟩), .int .i64 now] w (NoRq w) := by
  have hpl := h.lt
  obtain ⟨wp, b1, b2⟩ := h.ex
  obtain ⟨x, ov0, rfl, -⟩ := b2
  obtain ⟨c4, f4⟩ := blk_cell (i := 4) b1
  obtain ⟨c3, f3⟩ := blk_cell (i := 3) b1
  simp at c3 c4
  clear b1 h
  by_cases hlt : now < at_
  · clear hn
    go_enter Tryz.func20, Tryz.ntmps20
    go_wp2
    (try simp only [Exit.inBlock, Exit.then])
    refine bodyPost_ret (results_cell_tmp_row rfl _ _ w.heap.size 26 _ (0, 0) _ rfl (heap_alloc_new _ _) Tryz.underlying26 rfl (by kernel_rfl)) rfl ?_
    exact ⟨rfl, (Below.refl _ w).alloc (Nat.le_refl _) _⟩
  · have hn4 : now - at_ < 4 := by omega
    clear hn
    go_enter Tryz.func20, Tryz.ntmps20
    go_wp2
    (try simp only [Exit.inBlock, Exit.then])
    refine bodyPost_ret (results_cell_tmp_row rfl _ _ w.heap.size 26 _ (0, 0) _ rfl (heap_alloc_new _ _) Tryz.underlying26 rfl (by kernel_rfl)) rfl ?_
    exact ⟨rfl, (Below.refl _ w).alloc (Nat.le_refl _) _⟩
set_option maxRecDepth 100000 in
set_option maxHeartbeats 4000000 in
theorem due_yes (lo : Nat → Prop) (w : World) (p : Nat) (c l last at_ now : Int) (q : RqD) (h : IsS lo w p c l last at_ (some q)) (ho : q.okl) (h0 : 0 ≤ at_ ∧ at_ ≤ 1000000) (h1 : 0 ≤ now ∧ now ≤ 1000000) (hlt : ¬ now < at_) (hn : ¬ now - at_ < 4) :
    Calls Tryz.prog 20 #[.pointer (some ⟨p, 0, none⟩), .int .i64 now] w fun e w' => ∃ v', e = .returned (.tuple #[v', .bool true]) ∧ RqV (fun b => w.heap.size ≤ b) w' v' q ∧
      IsS lo w' p c l last now (some q) ∧ Fr (fun k => k = p) w w' := by
  obtain ⟨wp, b1, b2⟩ := h.ex
  obtain ⟨x, ov0, rfl, hxp, hlx, bx, hk⟩ := b2
  have hlo := h.lo
  have hpl := h.lt
  have hxl : x < w.heap.size := (Array.getElem?_eq_some_iff.1 bx).1
  obtain ⟨oa, oc, rfl⟩ := hk.shape
  obtain ⟨c0, f0⟩ := blk_cell (i := 0) b1
  obtain ⟨c1, f1⟩ := blk_cell (i := 1) b1
  obtain ⟨c2, f2⟩ := blk_cell (i := 2) b1
  obtain ⟨c3, f3⟩ := blk_cell (i := 3) b1
  obtain ⟨c4, f4⟩ := blk_cell (i := 4) b1
  obtain ⟨y0, g0⟩ := blk_cell (i := 0) bx
  obtain ⟨y1, g1⟩ := blk_cell (i := 1) bx
  obtain ⟨y2, g2⟩ := blk_cell (i := 2) bx
  obtain ⟨y3, g3⟩ := blk_cell (i := 3) bx
  obtain ⟨y4, g4⟩ := blk_cell (i := 4) bx
  obtain ⟨y5, g5⟩ := blk_cell (i := 5) bx
  obtain ⟨y6, g6⟩ := blk_cell (i := 6) bx
  obtain ⟨y7, g7⟩ := blk_cell (i := 7) bx
  obtain ⟨y8, g8⟩ := blk_cell (i := 8) bx
  simp [rqC] at c0 c1 c2 c3 c4 y0 y1 y2 y3 y4 y5 y6 y7 y8
  have HK := Lib.hid hk
  have HP := Lib.hid b1
  have HX := Lib.hid bx
  have HO := Lib.hid ho
  clear h b1 bx hk ho
  obtain ⟨qc, ql, qs, qk, qi, qw, qn, qo, qops⟩ := q
  simp only at *
  go_enter Tryz.func20, Tryz.ntmps20
  go_wp2_with fail
  have hsz : (w.setCell ⟨p, 3, none⟩ (.int .i64 now)).heap.size = w.heap.size := by simp [World.setCell]
  refine (own_any (fun b => lo b ∧ b < w.heap.size) _ ⟨qc, ql, qs, qk, qi, qw, qn, qo, qops⟩ _ ⟨_, rfl, (SlE.cut HK.out).mono (Same.alloc (Same.setCell (a := ⟨p, 3, none⟩) (Same.refl _ _) (fun h => hlo h.1) _) _)⟩ HO.out).mono ?_
  rintro e w6 ⟨v6, rfl, hr6, hb6⟩
  obtain ⟨ov6, rfl, hk6⟩ := hr6
  obtain ⟨oa6, oc6, rfl⟩ := hk6.shape
  simp only [World.size_alloc, hsz] at hb6 hk6
  have hs6 := hb6.size
  simp only [World.size_alloc, hsz] at hs6
  have P6 : w6.heap[p]? = some (.cells #[.int .i64 c, .int .i64 l, .int .i64 last, .int .i64 now, .pointer (some ⟨x, 0, none⟩)] 94 (0, 0)) := by
    rw [hb6.block p (by omega), Below.heap_alloc _ _ _ (by simp [hsz]; omega)]
    exact set_blk3 (j := 3) HP.out
  have Q6 : w6.heap[x]? = some (.cells (rqC ⟨qc, ql, qs, qk, qi, qw, qn, qo, qops⟩ (.slice oa qops.length oc)) 26 (0, 0)) := by
    rw [hb6.block _ (by omega), Below.heap_alloc _ _ _ (by simp [hsz]; omega)]
    exact (Below.heap_setCell _ ⟨p, 3, none⟩ _ _ hxp).trans HX.out
  have R6 : w6.heap[w.heap.size]? = some (.cells rq0 26 (0, 0)) := by
    rw [hb6.block _ (by omega)]
    have := heap_alloc_new (w.setCell ⟨p, 3, none⟩ (.int .i64 now)) (.cells rq0 26)
    rwa [hsz] at this
  have hk7 : SlE Enc.op (fun b => lo b ∧ b < w.heap.size) w6 (.slice oa qops.length oc) qops :=
    ((SlE.cut HK.out).mono (Same.alloc (Same.setCell (a := ⟨p, 3, none⟩) (Same.refl _ _) (fun h => hlo h.1) (.int .i64 now)) (.cells rq0 26))).mono (Same.of_below hb6 fun b h => by omega)
  have hf6 : Fr (fun k => k = p) w w6 := by
    refine (Fr.alloc (Fr.setCell (S := fun k => k = p) (a := ⟨p, 3, none⟩) (Fr.refl _ w) (fun _ => rfl) (.int .i64 now)) _).trans (Fr.ext (S := fun k => k = p) (hb6.mono (by simp [hsz]))) fun _ _ h => h
  clear c0 c1 c2 c3 c4 f0 f1 f2 f3 f4 y0 y1 y2 y3 y4 y5 y6 y7 y8 g0 g1 g2 g3 g4 g5 g6 g7 g8
  obtain ⟨x0, f0⟩ := blk_cell (i := 0) R6
  obtain ⟨x1, f1⟩ := blk_cell (i := 1) R6
  obtain ⟨x2, f2⟩ := blk_cell (i := 2) R6
  obtain ⟨x3, f3⟩ := blk_cell (i := 3) R6
  obtain ⟨x4, f4⟩ := blk_cell (i := 4) R6
  obtain ⟨x5, f5⟩ := blk_cell (i := 5) R6
  obtain ⟨x6, f6⟩ := blk_cell (i := 6) R6
  obtain ⟨x7, f7⟩ := blk_cell (i := 7) R6
  obtain ⟨x8, f8⟩ := blk_cell (i := 8) R6
  simp [rq0] at x0 x1 x2 x3 x4 x5 x6 x7 x8
  have HP6 := Lib.hid P6
  have HQ6 := Lib.hid Q6
  have HR6 := Lib.hid R6
  have K6 := Lib.hid hk6
  have K7 := Lib.hid hk7
  have HF6 := Lib.hid hf6
  clear P6 Q6 R6 hk6 hb6 hk7 hf6
  simp only [rqV]
  go_wp2
  refine bodyPost_ret (results_cell_tmp_row rfl _ _ w.heap.size 26 _ (0, 0) _ rfl (set9_blk HR6.out) Tryz.underlying26 rfl (by kernel_rfl)) rfl ?_
  refine ⟨_, rfl, ⟨_, rfl, ?_⟩, ⟨⟨_, ?_, x, .slice oa qops.length oc, rfl, hxp, hlx, ?_, ?_⟩, hlo⟩, ?_⟩
  · exact (K6.out.mono (same9 (fun h => by have h : w.heap.size + 1 ≤ w.heap.size := h; omega))).weak fun b _ h => by omega
  · exact ((same9 (A := fun b => b = p) (fun h => by have h : w.heap.size = p := h; omega)).block p rfl (Array.getElem?_eq_some_iff.1 HP6.out).1).trans HP6.out
  · exact ((same9 (A := fun b => b = x) (fun h => by have h : w.heap.size = x := h; omega)).block _ rfl (Array.getElem?_eq_some_iff.1 HQ6.out).1).trans HQ6.out
  · exact (K7.out.mono (same9 (fun h => by omega))).weak fun b _ h => h.1
  · refine HF6.out.trans (Fr.of_below (below9 (Below.refl w.heap.size w6) (Nat.le_refl _))) fun i hi h => by omega
set_option maxRecDepth 100000 in
set_option maxHeartbeats 4000000 in
theorem hear_yes (lo : Nat → Prop) (w : World) (s : Nat) (c l last at_ : Int) (q : RqD) (p : RpD) (dv kv : Value) (h : IsS lo w s c l last at_ (some q)) (hp : p.client = c ∧ p.life = l ∧ p.seq = last) :
    Calls Tryz.prog 21 #[.pointer (some ⟨s, 0, none⟩), rpV p dv kv] w fun e w' => e = .returned (.bool true) ∧ IsS lo w' s c l last at_ none ∧ Fr (fun k => k = s) w w' := by
  obtain ⟨pc, pl, ps, pe, pn, px, pt, ⟨od, ok, os⟩⟩ := p
  obtain ⟨rfl, rfl, rfl⟩ := hp
  simp only [rpV] at *
  have hpl := h.lt
  have hlo := h.lo
  obtain ⟨wp, h1, h2⟩ := h.ex
  obtain ⟨x, ov0, rfl, -⟩ := h2
  obtain ⟨c0, f0⟩ := blk_cell (i := 0) h1
  obtain ⟨c1, f1⟩ := blk_cell (i := 1) h1
  obtain ⟨c2, f2⟩ := blk_cell (i := 2) h1
  obtain ⟨c4, f4⟩ := blk_cell (i := 4) h1
  simp at c0 c1 c2 c4
  have HP := Lib.hid h1
  clear h h1
  go_enter Tryz.func21, Tryz.ntmps21
  go_wp2
  go_quiet (fail)
  go_wp2
  go_ret
  refine ⟨rfl, ⟨⟨none, set_blk3 (j := 4) ((Below.heap_alloc _ _ _ hpl).trans HP.out), rfl⟩, hlo⟩, ?_⟩
  exact Fr.setCell (S := fun k => k = s) (a := ⟨s, 4, none⟩) (((Fr.refl _ w).alloc _).drewN _) (fun _ => rfl) _
theorem ne_or {a b c d e f : Int} (h : ¬(a = b ∧ c = d ∧ e = f)) : a ≠ b ∨ (a = b ∧ c ≠ d) ∨ (a = b ∧ c = d ∧ e ≠ f) := by omega
set_option maxRecDepth 100000 in
set_option maxHeartbeats 4000000 in
theorem hear_no (lo : Nat → Prop) (w : World) (s : Nat) (c l last at_ : Int) (q : RqD) (p : RpD) (dv kv : Value) (h : IsS lo w s c l last at_ (some q)) (hp : ¬(p.client = c ∧ p.life = l ∧ p.seq = last)) :
    Calls Tryz.prog 21 #[.pointer (some ⟨s, 0, none⟩), rpV p dv kv] w fun e w' => e = .returned (.bool false) ∧ Below w.heap.size w w' := by
  obtain ⟨pc, pl, ps, pe, pn, px, pt, ⟨od, ok, os⟩⟩ := p
  simp only [rpV] at *
  have hpl := h.lt
  obtain ⟨wp, h1, h2⟩ := h.ex
  obtain ⟨x, ov0, rfl, -⟩ := h2
  obtain ⟨c0, f0⟩ := blk_cell (i := 0) h1
  obtain ⟨c1, f1⟩ := blk_cell (i := 1) h1
  obtain ⟨c2, f2⟩ := blk_cell (i := 2) h1
  obtain ⟨c4, f4⟩ := blk_cell (i := 4) h1
  simp at c0 c1 c2 c4
  clear h h1
  rcases ne_or hp with h1 | ⟨rfl, h1⟩ | ⟨rfl, rfl, h1⟩
  all_goals
    clear hp
    have hd := bne_iff_ne.2 h1
    go_enter Tryz.func21, Tryz.ntmps21
    go_wp2
    go_quiet (fail)
    go_wp2
    go_ret
    exact ⟨rfl, by ((repeat' (first | exact Below.refl _ _ | refine below_drewN ?_ _ | refine Below.drew ?_ | refine Below.alloc ?_ ?_ _ | refine Below.trans ?_ (Below.mono (by assumption) ?_))); all_goals (first | exact Nat.le_refl _ | exact Below.size (by assumption) | omega | (simp; done) | (simp; omega)))⟩
set_option maxRecDepth 100000 in
set_option maxHeartbeats 4000000 in
theorem hear_idle (lo : Nat → Prop) (w : World) (s : Nat) (c l last at_ : Int) (p : RpD) (dv kv : Value) (h : IsS lo w s c l last at_ none) :
    Calls Tryz.prog 21 #[.pointer (some ⟨s, 0, none⟩), rpV p dv kv] w fun e w' => e = .returned (.bool false) ∧ Below w.heap.size w w' := by
  obtain ⟨pc, pl, ps, pe, pn, px, pt, ⟨od, ok, os⟩⟩ := p
  simp only [rpV] at *
  have hpl := h.lt
  obtain ⟨wp, h1, h2⟩ := h.ex
  obtain rfl : wp = none := h2
  obtain ⟨c4, f4⟩ := blk_cell (i := 4) h1
  simp at c4
  clear h h1
  go_enter Tryz.func21, Tryz.ntmps21
  go_wp2
  go_quiet (fail)
  go_wp2
  go_ret
  exact ⟨rfl, by ((repeat' (first | exact Below.refl _ _ | refine below_drewN ?_ _ | refine Below.drew ?_ | refine Below.alloc ?_ ?_ _ | refine Below.trans ?_ (Below.mono (by assumption) ?_))); all_goals (first | exact Nat.le_refl _ | exact Below.size (by assumption) | omega | (simp; done) | (simp; omega)))⟩
end Go.Proofs.YtlgefkaafoidmaaGreatDoor
namespace Go.Proofs.YtlgefkaafoidmaaGreatDoor
open Go.RowKit Go.WideShapes

theorem results_tmp_cell_row {P : Program} {fn : Func} {p u : Tmp} {ty : TypeId} (h : fn.results = #[.tmp u, .cell p ty]) (tmps : Array Value) (w : World) (g : Nat) (t : TypeId) (cs : Array Value) (fr : Nat × Nat) (d : TypeDesc)
    (hp : tmps.getD p undef = .pointer (some ⟨g, 0, none⟩)) (hg : w.heap[g]? = some (.cells cs t fr))
    (hu : P.underlying ty = some d) (hd : (match d with | .struct _ | .array _ _ => true | _ => false) = true) (hi : (P.info? ty).map (·.size) = some cs.size) :
    (results fn tmps).run P w = .ok (.tuple #[tmps.getD u undef, .agg cs]) w := by
  have hp' : tmps[p]?.getD undef = .pointer (some ⟨g, 0, none⟩) := by simpa using hp
  simp [results, h, hp', asAddr, run_loadVar_row w g t ty cs fr d hg hu hd hi]
/-- an answer that is kept, or none, in a cell -/
def CV (A : Nat → Prop) (w : World) : Option RpD → Value → Prop
  | none, v => v = .nilIface
  | some r, v => ∃ dv kv, v = .iface 40 (rpV r dv kv) ∧ RB A w dv r.obj.data ∧ SlE Enc.key A w kv r.obj.keys
theorem CV.mono {A : Nat → Prop} {w w' : World} {o : Option RpD} {v : Value} (h : CV A w o v) (hs : Same A w w') : CV A w' o v := by
  cases o with
  | none => exact h
  | some r => obtain ⟨dv, kv, e, h1, h2⟩ := h; exact ⟨dv, kv, e, h1.mono hs, h2.mono hs⟩
theorem CV.weak {A A' : Nat → Prop} {w : World} {o : Option RpD} {v : Value} (h : CV A w o v) (hs : ∀ b, b < w.heap.size → A b → A' b) : CV A' w o v := by
  cases o with
  | none => exact h
  | some r => obtain ⟨dv, kv, e, h1, h2⟩ := h; exact ⟨dv, kv, e, h1.weak hs, h2.weak hs⟩
/-- a cache behind a pointer -/
structure IsC (lo : Nat) (w : World) (p : Nat) (f : Nat → Option RpD) : Prop where
  mk ::
  ex : ∃ cs : Array Value, cs.size = 8 ∧ w.heap[p]? = some (.cells cs 98 (0, 0)) ∧ ∀ i, i < 8 → ∃ v, cs[i]? = some v ∧ CV (fun b => lo ≤ b ∧ b ≠ p) w (f i) v
  lo : lo ≤ p
theorem IsC.lt {lo : Nat} {w : World} {p : Nat} {f : Nat → Option RpD} (h : IsC lo w p f) : p < w.heap.size := by
  obtain ⟨v, _, hb, _⟩ := h.ex
  exact (Array.getElem?_eq_some_iff.1 hb).1
theorem IsC.same {lo : Nat} {w w' : World} {p : Nat} {f : Nat → Option RpD} (h : IsC lo w p f) (hs : Same (fun b => lo ≤ b) w w') : IsC lo w' p f := by
  obtain ⟨cs, h1, h2, h3⟩ := h.ex
  refine ⟨⟨cs, h1, (hs.block _ h.lo h.lt).trans h2, fun i hi => ?_⟩, h.lo⟩
  obtain ⟨v, e, hv⟩ := h3 i hi
  exact ⟨v, e, hv.mono (hs.weak fun b hb => hb.1)⟩
theorem IsC.ext {lo : Nat} {w w' : World} {p : Nat} {f : Nat → Option RpD} (h : IsC lo w p f) (hb : Below w.heap.size w w') : IsC lo w' p f := h.same (Same.of_ext hb)
set_option maxRecDepth 100000 in
theorem cache_new (w : World) : Calls Tryz.prog 22 #[] w fun e w' => e = .returned (.pointer (some ⟨w.heap.size, 0, none⟩)) ∧ IsC w.heap.size w' w.heap.size (fun _ => none) ∧ Below w.heap.size w w' := by
  go_enter Tryz.func22, Tryz.ntmps22
  go_wp2
  go_ret
  refine ⟨rfl, ⟨⟨_, ?_, heap_alloc_new _ _, fun i hi => ⟨.nilIface, ?_, rfl⟩⟩, Nat.le_refl _⟩, by ((repeat' (first | exact Below.refl _ _ | refine below_drewN ?_ _ | refine Below.drew ?_ | refine Below.alloc ?_ ?_ _ | refine Below.trans ?_ (Below.mono (by assumption) ?_))); all_goals (first | exact Nat.le_refl _ | exact Below.size (by assumption) | omega | (simp; done) | (simp; omega)))⟩
  · rfl
  · obtain rfl | rfl | rfl | rfl | rfl | rfl | rfl | rfl : i = 0 ∨ i = 1 ∨ i = 2 ∨ i = 3 ∨ i = 4 ∨ i = 5 ∨ i = 6 ∨ i = 7 := by omega
    all_goals rfl
set_option maxRecDepth 100000 in
theorem within_any (n lo hi : Int) (w : World) : Calls Tryz.prog 54 #[.int .i64 n, .int .i64 lo, .int .i64 hi] w fun e w' => e = .returned (.bool (decide (lo ≤ n ∧ n ≤ hi))) ∧ w = w' := by
  by_cases h1 : lo ≤ n
  · by_cases h2 : n ≤ hi
    · go_enter Tryz.func54, Tryz.ntmps54
      go_wp2
      go_ret
      refine ⟨?_, rfl⟩
      simp [h1, h2]
    · go_enter Tryz.func54, Tryz.ntmps54
      go_wp2
      go_ret
      refine ⟨?_, rfl⟩
      simp [h1, h2]
  · go_enter Tryz.func54, Tryz.ntmps54
    go_wp2
    go_ret
    refine ⟨?_, rfl⟩
    simp; omega
theorem assR_yes (W : World) (v : Value) : (Instr.typeAssert (.iface 40 v) 20 40 true).run Tryz.prog W = .ok (.tuple #[v, .bool true]) W := by kernel_rfl
theorem assR_no (W : World) : (Instr.typeAssert .nilIface 20 40 true).run Tryz.prog W = .ok (.tuple #[.agg #[.int .i64 0, .int .i64 0, .int .i64 0, .int .i64 0, .int .i64 0, .int .i64 0, .bool false, .slice none 0 0, .slice none 0 0, .int .i64 0], .bool false]) W := by kernel_rfl
theorem set10_blk {w : World} {p : Nat} {t : TypeId} {a b c d e f g h i j a' b' c' d' e' f' g' h' i' j' : Value} (hb : w.heap[p]? = some (.cells #[a, b, c, d, e, f, g, h, i, j] t (0, 0))) :
    ((((((((((w.setCell ⟨p, 0, none⟩ a').setCell ⟨p, 1, none⟩ b').setCell ⟨p, 2, none⟩ c').setCell ⟨p, 3, none⟩ d').setCell ⟨p, 4, none⟩ e').setCell ⟨p, 5, none⟩ f').setCell ⟨p, 6, none⟩ g').setCell ⟨p, 7, none⟩ h').setCell ⟨p, 8, none⟩ i').setCell ⟨p, 9, none⟩ j').heap[p]? = some (.cells #[a', b', c', d', e', f', g', h', i', j'] t (0, 0)) := by
  have := (set_blk3 (j := 9) (v := j') (set_blk3 (j := 8) (v := i') (set_blk3 (j := 7) (v := h') (set_blk3 (j := 6) (v := g') (set_blk3 (j := 5) (v := f') (set_blk3 (j := 4) (v := e') (set_blk3 (j := 3) (v := d') (set_blk3 (j := 2) (v := c') (set_blk3 (j := 1) (v := b') (set_blk3 (j := 0) (v := a') hb))))))))))
  simpa using this
theorem same10 {A : Nat → Prop} {w : World} {p : Nat} {a' b' c' d' e' f' g' h' i' j' : Value} (h : ¬ A p) : Same A w ((((((((((w.setCell ⟨p, 0, none⟩ a').setCell ⟨p, 1, none⟩ b').setCell ⟨p, 2, none⟩ c').setCell ⟨p, 3, none⟩ d').setCell ⟨p, 4, none⟩ e').setCell ⟨p, 5, none⟩ f').setCell ⟨p, 6, none⟩ g').setCell ⟨p, 7, none⟩ h').setCell ⟨p, 8, none⟩ i').setCell ⟨p, 9, none⟩ j') :=
  (Same.setCell (a := ⟨p, 9, none⟩) (Same.setCell (a := ⟨p, 8, none⟩) (Same.setCell (a := ⟨p, 7, none⟩) (Same.setCell (a := ⟨p, 6, none⟩) (Same.setCell (a := ⟨p, 5, none⟩) (Same.setCell (a := ⟨p, 4, none⟩) (Same.setCell (a := ⟨p, 3, none⟩) (Same.setCell (a := ⟨p, 2, none⟩) (Same.setCell (a := ⟨p, 1, none⟩) (Same.setCell (a := ⟨p, 0, none⟩) (Same.refl _ _) h a') h b') h c') h d') h e') h f') h g') h h') h i') h j')
theorem below10 {B : Nat} {w0 w : World} {p : Nat} {a' b' c' d' e' f' g' h' i' j' : Value} (hb : Below B w0 w) (h : B ≤ p) : Below B w0 ((((((((((w.setCell ⟨p, 0, none⟩ a').setCell ⟨p, 1, none⟩ b').setCell ⟨p, 2, none⟩ c').setCell ⟨p, 3, none⟩ d').setCell ⟨p, 4, none⟩ e').setCell ⟨p, 5, none⟩ f').setCell ⟨p, 6, none⟩ g').setCell ⟨p, 7, none⟩ h').setCell ⟨p, 8, none⟩ i').setCell ⟨p, 9, none⟩ j') :=
  (Below.setCell (p := ⟨p, 9, none⟩) (Below.setCell (p := ⟨p, 8, none⟩) (Below.setCell (p := ⟨p, 7, none⟩) (Below.setCell (p := ⟨p, 6, none⟩) (Below.setCell (p := ⟨p, 5, none⟩) (Below.setCell (p := ⟨p, 4, none⟩) (Below.setCell (p := ⟨p, 3, none⟩) (Below.setCell (p := ⟨p, 2, none⟩) (Below.setCell (p := ⟨p, 1, none⟩) (Below.setCell (p := ⟨p, 0, none⟩) hb h a') h b') h c') h d') h e') h f') h g') h h') h i') h j')
theorem heap3_mid (w : World) (A B C : Obj) : (((w.alloc A).alloc B).alloc C).heap[w.heap.size + 1]? = some B :=
  (Below.heap_alloc _ _ _ (by simp)).trans (heap_alloc2_new w A B)
theorem heap3_top (w : World) (A B C : Obj) : (((w.alloc A).alloc B).alloc C).heap[w.heap.size + 2]? = some C := by
  have := heap_alloc2_new (w.alloc A) B C
  simpa using this
def rp0 : Value := rpV RpD.none (.slice none 0 0) (.slice none 0 0)
/-- what is told of a request -/
def lookN (o : Option RpD) (life seq : Int) : Nat :=
  match o with
  | none => 0
  | some r => if r.life < life ∨ (r.life = life ∧ r.seq < seq) then 0 else if r.life = life ∧ r.seq = seq then 1 else 2
def NoRp (k : Nat) (w : World) (e : Ending) (w' : World) : Prop := e = .returned (.tuple #[.int .i64 k, rp0]) ∧ Below w.heap.size w w'
set_option maxRecDepth 100000 in
set_option maxHeartbeats 4000000 in
theorem look_none (lo : Nat) (w : World) (p i : Nat) (f : Nat → Option RpD) (q : RqD) (ov : Value) (hov : ov.oneCell' = true) (h : IsC lo w p f) (hi : i < 8) (hq : q.client = i) (hf : f i = none) :
    Calls Tryz.prog 23 #[.pointer (some ⟨p, 0, none⟩), rqV q ov] w (NoRp 0 w) := by
  obtain ⟨qc, ql, qs, qk, qi, qw, qn, qo, qops⟩ := q
  have hpl := h.lt
  obtain ⟨cs, h1, h2, h3⟩ := h.ex
  obtain ⟨v, e, hv⟩ := h3 i hi
  rw [hf] at hv
  obtain rfl : v = .nilIface := hv
  have c0 := (blk_cell h2).1.trans e
  (try simp only at hq)
  subst hq
  clear h h3 h2 e
  have hi8 : (i : Int) < 8 := by omega
  have hi0 : (0 : Int) ≤ i := by omega
  have hla : ∀ (o1 o2 o3 : Obj), (((w.alloc o1).alloc o2).alloc o3).drew.cell? ⟨p, i, none⟩ = _ := fun o1 o2 o3 => (World.cell?_alloc_lt _ _ _ (by simp; omega)).trans ((World.cell?_alloc_lt _ _ _ (by simp; omega)).trans ((World.cell?_alloc_lt _ _ _ hpl).trans c0))
  have HW : Hid (decide ((0 : Int) ≤ i ∧ (i : Int) ≤ 7) = true) := by
    show _ = true
    simp; omega
  simp only [rqV]
  have hta := assR_no
  go_enter Tryz.func23, Tryz.ntmps23
  go_wp2_with fail
  refine (within_any _ _ _ _).mono ?_
  rintro e w1 ⟨rfl, rfl⟩
  rw [HW.out]
  go_wp2_with fail
  go_region
  all_goals
    go_wp2
    (try simp only [Exit.inBlock, Exit.then])
    refine bodyPost_ret (results_tmp_cell_row rfl _ _ _ 40 _ (0, 0) _ rfl (heap3_mid _ _ _ _) Tryz.underlying40 rfl (by kernel_rfl)) rfl ?_
    exact ⟨rfl, by ((repeat' (first | exact Below.refl _ _ | refine below_drewN ?_ _ | refine Below.drew ?_ | refine Below.alloc ?_ ?_ _ | refine Below.trans ?_ (Below.mono (by assumption) ?_))); all_goals (first | exact Nat.le_refl _ | exact Below.size (by assumption) | omega | (simp; done) | (simp; omega)))⟩
set_option maxRecDepth 100000 in
set_option maxHeartbeats 4000000 in
theorem look_out (w : World) (p : Option Addr) (q : RqD) (ov : Value) (hov : ov.oneCell' = true) (hq : p = none ∨ ¬ (0 ≤ q.client ∧ q.client ≤ 7)) :
    Calls Tryz.prog 23 #[.pointer p, rqV q ov] w (NoRp 2 w) := by
  obtain ⟨qc, ql, qs, qk, qi, qw, qn, qo, qops⟩ := q
  simp only [rqV]
  rcases p with _ | a
  · go_enter Tryz.func23, Tryz.ntmps23
    go_wp2
    (try simp only [Exit.inBlock, Exit.then])
    refine bodyPost_ret (results_tmp_cell_row rfl _ _ _ 40 _ (0, 0) _ rfl (heap_alloc2_new _ _ _) Tryz.underlying40 rfl (by kernel_rfl)) rfl ?_
    exact ⟨rfl, by ((repeat' (first | exact Below.refl _ _ | refine below_drewN ?_ _ | refine Below.drew ?_ | refine Below.alloc ?_ ?_ _ | refine Below.trans ?_ (Below.mono (by assumption) ?_))); all_goals (first | exact Nat.le_refl _ | exact Below.size (by assumption) | omega | (simp; done) | (simp; omega)))⟩
  · have HW : Hid (decide ((0 : Int) ≤ qc ∧ qc ≤ 7) = false) := by
      show _ = false
      simpa using hq
    clear hq
    go_enter Tryz.func23, Tryz.ntmps23
    go_wp2_with fail
    refine (within_any _ _ _ _).mono ?_
    rintro e w1 ⟨rfl, rfl⟩
    rw [HW.out]
    go_wp2
    (try simp only [Exit.inBlock, Exit.then])
    refine bodyPost_ret (results_tmp_cell_row rfl _ _ _ 40 _ (0, 0) _ rfl (heap_alloc2_new _ _ _) Tryz.underlying40 rfl (by kernel_rfl)) rfl ?_
    exact ⟨rfl, by ((repeat' (first | exact Below.refl _ _ | refine below_drewN ?_ _ | refine Below.drew ?_ | refine Below.alloc ?_ ?_ _ | refine Below.trans ?_ (Below.mono (by assumption) ?_))); all_goals (first | exact Nat.le_refl _ | exact Below.size (by assumption) | omega | (simp; done) | (simp; omega)))⟩
set_option maxRecDepth 100000 in
set_option maxHeartbeats 4000000 in
theorem look_old (lo : Nat) (w : World) (p i : Nat) (f : Nat → Option RpD) (q : RqD) (r : RpD) (ov : Value) (hov : ov.oneCell' = true) (h : IsC lo w p f) (hi : i < 8) (hq : q.client = i) (hf : f i = some r) (hr : r.life < q.life ∨ (r.life = q.life ∧ r.seq < q.seq)) :
    Calls Tryz.prog 23 #[.pointer (some ⟨p, 0, none⟩), rqV q ov] w (NoRp 0 w) := by
  obtain ⟨qc, ql, qs, qk, qi, qw, qn, qo, qops⟩ := q
  have hpl := h.lt
  obtain ⟨cs, h1, h2, h3⟩ := h.ex
  obtain ⟨v, e, hv⟩ := h3 i hi
  rw [hf] at hv
  obtain ⟨rc, rl, rs, re, rn, rx, rt, ⟨od, ok, os⟩⟩ := r
  obtain ⟨dv, kv, rfl, hd, hk⟩ := hv
  obtain ⟨da, dc, rfl⟩ := hd.shape
  obtain ⟨ka, kc, rfl⟩ := hk.shape
  have HD := Lib.hid hd
  have HK := Lib.hid hk
  clear hd hk
  (try simp only [rpV] at *)
  have hta := assR_yes
  have c0 := (blk_cell h2).1.trans e
  (try simp only at hq)
  subst hq
  clear h h3 h2 e
  have hi8 : (i : Int) < 8 := by omega
  have hi0 : (0 : Int) ≤ i := by omega
  have hla : ∀ (o1 o2 o3 : Obj), (((w.alloc o1).alloc o2).alloc o3).drew.cell? ⟨p, i, none⟩ = _ := fun o1 o2 o3 => (World.cell?_alloc_lt _ _ _ (by simp; omega)).trans ((World.cell?_alloc_lt _ _ _ (by simp; omega)).trans ((World.cell?_alloc_lt _ _ _ hpl).trans c0))
  have HW : Hid (decide ((0 : Int) ≤ i ∧ (i : Int) ≤ 7) = true) := by
    show _ = true
    simp; omega
  simp only [rqV]
  (try simp only at hr)
  rcases hr with hr | ⟨rfl, hr⟩
  · go_enter Tryz.func23, Tryz.ntmps23
    go_wp2_with fail
    refine (within_any _ _ _ _).mono ?_
    rintro e w1 ⟨rfl, rfl⟩
    rw [HW.out]
    go_wp2_with fail
    go_region
    all_goals
      go_wp2
      (try simp only [Exit.inBlock, Exit.then])
      refine bodyPost_ret (results_tmp_cell_row rfl _ _ _ 40 _ (0, 0) _ rfl (heap3_mid _ _ _ _) Tryz.underlying40 rfl (by kernel_rfl)) rfl ?_
      exact ⟨rfl, by ((repeat' (first | exact Below.refl _ _ | refine below_drewN ?_ _ | refine Below.drew ?_ | refine Below.alloc ?_ ?_ _ | refine Below.trans ?_ (Below.mono (by assumption) ?_))); all_goals (first | exact Nat.le_refl _ | exact Below.size (by assumption) | omega | (simp; done) | (simp; omega)))⟩
  · go_enter Tryz.func23, Tryz.ntmps23
    go_wp2_with fail
    refine (within_any _ _ _ _).mono ?_
    rintro e w1 ⟨rfl, rfl⟩
    rw [HW.out]
    go_wp2_with fail
    go_region
    all_goals
      go_wp2
      (try simp only [Exit.inBlock, Exit.then])
      refine bodyPost_ret (results_tmp_cell_row rfl _ _ _ 40 _ (0, 0) _ rfl (heap3_mid _ _ _ _) Tryz.underlying40 rfl (by kernel_rfl)) rfl ?_
      exact ⟨rfl, by ((repeat' (first | exact Below.refl _ _ | refine below_drewN ?_ _ | refine Below.drew ?_ | refine Below.alloc ?_ ?_ _ | refine Below.trans ?_ (Below.mono (by assumption) ?_))); all_goals (first | exact Nat.le_refl _ | exact Below.size (by assumption) | omega | (simp; done) | (simp; omega)))⟩
set_option maxRecDepth 100000 in
set_option maxHeartbeats 4000000 in
theorem look_new (lo : Nat) (w : World) (p i : Nat) (f : Nat → Option RpD) (q : RqD) (r : RpD) (ov : Value) (hov : ov.oneCell' = true) (h : IsC lo w p f) (hi : i < 8) (hq : q.client = i) (hf : f i = some r) (hr : q.life < r.life ∨ (r.life = q.life ∧ q.seq < r.seq)) :
    Calls Tryz.prog 23 #[.pointer (some ⟨p, 0, none⟩), rqV q ov] w (NoRp 2 w) := by
  obtain ⟨qc, ql, qs, qk, qi, qw, qn, qo, qops⟩ := q
  have hpl := h.lt
  obtain ⟨cs, h1, h2, h3⟩ := h.ex
  obtain ⟨v, e, hv⟩ := h3 i hi
  rw [hf] at hv
  obtain ⟨rc, rl, rs, re, rn, rx, rt, ⟨od, ok, os⟩⟩ := r
  obtain ⟨dv, kv, rfl, hd, hk⟩ := hv
  obtain ⟨da, dc, rfl⟩ := hd.shape
  obtain ⟨ka, kc, rfl⟩ := hk.shape
  have HD := Lib.hid hd
  have HK := Lib.hid hk
  clear hd hk
  (try simp only [rpV] at *)
  have hta := assR_yes
  have c0 := (blk_cell h2).1.trans e
  (try simp only at hq)
  subst hq
  clear h h3 h2 e
  have hi8 : (i : Int) < 8 := by omega
  have hi0 : (0 : Int) ≤ i := by omega
  have hla : ∀ (o1 o2 o3 : Obj), (((w.alloc o1).alloc o2).alloc o3).drew.cell? ⟨p, i, none⟩ = _ := fun o1 o2 o3 => (World.cell?_alloc_lt _ _ _ (by simp; omega)).trans ((World.cell?_alloc_lt _ _ _ (by simp; omega)).trans ((World.cell?_alloc_lt _ _ _ hpl).trans c0))
  have HW : Hid (decide ((0 : Int) ≤ i ∧ (i : Int) ≤ 7) = true) := by
    show _ = true
    simp; omega
  simp only [rqV]
  (try simp only at hr)
  rcases hr with hr | ⟨rfl, hr⟩
  · have h1 : (rl == ql) = false := by simp; omega
    go_enter Tryz.func23, Tryz.ntmps23
    go_wp2_with fail
    refine (within_any _ _ _ _).mono ?_
    rintro e w1 ⟨rfl, rfl⟩
    rw [HW.out]
    go_wp2_with fail
    go_region
    all_goals
      go_wp2
      (try simp only [Exit.inBlock, Exit.then])
      refine bodyPost_ret (results_tmp_cell_row rfl _ _ _ 40 _ (0, 0) _ rfl (heap3_mid _ _ _ _) Tryz.underlying40 rfl (by kernel_rfl)) rfl ?_
      exact ⟨rfl, by ((repeat' (first | exact Below.refl _ _ | refine below_drewN ?_ _ | refine Below.drew ?_ | refine Below.alloc ?_ ?_ _ | refine Below.trans ?_ (Below.mono (by assumption) ?_))); all_goals (first | exact Nat.le_refl _ | exact Below.size (by assumption) | omega | (simp; done) | (simp; omega)))⟩
  · have h1 : (rs == qs) = false := by simp; omega
    go_enter Tryz.func23, Tryz.ntmps23
    go_wp2_with fail
    refine (within_any _ _ _ _).mono ?_
    rintro e w1 ⟨rfl, rfl⟩
    rw [HW.out]
    go_wp2_with fail
    go_region
    all_goals
      go_wp2
      (try simp only [Exit.inBlock, Exit.then])
      refine bodyPost_ret (results_tmp_cell_row rfl _ _ _ 40 _ (0, 0) _ rfl (heap3_mid _ _ _ _) Tryz.underlying40 rfl (by kernel_rfl)) rfl ?_
      exact ⟨rfl, by ((repeat' (first | exact Below.refl _ _ | refine below_drewN ?_ _ | refine Below.drew ?_ | refine Below.alloc ?_ ?_ _ | refine Below.trans ?_ (Below.mono (by assumption) ?_))); all_goals (first | exact Nat.le_refl _ | exact Below.size (by assumption) | omega | (simp; done) | (simp; omega)))⟩
end Go.Proofs.YtlgefkaafoidmaaGreatDoor
namespace Go.Proofs.YtlgefkaafoidmaaGreatDoor
open Go.RowKit Go.WideShapes

theorem within_yes (n lo hi : Int) (h : lo ≤ n ∧ n ≤ hi) (w : World) : Calls Tryz.prog 54 #[.int .i64 n, .int .i64 lo, .int .i64 hi] w fun e w' => e = .returned (.bool true) ∧ w = w' :=
  (within_any n lo hi w).mono fun e w' ⟨he, hw⟩ => ⟨by rw [he, decide_eq_true h], hw⟩
set_option maxRecDepth 100000 in
theorem ident_yes (c l s : Int) (hc : 0 ≤ c ∧ c ≤ 7) (hl : 0 ≤ l ∧ l ≤ 4294967295) (hs : 0 ≤ s ∧ s ≤ 1099511627776) (w : World) : Calls Tryz.prog 62 #[.int .i64 c, .int .i64 l, .int .i64 s] w fun e w' => e = .returned (.bool true) ∧ w = w' := by
  go_enter Tryz.func62, Tryz.ntmps62
  go_wp2_with fail
  refine (within_yes _ _ _ hc _).mono ?_
  rintro e w1 ⟨rfl, rfl⟩
  go_wp2_with fail
  refine (within_yes _ _ _ hl _).mono ?_
  rintro e w1 ⟨rfl, rfl⟩
  go_wp2_with fail
  refine (within_yes _ _ _ hs _).mono ?_
  rintro e w1 ⟨rfl, rfl⟩
  go_wp2
  go_ret
  exact ⟨rfl, rfl⟩
/-- a request without a transaction, that may be -/
structure PlainQ (q : RqD) : Prop where
  c : 0 ≤ q.client ∧ q.client ≤ 7
  l : 0 ≤ q.life ∧ q.life ≤ 4294967295
  s : 0 ≤ q.seq ∧ q.seq ≤ 1099511627776
  k : 3 ≤ q.kind ∧ q.kind ≤ 11
  i : 0 ≤ q.image ∧ q.image ≤ 3
  w : 0 ≤ q.who ∧ q.who ≤ 7
  n : 0 ≤ q.n ∧ q.n ≤ 1099511627776
  t : q.txn = TxD.none
set_option maxRecDepth 100000 in
set_option maxHeartbeats 1600000 in
theorem mayq_plain (q : RqD) (a : Option Addr) (cap : Nat) (h : PlainQ q) (w : World) : Calls Tryz.prog 30 #[rqV q (.slice a 0 cap)] w fun e w' => e = .returned (.bool true) ∧ Below w.heap.size w w' := by
  obtain ⟨qc, ql, qs, qk, qi, qw, qn, qt⟩ := q
  obtain ⟨hc, hl, hs, hk, hi, hw, hn, ht⟩ := h
  simp only at hc hl hs hk hi hw hn ht
  subst ht
  have h1 : 1 ≤ qk ∧ qk ≤ 11 := by omega
  have e1 : (qk == 1) = false := by simp; omega
  have e2 : (qk == 2) = false := by simp; omega
  simp only [rqV, TxD.none]
  go_enter Tryz.func30, Tryz.ntmps30
  go_wp2_with fail
  refine (ident_yes _ _ _ hc hl hs _).mono ?_
  rintro e w1 ⟨rfl, rfl⟩
  go_wp2_with fail
  refine (within_yes _ _ _ h1 _).mono ?_
  rintro e w1 ⟨rfl, rfl⟩
  go_wp2_with fail
  refine (within_yes _ _ _ hi _).mono ?_
  rintro e w1 ⟨rfl, rfl⟩
  go_wp2_with fail
  refine (within_yes _ _ _ hw _).mono ?_
  rintro e w1 ⟨rfl, rfl⟩
  go_wp2_with fail
  refine (within_yes _ _ _ hn _).mono ?_
  rintro e w1 ⟨rfl, rfl⟩
  clear hc hl hs hi hw hn h1
  go_wp2
  go_ret
  exact ⟨rfl, by ((repeat' (first | exact Below.refl _ _ | refine below_drewN ?_ _ | refine Below.drew ?_ | refine Below.alloc ?_ ?_ _ | refine Below.trans ?_ (Below.mono (by assumption) ?_))); all_goals (first | exact Nat.le_refl _ | exact Below.size (by assumption) | omega | (simp; done) | (simp; omega)))⟩
end Go.Proofs.YtlgefkaafoidmaaGreatDoor
namespace Go.Proofs.YtlgefkaafoidmaaGreatDoor
open Go.RowKit Go.WideShapes

set_option maxRecDepth 100000 in
set_option maxHeartbeats 1600000 in
theorem opn_ok (A : Nat → Prop) (v : Value) (l body : List UInt8) (k : Nat) (w : World) (hx : RB A w v l) (hl : l.length ≤ 100000) (hT : TabW w) (hg0 : 0 < w.heap.size) (hn : nextB l = ⟨k, body, [], 0⟩) (hbl : body.length ≤ 100000) :
    Calls Tryz.prog 25 #[v, .int .i64 k] w fun e w' => ∃ p, e = .returned (.tuple #[.pointer (some ⟨p, 0, none⟩), .int .i64 0]) ∧ IsRd (fun b => w.heap.size ≤ b ∧ b < p) w' p ⟨body, 0⟩ ∧ w.heap.size ≤ p ∧ Below w.heap.size w w' := by
  obtain ⟨xa, xc, rfl⟩ := hx.shape
  have HX := Lib.hid hx
  have HT := Lib.hid hT
  have HN := Lib.hid hn
  have HG := Lib.hid hg0
  clear hx hT hn hg0
  go_enter Tryz.func25, Tryz.ntmps25
  go_wp2_with fail
  refine (next_any _ A l _ HX.out hl HT.out HG.out).mono ?_
  rw [HN.out]
  rintro e w1 ⟨v1, v2, rfl, ho1, ho2, hb1⟩
  obtain ⟨a1, c1, rfl⟩ := ho1.rb.shape
  obtain ⟨a2, c2, rfl⟩ := ho2.rb.shape
  simp only [List.length_nil]
  have HO := Lib.hid ho1
  have HB := Lib.hid hb1
  have hs := hb1.size
  clear ho1 ho2 hb1
  go_wp2_with fail
  refine (read_any _ _ body _ HO.out.rb hbl).mono ?_
  rintro e w2 ⟨p, rfl, hr, hp, hb2⟩
  go_wp2
  go_ret2
  refine ⟨p, rfl, ?_, by omega, HB.out.trans (hb2.mono hs)⟩
  obtain ⟨u, h1, h2⟩ := hr.ex
  exact ⟨⟨u, h1, h2.weak fun b _ h => ⟨by omega, h.2⟩⟩, fun h => by have := h.2; omega⟩
set_option maxRecDepth 100000 in
set_option maxHeartbeats 1600000 in
theorem opn_bad (A : Nat → Prop) (v : Value) (l : List UInt8) (k : Nat) (w : World) (hx : RB A w v l) (hl : l.length ≤ 100000) (hT : TabW w) (hg0 : 0 < w.heap.size) (hn : (nextB l).e ≠ 0) :
    Calls Tryz.prog 25 #[v, .int .i64 k] w fun e w' => e = .returned (.tuple #[.pointer none, .int .i64 ((nextB l).e : Nat)]) ∧ Below w.heap.size w w' := by
  obtain ⟨xa, xc, rfl⟩ := hx.shape
  have HX := Lib.hid hx
  have HT := Lib.hid hT
  have HG := Lib.hid hg0
  have hne : (((nextB l).e : Int) != 0) = true := by simp; omega
  generalize hR : nextB l = R at *
  have HR := Lib.hid hR
  clear hx hT hg0 hR
  go_enter Tryz.func25, Tryz.ntmps25
  go_wp2_with fail
  refine (next_any _ A l _ HX.out hl HT.out HG.out).mono ?_
  rw [HR.out]
  rintro e w1 ⟨v1, v2, rfl, ho1, ho2, hb1⟩
  obtain ⟨a1, c1, rfl⟩ := ho1.rb.shape
  obtain ⟨a2, c2, rfl⟩ := ho2.rb.shape
  have HB := Lib.hid hb1
  clear ho1 ho2 hb1
  go_wp2
  go_ret2
  exact ⟨rfl, HB.out⟩
set_option maxRecDepth 100000 in
set_option maxHeartbeats 1600000 in
theorem opn_long (A : Nat → Prop) (v : Value) (l : List UInt8) (k : Nat) (w : World) (hx : RB A w v l) (hl : l.length ≤ 100000) (hT : TabW w) (hg0 : 0 < w.heap.size) (hn : (nextB l).e = 0) (hr : 0 < (nextB l).rest.length) :
    Calls Tryz.prog 25 #[v, .int .i64 k] w fun e w' => e = .returned (.tuple #[.pointer none, .int .i64 11]) ∧ Below w.heap.size w w' := by
  obtain ⟨xa, xc, rfl⟩ := hx.shape
  have HX := Lib.hid hx
  have HT := Lib.hid hT
  have HG := Lib.hid hg0
  have hr' : (0 : Int) < ((nextB l).rest.length : Nat) := by omega
  clear hx hT hg0
  go_enter Tryz.func25, Tryz.ntmps25
  go_wp2_with fail
  refine (next_any _ A l _ HX.out hl HT.out HG.out).mono ?_
  generalize nextB l = R at *
  obtain ⟨K, B, L, E⟩ := R
  simp only at hn hr hr'
  subst hn
  rintro e w1 ⟨v1, v2, rfl, ho1, ho2, hb1⟩
  obtain ⟨a1, c1, rfl⟩ := ho1.rb.shape
  obtain ⟨a2, c2, rfl⟩ := ho2.rb.shape
  have HB := Lib.hid hb1
  clear ho1 ho2 hb1
  go_wp2
  go_ret2
  exact ⟨rfl, HB.out⟩
end Go.Proofs.YtlgefkaafoidmaaGreatDoor
namespace Go.Proofs.YtlgefkaafoidmaaGreatDoor
open Go.RowKit Go.WideShapes

/-- what UnpackRequest leaves where it refuses -/
def UnqNo (x : Nat) (w : World) (e : Ending) (w' : World) : Prop := e = .returned (.tuple #[rqV RqD.none (.slice none 0 0), .int .i64 (x : Nat)]) ∧ Below w.heap.size w w'
set_option maxRecDepth 100000 in
set_option maxHeartbeats 1600000 in
theorem unq_bad (A : Nat → Prop) (v : Value) (l : List UInt8) (x : Nat) (w : World) (hx : RB A w v l) (hl : l.length ≤ 100000) (hT : TabW w) (hg0 : 0 < w.heap.size)
    (hn : ((nextB l).e = x ∧ x ≠ 0) ∨ ((nextB l).e = 0 ∧ 0 < (nextB l).rest.length ∧ x = 11)) : Calls Tryz.prog 7 #[v] w (UnqNo x w) := by
  obtain ⟨xa, xc, rfl⟩ := hx.shape
  have hb0 : ∀ o, Below w.heap.size w (w.alloc o) := fun o => (Below.refl _ w).alloc (Nat.le_refl _) o
  have hcl : ∀ o, Calls Tryz.prog 25 #[.slice xa l.length xc, .int .i64 (1 : Nat)] (w.alloc o) fun e w' => e = .returned (.tuple #[.pointer none, .int .i64 (x : Nat)]) ∧ Below (w.heap.size + 1) (w.alloc o) w' := fun o => by
    have hx' : RB A (w.alloc o) (.slice xa l.length xc) l := hx.ext (hb0 o)
    rcases hn with ⟨rfl, h0⟩ | ⟨h0, h1, rfl⟩
    · refine (opn_bad A _ l 1 (w.alloc o) hx' hl (tab_below hT (hb0 o) hg0) (by rw [World.size_alloc]; omega) h0).mono ?_
      rintro e w' ⟨rfl, hb⟩
      exact ⟨rfl, by simpa using hb⟩
    · refine (opn_long A _ l 1 (w.alloc o) hx' hl (tab_below hT (hb0 o) hg0) (by rw [World.size_alloc]; omega) h0 h1).mono ?_
      rintro e w' ⟨rfl, hb⟩
      exact ⟨rfl, by simpa using hb⟩
  have hxne : ((x : Int) != 0) = true := by
    rcases hn with ⟨_, h⟩ | ⟨_, _, rfl⟩
    · simp; omega
    · rfl
  have HCL := Lib.hid hcl
  clear hcl hx hT hg0 hn hb0
  go_enter Tryz.func7, Tryz.ntmps7
  go_wp2_with fail
  refine (HCL.out _).mono ?_
  rintro e w1 ⟨rfl, hb1⟩
  have B0 := (hb1.block w.heap.size (by omega)).trans (heap_alloc_new w _)
  have hs1 := hb1.size
  simp only [World.size_alloc] at hs1
  have hlt : w.heap.size < w1.heap.size := by omega
  have hbw : Below w.heap.size w w1 := ((Below.refl _ w).alloc (Nat.le_refl _) _).trans (hb1.mono (by omega))
  clear hb1
  obtain ⟨x0, f0⟩ := blk_cell (i := 0) B0
  obtain ⟨x1, f1⟩ := blk_cell (i := 1) B0
  obtain ⟨x2, f2⟩ := blk_cell (i := 2) B0
  obtain ⟨x3, f3⟩ := blk_cell (i := 3) B0
  obtain ⟨x4, f4⟩ := blk_cell (i := 4) B0
  obtain ⟨x5, f5⟩ := blk_cell (i := 5) B0
  obtain ⟨x6, f6⟩ := blk_cell (i := 6) B0
  obtain ⟨x7, f7⟩ := blk_cell (i := 7) B0
  obtain ⟨x8, f8⟩ := blk_cell (i := 8) B0
  simp at x0 x1 x2 x3 x4 x5 x6 x7 x8
  have HB0 := Lib.hid B0
  clear B0
  go_wp2
  (try simp only [Exit.inBlock, Exit.then])
  refine bodyPost_ret (results_cell_tmp_row rfl _ _ w.heap.size 26 _ (0, 0) _ rfl (set9_blk HB0.out) Tryz.underlying26 rfl (by kernel_rfl)) rfl ?_
  exact ⟨rfl, below9 hbw (Nat.le_refl _)⟩
end Go.Proofs.YtlgefkaafoidmaaGreatDoor
namespace Go.Proofs.YtlgefkaafoidmaaGreatDoor
open Go.RowKit Go.WideShapes
attribute [local go_sem ↓] Go.wp_at_zero Go.wp_at_succ

/-- a request's cells where so many of its numbers have been read -/
def qcells (ns : List Nat) (k : Nat) : Array Value := ((ns.take k).map (fun n : Nat => Value.int .i64 n) ++ List.replicate (7 - k) (Value.int .i64 0) ++ [Value.string ByteArray.empty, Value.slice none 0 0]).toArray
theorem qcells_step (ns : List Nat) (k : Nat) (hn : ns.length = 7) (hk : k < 7) : (qcells ns k).setIfInBounds k (.int .i64 (ns[k]'(by omega) : Nat)) = qcells ns (k + 1) := by
  match ns, hn with
  | [a, b, c, d, e, f, g], _ =>
    obtain rfl | rfl | rfl | rfl | rfl | rfl | rfl : k = 0 ∨ k = 1 ∨ k = 2 ∨ k = 3 ∨ k = 4 ∨ k = 5 ∨ k = 6 := by omega
    all_goals rfl
theorem qcells_at (ns : List Nat) (k : Nat) (hn : ns.length = 7) (hk : k < 7) : (qcells ns k)[k]? = some (.int .i64 0) := by
  match ns, hn with
  | [a, b, c, d, e, f, g], _ =>
    obtain rfl | rfl | rfl | rfl | rfl | rfl | rfl : k = 0 ∨ k = 1 ∨ k = 2 ∨ k = 3 ∨ k = 4 ∨ k = 5 ∨ k = 6 := by omega
    all_goals rfl
def fcells (q : Nat) : Array Value := #[.pointer (some ⟨q, 0, none⟩), .int .i64 1, .pointer (some ⟨q, 1, none⟩), .int .i64 4, .pointer (some ⟨q, 2, none⟩), .int .i64 6, .pointer (some ⟨q, 3, none⟩), .int .i64 1, .pointer (some ⟨q, 4, none⟩), .int .i64 1, .pointer (some ⟨q, 5, none⟩), .int .i64 1, .pointer (some ⟨q, 6, none⟩), .int .i64 6]
theorem fcells_at (q k : Nat) (hk : k < 7) : (fcells q)[k * 2]? = some (.pointer (some ⟨q, k, none⟩)) ∧ (fcells q)[k * 2 + 1]? = some (.int .i64 (wsQ[k]'(by simpa [wsQ] using hk) : Nat)) := by
  obtain rfl | rfl | rfl | rfl | rfl | rfl | rfl : k = 0 ∨ k = 1 ∨ k = 2 ∨ k = 3 ∨ k = 4 ∨ k = 5 ∨ k = 6 := by omega
  all_goals exact ⟨rfl, rfl⟩
theorem wsQ_b (k : Nat) (hk : k < wsQ.length) : 1 ≤ wsQ[k] ∧ wsQ[k] ≤ 7 := by
  have : k < 7 := hk
  obtain rfl | rfl | rfl | rfl | rfl | rfl | rfl : k = 0 ∨ k = 1 ∨ k = 2 ∨ k = 3 ∨ k = 4 ∨ k = 5 ∨ k = 6 := by omega
  all_goals simp [wsQ]
theorem rdNums_prefix (ws : List Nat) (r : Rd) (k : Nat) : (rdNums (ws.take k) r).1 = (rdNums ws r).1.take k := by
  have h : ∀ (ws : List Nat) (s : List Nat × Rd) (k : Nat), ((ws.take k).foldl rdStep s).1 = (ws.foldl rdStep s).1.take (s.1.length + k) := by
    intro ws
    induction ws with
    | nil =>
      intro s k
      simp [List.take_of_length_le]
    | cons w ws ih =>
      intro s k
      cases k with
      | zero =>
        have hp : ∀ (ws : List Nat) (s : List Nat × Rd), (ws.foldl rdStep s).1.take s.1.length = s.1 := by
          intro ws
          induction ws with
          | nil => intro s; simp
          | cons w ws ih =>
            intro s
            rw [List.foldl_cons]
            have := ih (rdStep s w)
            have h2 := congrArg (List.take s.1.length) this
            rw [List.take_take] at h2
            have e : min s.1.length (rdStep s w).1.length = s.1.length := by simp [rdStep]
            rw [e] at h2
            rw [h2]
            simp [rdStep]
        simpa using (hp (w :: ws) s).symm
      | succ k =>
        rw [List.take_succ_cons, List.foldl_cons, List.foldl_cons, ih]
        congr 1
        simp [rdStep]
        omega
  simpa [rdNums] using h ws ([], r) k
theorem last_is {P ns : List Nat} {x k : Nat} (hP : P.length = k) (hk : k < ns.length) (h : P ++ [x] = ns.take (k + 1)) : x = ns[k] := by
  have h1 := congrArg (fun l => l[k]?) h
  rw [List.getElem?_append_right (by omega), hP] at h1
  simp [hk] at h1
  exact h1
end Go.Proofs.YtlgefkaafoidmaaGreatDoor
