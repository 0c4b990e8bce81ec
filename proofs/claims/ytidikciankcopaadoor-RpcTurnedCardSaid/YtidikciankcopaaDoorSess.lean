/- The walks of rpc's sessions. -/
import Derived.Test.YtidikciankcopaaDoorOwn
import Derived.Laws.ResultCell
namespace Go.Proofs.YtidikciankcopaaDoor
open Go.RowKit Go.WideShapes

/-- a session behind a pointer: what it waits for lies in a block of its own; lo: the blocks that it may lead to -/
structure IsS (lo : Nat → Prop) (w : World) (p : Nat) (c l last at_ : Int) (wait : Option RqD) : Prop where
  mk ::
  ex : ∃ wp : Option Addr, w.heap[p]? = some (.cells #[.int .i64 c, .int .i64 l, .int .i64 last, .int .i64 at_, .pointer wp] 74 (0, 0)) ∧
    match wait with
    | none => wp = none
    | some q => ∃ x ov, wp = some ⟨x, 0, none⟩ ∧ x ≠ p ∧ lo x ∧ w.heap[x]? = some (.cells (rqC q ov) 30 (0, 0)) ∧ SlE Enc.op lo w ov q.txn.ops
  lo : ¬ lo p
theorem IsS.lt {lo : Nat → Prop} {w : World} {p : Nat} {c l last at_ : Int} {wait : Option RqD} (h : IsS lo w p c l last at_ wait) : p < w.heap.size := by
  obtain ⟨v, hb, _⟩ := h.ex
  exact (Array.getElem?_eq_some_iff.1 hb).1
theorem IsS.ext {lo : Nat → Prop} {w w' : World} {p : Nat} {c l last at_ : Int} {wait : Option RqD} (h : IsS lo w p c l last at_ wait) (hb : Below w.heap.size w w') : IsS lo w' p c l last at_ wait := by
  obtain ⟨wp, h1, h2⟩ := h.ex
  refine ⟨⟨wp, (hb.block _ h.lt).trans h1, ?_⟩, h.lo⟩
  cases wait with
  | none => exact h2
  | some q =>
    obtain ⟨x, ov, e, hx, hlx, hb2, hs⟩ := h2
    exact ⟨x, ov, e, hx, hlx, (hb.block _ (Array.getElem?_eq_some_iff.1 hb2).1).trans hb2, hs.ext hb⟩
theorem IsS.same {lo : Nat → Prop} {w w' : World} {p : Nat} {c l last at_ : Int} {wait : Option RqD} (h : IsS lo w p c l last at_ wait) (hs : Same (fun b => lo b ∨ b = p) w w') : IsS lo w' p c l last at_ wait := by
  obtain ⟨wp, h1, h2⟩ := h.ex
  refine ⟨⟨wp, (hs.block _ (.inr rfl) h.lt).trans h1, ?_⟩, h.lo⟩
  cases wait with
  | none => exact h2
  | some q =>
    obtain ⟨x, ov, e, hx, hlx, hb2, hk⟩ := h2
    exact ⟨x, ov, e, hx, hlx, (hs.block _ (.inl hlx) (Array.getElem?_eq_some_iff.1 hb2).1).trans hb2, hk.mono (hs.weak fun b hb => .inl hb)⟩
theorem results_cell_tmp_row {P : Program} {fn : Func} {p u : Tmp} {ty : TypeId} (h : fn.results = #[.cell p ty, .tmp u]) (tmps : Array Value) (w : World) (g : Nat) (t : TypeId) (cs : Array Value) (fr : Nat × Nat) (d : TypeDesc)
    (hp : tmps.getD p undef = .pointer (some ⟨g, 0, none⟩)) (hg : w.heap[g]? = some (.cells cs t fr))
    (hu : P.underlying ty = some d) (hd : (match d with | .struct _ | .array _ _ => true | _ => false) = true) (hi : (P.info? ty).map (·.size) = some cs.size) :
    (results fn tmps).run P w = .ok (.tuple #[.agg cs, tmps.getD u undef]) w := by
  have hp' : tmps[p]?.getD undef = .pointer (some ⟨g, 0, none⟩) := by simpa using hp
  rw [results_cell_tmp h]
  simp [hp', asAddr, run_loadVar_row w g t ty cs fr d hg hu hd hi, Result.andThen]
set_option maxRecDepth 100000 in
theorem open_any (lo : Nat → Prop) (c l : Int) (w : World) (hlo : ¬ lo w.heap.size) : Calls Tryd.prog 9 #[.int .i64 c, .int .i64 l] w fun e w' => e = .returned (.pointer (some ⟨w.heap.size, 0, none⟩)) ∧ IsS lo w' w.heap.size c l 0 0 none ∧ Below w.heap.size w w' := by
  go_enter Tryd.func9, Tryd.ntmps9
  go_wp2
  go_ret
  refine ⟨rfl, ⟨⟨none, ?_, rfl⟩, hlo⟩, by ((repeat' (first | exact Below.refl _ _ | refine below_drewN ?_ _ | refine Below.drew ?_ | refine Below.alloc ?_ ?_ _ | refine Below.trans ?_ (Below.mono (by assumption) ?_))); all_goals (first | exact Nat.le_refl _ | exact Below.size (by assumption) | omega | (simp; done) | (simp; omega)))⟩
  exact heap_alloc_new _ _
set_option maxRecDepth 100000 in
theorem busy_any (lo : Nat → Prop) (w : World) (p : Nat) (c l last at_ : Int) (wait : Option RqD) (h : IsS lo w p c l last at_ wait) : Calls Tryd.prog 18 #[.pointer (some ⟨p, 0, none⟩)] w fun e w' => e = .returned (.bool wait.isSome) ∧ w = w' := by
  obtain ⟨wp, h1, h2⟩ := h.ex
  obtain ⟨c4, f4⟩ := blk_cell (i := 4) h1
  simp at c4
  clear h1 h
  cases wait with
  | none =>
    subst h2
    go_enter Tryd.func18, Tryd.ntmps18
    go_wp2
    go_ret
    exact ⟨rfl, rfl⟩
  | some q =>
    obtain ⟨x, ov, rfl, -⟩ := h2
    go_enter Tryd.func18, Tryd.ntmps18
    go_wp2
    go_ret
    exact ⟨rfl, rfl⟩
set_option maxRecDepth 100000 in
set_option maxHeartbeats 4000000 in
theorem ask_idle (A : Nat → Prop) (lo : Nat → Prop) (w : World) (p : Nat) (c l at_ now : Int) (last : Nat) (v : Value) (q : RqD) (h : IsS lo w p c l last at_ none) (hlast : last ≤ 1000) (hv : RqV A w v q) (ho : q.okl) (hA : ¬ A p) (hLo : ∀ b, w.heap.size ≤ b → lo b) :
    Calls Tryd.prog 11 #[.pointer (some ⟨p, 0, none⟩), v, .int .i64 now] w fun e w' => ∃ v', e = .returned (.tuple #[v', .bool true]) ∧ RqV (fun b => w.heap.size ≤ b) w' v' { q with client := c, life := l, seq := (last + 1 : Nat) } ∧
      IsS lo w' p c l (last + 1 : Nat) now (some { q with client := c, life := l, seq := (last + 1 : Nat) }) ∧ Fr (fun k => k = p) w w' := by
  obtain ⟨wp, h1, h2⟩ := h.ex
  obtain rfl : wp = none := h2
  have hlo := h.lo
  have hpl := h.lt
  obtain ⟨c0, f0⟩ := blk_cell (i := 0) h1
  obtain ⟨c1, f1⟩ := blk_cell (i := 1) h1
  obtain ⟨c2, f2⟩ := blk_cell (i := 2) h1
  obtain ⟨c3, f3⟩ := blk_cell (i := 3) h1
  obtain ⟨c4, f4⟩ := blk_cell (i := 4) h1
  simp at c0 c1 c2 c3 c4
  obtain ⟨ov, rfl, hk⟩ := hv
  obtain ⟨oa, oc, rfl⟩ := hk.shape
  have HK := Lib.hid hk
  have HO := Lib.hid ho
  have HB := Lib.hid h1
  have HLo := Lib.hid hLo
  clear h h1 hk ho hLo
  obtain ⟨qc, ql, qs, qk, qi, qw, qn, qo, qops⟩ := q
  simp only [rqV] at *
  go_enter Tryd.func11, Tryd.ntmps11
  go_wp2_with fail
  refine (own_any (fun b => A b ∧ b < w.heap.size) _ ⟨qc, ql, qs, qk, qi, qw, qn, qo, qops⟩ _ ⟨_, rfl, (SlE.cut HK.out).mono (Same.alloc (Same.alloc (Same.setCell (a := ⟨p, 2, none⟩) (Same.refl _ _) (fun h => hA h.1) _) _) _)⟩ HO.out).mono ?_
  rintro e w1 ⟨v1, rfl, hr1, hb1⟩
  obtain ⟨ov1, rfl, hk1⟩ := hr1
  obtain ⟨oa1, oc1, rfl⟩ := hk1.shape
  have hsz : (w.setCell ⟨p, 2, none⟩ (.int .i64 ((last : Int) + 1))).heap.size = w.heap.size := by simp [World.setCell]
  simp only [World.size_alloc, hsz] at hb1 hk1
  have hs1 := hb1.size
  simp only [World.size_alloc, hsz] at hs1
  have P1 : w1.heap[p]? = some (.cells #[.int .i64 c, .int .i64 l, .int .i64 ((last : Int) + 1), .int .i64 at_, .pointer none] 74 (0, 0)) := by
    rw [hb1.block p (by omega), Below.heap_alloc _ _ _ (by simp [hsz]; omega), Below.heap_alloc _ _ _ (by simp [hsz]; omega)]
    exact set_blk3 (j := 2) HB.out
  have Q1 : w1.heap[w.heap.size]? = some (.cells (rqC ⟨qc, ql, qs, qk, qi, qw, qn, qo, qops⟩ (.slice oa qops.length oc)) 30 (0, 0)) := by
    rw [hb1.block _ (by omega), Below.heap_alloc _ _ _ (by simp [hsz])]
    have := heap_alloc_new (w.setCell ⟨p, 2, none⟩ (.int .i64 ((last : Int) + 1))) (.cells (rqC ⟨qc, ql, qs, qk, qi, qw, qn, qo, qops⟩ (.slice oa qops.length oc)) 30)
    rwa [hsz] at this
  have R1 : w1.heap[w.heap.size + 1]? = some (.cells rq0 30 (0, 0)) := by
    rw [hb1.block _ (by omega)]
    have := heap_alloc2_new (w.setCell ⟨p, 2, none⟩ (.int .i64 ((last : Int) + 1))) (.cells (rqC ⟨qc, ql, qs, qk, qi, qw, qn, qo, qops⟩ (.slice oa qops.length oc)) 30) (.cells rq0 30)
    rwa [hsz] at this
  have K1 := Lib.hid hk1
  have hf1 : Fr (fun k => k = p) w w1 := by
    refine (Fr.alloc (Fr.alloc (Fr.setCell (S := fun k => k = p) (a := ⟨p, 2, none⟩) (Fr.refl _ w) (fun _ => rfl) (.int .i64 ((last : Int) + 1))) _) _).trans (Fr.ext (S := fun k => k = p) (hb1.mono (by simp [hsz]))) fun _ _ h => h
  have HF1 := Lib.hid hf1
  clear hb1 hk1 hf1 c0 c1 c2 c3 c4 f0 f1 f2 f3 f4
  obtain ⟨x0, f0⟩ := blk_cell (i := 0) P1
  obtain ⟨x1, f1⟩ := blk_cell (i := 1) P1
  obtain ⟨x2, f2⟩ := blk_cell (i := 2) P1
  obtain ⟨x3, f3⟩ := blk_cell (i := 3) P1
  obtain ⟨x4, f4⟩ := blk_cell (i := 4) P1
  obtain ⟨y0, g0⟩ := blk_cell (i := 0) Q1
  obtain ⟨y1, g1⟩ := blk_cell (i := 1) Q1
  obtain ⟨y2, g2⟩ := blk_cell (i := 2) Q1
  obtain ⟨y3, g3⟩ := blk_cell (i := 3) Q1
  obtain ⟨y4, g4⟩ := blk_cell (i := 4) Q1
  obtain ⟨y5, g5⟩ := blk_cell (i := 5) Q1
  obtain ⟨y6, g6⟩ := blk_cell (i := 6) Q1
  obtain ⟨y7, g7⟩ := blk_cell (i := 7) Q1
  obtain ⟨y8, g8⟩ := blk_cell (i := 8) Q1
  simp [rqC] at x0 x1 x2 x3 x4 y0 y1 y2 y3 y4 y5 y6 y7 y8
  have HP := Lib.hid P1
  have HQ := Lib.hid Q1
  have HR := Lib.hid R1
  clear P1 Q1 R1
  simp only [rqV]
  go_wp2_with fail
  obtain ⟨w3, hw3⟩ : ∃ w3, w3 = (((((((((w1.setCell ⟨w.heap.size, 0, none⟩ (.int .i64 qc)).setCell ⟨w.heap.size, 1, none⟩ (.int .i64 ql)).setCell ⟨w.heap.size, 2, none⟩ (.int .i64 qs)).setCell ⟨w.heap.size, 3, none⟩ (.int .i64 qk)).setCell ⟨w.heap.size, 4, none⟩ (.int .i64 qi)).setCell ⟨w.heap.size, 5, none⟩ (.int .i64 qw)).setCell ⟨w.heap.size, 6, none⟩ (.int .i64 qn)).setCell ⟨w.heap.size, 7, none⟩ (.string qo)).setCell ⟨w.heap.size, 8, none⟩ (.slice oa1 qops.length oc1)) := ⟨_, rfl⟩
  rw [← hw3]
  have P3 : w3.heap[p]? = some (.cells #[.int .i64 c, .int .i64 l, .int .i64 ((last : Int) + 1), .int .i64 at_, .pointer none] 74 (0, 0)) := by
    rw [hw3]
    exact ((same9 (A := fun b => b = p) (fun h => by have h : w.heap.size = p := h; omega)).block p rfl (Array.getElem?_eq_some_iff.1 HP.out).1).trans HP.out
  have Q3 : w3.heap[w.heap.size]? = some (.cells (rqC ⟨qc, ql, qs, qk, qi, qw, qn, qo, qops⟩ (.slice oa1 qops.length oc1)) 30 (0, 0)) := by
    rw [hw3]
    exact set9_blk HQ.out
  have R3 : w3.heap[w.heap.size + 1]? = some (.cells rq0 30 (0, 0)) := by
    rw [hw3]
    exact ((same9 (A := fun b => b = w.heap.size + 1) (fun h => by have h : w.heap.size = w.heap.size + 1 := h; omega)).block _ rfl (Array.getElem?_eq_some_iff.1 HR.out).1).trans HR.out
  have hs3 : w1.heap.size = w3.heap.size := by
    rw [hw3]
    simp [World.setCell]
  have hk3 : SlE Enc.op (fun b => w.heap.size + 2 ≤ b) w3 (.slice oa1 qops.length oc1) qops := by
    rw [hw3]
    exact K1.out.mono (same9 (fun h => by have h : w.heap.size + 2 ≤ w.heap.size := h; omega))
  have hf3 : Fr (fun k => k = p) w w3 := by
    rw [hw3]
    refine HF1.out.trans (Fr.of_below (below9 (Below.refl w.heap.size w1) (Nat.le_refl _))) fun i hi h => by omega
  have K3 := Lib.hid hk3
  have HF3 := Lib.hid hf3
  clear hw3 hk3 hf3 K1 HF1 HP HQ HR x0 f0 x1 f1 x2 f2 x3 f3 x4 f4 y0 g0 y1 g1 y2 g2 y3 g3 y4 g4 y5 g5 y6 g6 y7 g7 y8 g8
  obtain ⟨x0, f0⟩ := blk_cell (i := 0) P3
  obtain ⟨x1, f1⟩ := blk_cell (i := 1) P3
  obtain ⟨x2, f2⟩ := blk_cell (i := 2) P3
  obtain ⟨x3, f3⟩ := blk_cell (i := 3) P3
  obtain ⟨x4, f4⟩ := blk_cell (i := 4) P3
  obtain ⟨y0, g0⟩ := blk_cell (i := 0) Q3
  obtain ⟨y1, g1⟩ := blk_cell (i := 1) Q3
  obtain ⟨y2, g2⟩ := blk_cell (i := 2) Q3
  obtain ⟨y3, g3⟩ := blk_cell (i := 3) Q3
  obtain ⟨y4, g4⟩ := blk_cell (i := 4) Q3
  obtain ⟨y5, g5⟩ := blk_cell (i := 5) Q3
  obtain ⟨y6, g6⟩ := blk_cell (i := 6) Q3
  obtain ⟨y7, g7⟩ := blk_cell (i := 7) Q3
  obtain ⟨y8, g8⟩ := blk_cell (i := 8) Q3
  simp [rqC] at x0 x1 x2 x3 x4 y0 y1 y2 y3 y4 y5 y6 y7 y8
  have HP := Lib.hid P3
  have HQ := Lib.hid Q3
  have HR := Lib.hid R3
  clear P3 Q3 R3
  go_region
  go_wp2_with fail
  obtain ⟨w5, hw5⟩ : ∃ w5, w5 = (((((w3.setCell ⟨w.heap.size, 0, none⟩ (.int .i64 c)).setCell ⟨w.heap.size, 1, none⟩ (.int .i64 l)).setCell ⟨w.heap.size, 2, none⟩ (.int .i64 ((last : Int) + 1))).setCell ⟨p, 4, none⟩ (.pointer (some ⟨w.heap.size, 0, none⟩))).setCell ⟨p, 3, none⟩ (.int .i64 now)) := ⟨_, rfl⟩
  rw [← hw5]
  have hne : p ≠ w.heap.size := by omega
  have P5 : w5.heap[p]? = some (.cells #[.int .i64 c, .int .i64 l, .int .i64 ((last : Int) + 1), .int .i64 now, .pointer (some ⟨w.heap.size, 0, none⟩)] 74 (0, 0)) := by
    rw [hw5]
    exact set_blk3 (j := 3) (set_blk3 (j := 4) ((Below.heap_setCell _ _ _ _ hne).trans ((Below.heap_setCell _ _ _ _ hne).trans ((Below.heap_setCell _ _ _ _ hne).trans HP.out))))
  have Q5 : w5.heap[w.heap.size]? = some (.cells (rqC ⟨c, l, (last : Int) + 1, qk, qi, qw, qn, qo, qops⟩ (.slice oa1 qops.length oc1)) 30 (0, 0)) := by
    rw [hw5]
    exact (Below.heap_setCell _ _ _ _ (Ne.symm hne)).trans ((Below.heap_setCell _ _ _ _ (Ne.symm hne)).trans (set_blk3 (j := 2) (set_blk3 (j := 1) (set_blk3 (j := 0) HQ.out))))
  have hsm5 : ∀ A' : Nat → Prop, ¬ A' p → ¬ A' w.heap.size → Same A' w3 w5 := fun A' h1 h2 => by
    rw [hw5]
    exact Same.setCell (a := ⟨p, 3, none⟩) (Same.setCell (a := ⟨p, 4, none⟩) (Same.setCell (a := ⟨w.heap.size, 2, none⟩) (Same.setCell (a := ⟨w.heap.size, 1, none⟩) (Same.setCell (a := ⟨w.heap.size, 0, none⟩) (Same.refl _ _) h2 _) h2 _) h2 _) h1 _) h1 _
  have R5 : w5.heap[w.heap.size + 1]? = some (.cells rq0 30 (0, 0)) :=
    ((hsm5 (fun b => b = w.heap.size + 1) (fun h => by have h : p = _ := h; omega) (fun h => by have h : w.heap.size = w.heap.size + 1 := h; omega)).block _ rfl (Array.getElem?_eq_some_iff.1 HR.out).1).trans HR.out
  have hs5 : w3.heap.size = w5.heap.size := by
    rw [hw5]
    simp [World.setCell]
  have hk5 : SlE Enc.op (fun b => w.heap.size + 2 ≤ b) w5 (.slice oa1 qops.length oc1) qops := K3.out.mono (hsm5 _ (fun h => by have h : w.heap.size + 2 ≤ p := h; omega) (fun h => by have h : w.heap.size + 2 ≤ w.heap.size := h; omega))
  have hf5 : Fr (fun k => k = p) w w5 := by
    rw [hw5]
    have f1 : Fr (fun k => k = p) w (((w3.setCell ⟨w.heap.size, 0, none⟩ (.int .i64 c)).setCell ⟨w.heap.size, 1, none⟩ (.int .i64 l)).setCell ⟨w.heap.size, 2, none⟩ (.int .i64 ((last : Int) + 1))) :=
      HF3.out.trans (Fr.of_below ((((Below.refl w.heap.size w3).setCell (p := ⟨w.heap.size, 0, none⟩) (Nat.le_refl _) _).setCell (p := ⟨w.heap.size, 1, none⟩) (Nat.le_refl _) _).setCell (p := ⟨w.heap.size, 2, none⟩) (Nat.le_refl _) _)) fun i hi h => by omega
    exact Fr.setCell (a := ⟨p, 3, none⟩) (Fr.setCell (a := ⟨p, 4, none⟩) f1 (fun _ => rfl) _) (fun _ => rfl) _
  have K5 := Lib.hid hk5
  have HF5 := Lib.hid hf5
  clear hw5 hk5 hf5 hsm5 K3 HF3 HP HQ HR x0 f0 x1 f1 x2 f2 x3 f3 x4 f4 y0 g0 y1 g1 y2 g2 y3 g3 y4 g4 y5 g5 y6 g6 y7 g7 y8 g8
  have HP := Lib.hid P5
  have HQ := Lib.hid Q5
  have HR := Lib.hid R5
  clear P5 Q5 R5
  refine (own_any (fun b => w.heap.size + 2 ≤ b) (rqV ⟨c, l, (last : Int) + 1, qk, qi, qw, qn, qo, qops⟩ (.slice oa1 qops.length oc1)) ⟨c, l, (last : Int) + 1, qk, qi, qw, qn, qo, qops⟩ w5.drew ⟨_, rfl, K5.out.mono (Same.drew (Same.refl _ _))⟩ ⟨HO.out.ops, HO.out.vals⟩).mono ?_
  rintro e w6 ⟨v6, rfl, hr6, hb6⟩
  obtain ⟨ov6, rfl, hk6⟩ := hr6
  obtain ⟨oa6, oc6, rfl⟩ := hk6.shape
  replace hb6 : Below w5.heap.size w5 w6 := ((Below.refl _ w5).drew).trans hb6
  replace hk6 : SlE Enc.op (fun b => w5.heap.size ≤ b) w6 (.slice oa6 qops.length oc6) qops := hk6
  have P6 := (hb6.block p (by omega)).trans HP.out
  have Q6 := (hb6.block w.heap.size (by omega)).trans HQ.out
  have R6 := (hb6.block (w.heap.size + 1) (by omega)).trans HR.out
  obtain ⟨x0, f0⟩ := blk_cell (i := 0) R6
  obtain ⟨x1, f1⟩ := blk_cell (i := 1) R6
  obtain ⟨x2, f2⟩ := blk_cell (i := 2) R6
  obtain ⟨x3, f3⟩ := blk_cell (i := 3) R6
  obtain ⟨x4, f4⟩ := blk_cell (i := 4) R6
  obtain ⟨x5, f5⟩ := blk_cell (i := 5) R6
  obtain ⟨x6, f6⟩ := blk_cell (i := 6) R6
  obtain ⟨x7, f7⟩ := blk_cell (i := 7) R6
  obtain ⟨x8, f8⟩ := blk_cell (i := 8) R6
  simp [rq0] at x0 x1 x2 x3 x4 x5 x6 x7 x8
  have HP6 := Lib.hid P6
  have HQ6 := Lib.hid Q6
  have HR6 := Lib.hid R6
  have K6 := Lib.hid hk6
  have HB6 := Lib.hid hb6
  clear P6 Q6 R6 hk6 hb6 HP HQ HR
  simp only [rqV]
  go_wp2
  refine bodyPost_ret (results_cell_tmp_row rfl _ _ (w.heap.size + 1) 30 _ (0, 0) _ rfl (set9_blk HR6.out) Tryd.underlying30 rfl (by kernel_rfl)) rfl ?_
  have hs6 := HB6.out.size
  refine ⟨_, rfl, ⟨_, rfl, ?_⟩, ⟨⟨_, ?_, w.heap.size, .slice oa1 qops.length oc1, rfl, by omega, HLo.out _ (Nat.le_refl _), ?_, ?_⟩, hlo⟩, ?_⟩
  · exact (K6.out.mono (same9 (fun h => by have h : w5.heap.size ≤ w.heap.size + 1 := h; omega))).weak fun b _ h => by omega
  · exact ((same9 (A := fun b => b = p) (fun h => by have h : w.heap.size + 1 = p := h; omega)).block p rfl (Array.getElem?_eq_some_iff.1 HP6.out).1).trans HP6.out
  · exact ((same9 (A := fun b => b = w.heap.size) (fun h => by have h : w.heap.size + 1 = w.heap.size := h; omega)).block _ rfl (Array.getElem?_eq_some_iff.1 HQ6.out).1).trans HQ6.out
  · exact ((K5.out.ext HB6.out).mono (same9 (fun h => by have h : w.heap.size + 2 ≤ w.heap.size + 1 := h; omega))).weak fun b _ h => HLo.out b (by omega)
  · refine (HF5.out.trans (Fr.ext HB6.out) fun _ _ h => h).trans (Fr.of_below (below9 (Below.refl w.heap.size w6) (by omega))) fun i hi h => by omega
end Go.Proofs.YtidikciankcopaaDoor
