/- The walks of rpc's sessions: Due, Hear, and what refuses. -/
import Derived.Test.YtidikciankcopaaDoorSess
import Derived.BigQuiet
namespace Go.Proofs.YtidikciankcopaaDoor
open Go.RowKit Go.WideShapes

/-- a reply as a value -/
def rpV (p : RpD) (dv kv : Value) : Value := .agg #[.int .i64 p.client, .int .i64 p.life, .int .i64 p.seq, .int .i64 p.e, .int .i64 p.n, .int .i64 p.index, .bool p.there, dv, kv, .int .i64 p.obj.seq]
def RpV (A : Nat → Prop) (w : World) (v : Value) (p : RpD) : Prop := ∃ dv kv, v = rpV p dv kv ∧ RB A w dv p.obj.data ∧ SlE Enc.key A w kv p.obj.keys
/-- what a method that refuses leaves -/
def NoRq (w : World) (e : Ending) (w' : World) : Prop := e = .returned (.tuple #[rqV RqD.none (.slice none 0 0), .bool false]) ∧ Below w.heap.size w w'
theorem same9b {w : World} {p : Nat} {a' b' c' d' e' f' g' h' i' : Value} {B : Nat} (h : B ≤ p) :
    Below B w (((((((((w.setCell ⟨p, 0, none⟩ a').setCell ⟨p, 1, none⟩ b').setCell ⟨p, 2, none⟩ c').setCell ⟨p, 3, none⟩ d').setCell ⟨p, 4, none⟩ e').setCell ⟨p, 5, none⟩ f').setCell ⟨p, 6, none⟩ g').setCell ⟨p, 7, none⟩ h').setCell ⟨p, 8, none⟩ i') := below9 (Below.refl _ _) h
set_option maxRecDepth 100000 in
set_option maxHeartbeats 1600000 in
theorem ask_nil (w : World) (q : RqD) (ov : Value) (hov : ov.oneCell' = true) (now : Int) : Calls Tryd.prog 11 #[.pointer none, rqV q ov, .int .i64 now] w (NoRq w) := by
  obtain ⟨qc, ql, qs, qk, qi, qw, qn, qo, qops⟩ := q
  simp only [rqV]
  go_enter Tryd.func11, Tryd.ntmps11
  go_wp2
  (try simp only [Exit.inBlock, Exit.then])
  refine bodyPost_ret (results_cell_tmp_row rfl _ _ (w.heap.size + 1) 30 _ (0, 0) _ rfl (heap_alloc2_new _ _ _) Tryd.underlying30 rfl (by kernel_rfl)) rfl ?_
  exact ⟨rfl, ((Below.refl _ w).alloc (Nat.le_refl _) _).alloc (by simp) _⟩
set_option maxRecDepth 100000 in
set_option maxHeartbeats 1600000 in
theorem due_nil (w : World) (now : Int) : Calls Tryd.prog 14 #[.pointer none, .int .i64 now] w (NoRq w) := by
  go_enter Tryd.func14, Tryd.ntmps14
  go_wp2
  (try simp only [Exit.inBlock, Exit.then])
  refine bodyPost_ret (results_cell_tmp_row rfl _ _ w.heap.size 30 _ (0, 0) _ rfl (heap_alloc_new _ _) Tryd.underlying30 rfl (by kernel_rfl)) rfl ?_
  exact ⟨rfl, (Below.refl _ w).alloc (Nat.le_refl _) _⟩
set_option maxRecDepth 100000 in
set_option maxHeartbeats 1600000 in
theorem hear_nil (w : World) (p : RpD) (dv kv : Value) : Calls Tryd.prog 16 #[.pointer none, rpV p dv kv] w fun e w' => e = .returned (.bool false) ∧ Below w.heap.size w w' := by
  obtain ⟨pc, pl, ps, pe, pn, px, pt, ⟨od, ok, os⟩⟩ := p
  simp only [rpV]
  go_enter Tryd.func16, Tryd.ntmps16
  go_wp2
  go_quiet (fail)
  go_wp2
  go_ret
  exact ⟨rfl, by ((repeat' (first | exact Below.refl _ _ | refine below_drewN ?_ _ | refine Below.drew ?_ | refine Below.alloc ?_ ?_ _ | refine Below.trans ?_ (Below.mono (by assumption) ?_))); all_goals (first | exact Nat.le_refl _ | exact Below.size (by assumption) | omega | (simp; done) | (simp; omega)))⟩
set_option maxRecDepth 100000 in
theorem busy_nil (w : World) : Calls Tryd.prog 18 #[.pointer none] w fun e w' => e = .returned (.bool false) ∧ w = w' := by
  go_enter Tryd.func18, Tryd.ntmps18
  go_wp2
  go_ret
  exact ⟨rfl, rfl⟩
set_option maxRecDepth 100000 in
set_option maxHeartbeats 1600000 in
theorem ask_busy (lo : Nat → Prop) (w : World) (p : Nat) (c l last at_ now : Int) (q0 : RqD) (q : RqD) (ov : Value) (h : IsS lo w p c l last at_ (some q0)) : Calls Tryd.prog 11 #[.pointer (some ⟨p, 0, none⟩), rqV q ov, .int .i64 now] w (NoRq w) := by
  have hpl := h.lt
  obtain ⟨wp, h1, h2⟩ := h.ex
  obtain ⟨x, ov0, rfl, -⟩ := h2
  obtain ⟨c4, f4⟩ := blk_cell (i := 4) h1
  simp at c4
  clear h1 h
  obtain ⟨qc, ql, qs, qk, qi, qw, qn, qo, qops⟩ := q
  simp only [rqV]
  go_enter Tryd.func11, Tryd.ntmps11
  go_wp2
  (try simp only [Exit.inBlock, Exit.then])
  refine bodyPost_ret (results_cell_tmp_row rfl _ _ (w.heap.size + 1) 30 _ (0, 0) _ rfl (heap_alloc2_new _ _ _) Tryd.underlying30 rfl (by kernel_rfl)) rfl ?_
  exact ⟨rfl, ((Below.refl _ w).alloc (Nat.le_refl _) _).alloc (by simp) _⟩
set_option maxRecDepth 100000 in
set_option maxHeartbeats 1600000 in
theorem due_idle (lo : Nat → Prop) (w : World) (p : Nat) (c l last at_ now : Int) (h : IsS lo w p c l last at_ none) : Calls Tryd.prog 14 #[.pointer (some ⟨p, 0, none⟩), .int .i64 now] w (NoRq w) := by
  have hpl := h.lt
  obtain ⟨wp, h1, h2⟩ := h.ex
  obtain rfl : wp = none := h2
  obtain ⟨c4, f4⟩ := blk_cell (i := 4) h1
  simp at c4
  clear h1 h
  go_enter Tryd.func14, Tryd.ntmps14
  go_wp2
  (try simp only [Exit.inBlock, Exit.then])
  refine bodyPost_ret (results_cell_tmp_row rfl _ _ w.heap.size 30 _ (0, 0) _ rfl (heap_alloc_new _ _) Tryd.underlying30 rfl (by kernel_rfl)) rfl ?_
  exact ⟨rfl, (Below.refl _ w).alloc (Nat.le_refl _) _⟩
set_option maxRecDepth 100000 in
set_option maxHeartbeats 1600000 in
theorem due_early (lo : Nat → Prop) (w : World) (p : Nat) (c l last at_ now : Int) (q0 : RqD) (h : IsS lo w p c l last at_ (some q0)) (h0 : 0 ≤ at_ ∧ at_ ≤ 1000000) (h1 : 0 ≤ now ∧ now ≤ 1000000) (hn : now < at_ ∨ now - at_ < 4) :
    Calls Tryd.prog 14 #[.pointer (some ⟨p, 0, none⟩), .int .i64 now] w (NoRq w) := by
  have hpl := h.lt
  obtain ⟨wp, b1, b2⟩ := h.ex
  obtain ⟨x, ov0, rfl, -⟩ := b2
  obtain ⟨c4, f4⟩ := blk_cell (i := 4) b1
  obtain ⟨c3, f3⟩ := blk_cell (i := 3) b1
  simp at c3 c4
  clear b1 h
  by_cases hlt : now < at_
  · clear hn
    go_enter Tryd.func14, Tryd.ntmps14
    go_wp2
    (try simp only [Exit.inBlock, Exit.then])
    refine bodyPost_ret (results_cell_tmp_row rfl _ _ w.heap.size 30 _ (0, 0) _ rfl (heap_alloc_new _ _) Tryd.underlying30 rfl (by kernel_rfl)) rfl ?_
    exact ⟨rfl, (Below.refl _ w).alloc (Nat.le_refl _) _⟩
  · have hn4 : now - at_ < 4 := by omega
    clear hn
    go_enter Tryd.func14, Tryd.ntmps14
    go_wp2
    (try simp only [Exit.inBlock, Exit.then])
    refine bodyPost_ret (results_cell_tmp_row rfl _ _ w.heap.size 30 _ (0, 0) _ rfl (heap_alloc_new _ _) Tryd.underlying30 rfl (by kernel_rfl)) rfl ?_
    exact ⟨rfl, (Below.refl _ w).alloc (Nat.le_refl _) _⟩
set_option maxRecDepth 100000 in
set_option maxHeartbeats 4000000 in
theorem due_yes (lo : Nat → Prop) (w : World) (p : Nat) (c l last at_ now : Int) (q : RqD) (h : IsS lo w p c l last at_ (some q)) (ho : q.okl) (h0 : 0 ≤ at_ ∧ at_ ≤ 1000000) (h1 : 0 ≤ now ∧ now ≤ 1000000) (hlt : ¬ now < at_) (hn : ¬ now - at_ < 4) :
    Calls Tryd.prog 14 #[.pointer (some ⟨p, 0, none⟩), .int .i64 now] w fun e w' => ∃ v', e = .returned (.tuple #[v', .bool true]) ∧ RqV (fun b => w.heap.size ≤ b) w' v' q ∧
      IsS lo w' p c l last now (some q) ∧ Fr (fun k => k = p) w w' := by
  obtain ⟨wp, b1, b2⟩ := h.ex
  obtain ⟨x, ov0, rfl, hxp, hlx, bx, hk⟩ := b2
  have hlo := h.lo
  have hpl := h.lt
  have hxl : x < w.heap.size := (Array.getElem?_eq_some_iff.1 bx).1
  obtain ⟨oa, oc, rfl⟩ := hk.shape
  obtain ⟨c0, f0⟩ := blk_cell (i := 0) b1
  obtain ⟨c1, f1⟩ := blk_cell (i := 1) b1
  obtain ⟨c2, f2⟩ := blk_cell (i := 2) b1
  obtain ⟨c3, f3⟩ := blk_cell (i := 3) b1
  obtain ⟨c4, f4⟩ := blk_cell (i := 4) b1
  obtain ⟨y0, g0⟩ := blk_cell (i := 0) bx
  obtain ⟨y1, g1⟩ := blk_cell (i := 1) bx
  obtain ⟨y2, g2⟩ := blk_cell (i := 2) bx
  obtain ⟨y3, g3⟩ := blk_cell (i := 3) bx
  obtain ⟨y4, g4⟩ := blk_cell (i := 4) bx
  obtain ⟨y5, g5⟩ := blk_cell (i := 5) bx
  obtain ⟨y6, g6⟩ := blk_cell (i := 6) bx
  obtain ⟨y7, g7⟩ := blk_cell (i := 7) bx
  obtain ⟨y8, g8⟩ := blk_cell (i := 8) bx
  simp [rqC] at c0 c1 c2 c3 c4 y0 y1 y2 y3 y4 y5 y6 y7 y8
  have HK := Lib.hid hk
  have HP := Lib.hid b1
  have HX := Lib.hid bx
  have HO := Lib.hid ho
  clear h b1 bx hk ho
  obtain ⟨qc, ql, qs, qk, qi, qw, qn, qo, qops⟩ := q
  simp only at *
  go_enter Tryd.func14, Tryd.ntmps14
  go_wp2_with fail
  have hsz : (w.setCell ⟨p, 3, none⟩ (.int .i64 now)).heap.size = w.heap.size := by simp [World.setCell]
  refine (own_any (fun b => lo b ∧ b < w.heap.size) _ ⟨qc, ql, qs, qk, qi, qw, qn, qo, qops⟩ _ ⟨_, rfl, (SlE.cut HK.out).mono (Same.alloc (Same.setCell (a := ⟨p, 3, none⟩) (Same.refl _ _) (fun h => hlo h.1) _) _)⟩ HO.out).mono ?_
  rintro e w6 ⟨v6, rfl, hr6, hb6⟩
  obtain ⟨ov6, rfl, hk6⟩ := hr6
  obtain ⟨oa6, oc6, rfl⟩ := hk6.shape
  simp only [World.size_alloc, hsz] at hb6 hk6
  have hs6 := hb6.size
  simp only [World.size_alloc, hsz] at hs6
  have P6 : w6.heap[p]? = some (.cells #[.int .i64 c, .int .i64 l, .int .i64 last, .int .i64 now, .pointer (some ⟨x, 0, none⟩)] 74 (0, 0)) := by
    rw [hb6.block p (by omega), Below.heap_alloc _ _ _ (by simp [hsz]; omega)]
    exact set_blk3 (j := 3) HP.out
  have Q6 : w6.heap[x]? = some (.cells (rqC ⟨qc, ql, qs, qk, qi, qw, qn, qo, qops⟩ (.slice oa qops.length oc)) 30 (0, 0)) := by
    rw [hb6.block _ (by omega), Below.heap_alloc _ _ _ (by simp [hsz]; omega)]
    exact (Below.heap_setCell _ ⟨p, 3, none⟩ _ _ hxp).trans HX.out
  have R6 : w6.heap[w.heap.size]? = some (.cells rq0 30 (0, 0)) := by
    rw [hb6.block _ (by omega)]
    have := heap_alloc_new (w.setCell ⟨p, 3, none⟩ (.int .i64 now)) (.cells rq0 30)
    rwa [hsz] at this
  have hk7 : SlE Enc.op (fun b => lo b ∧ b < w.heap.size) w6 (.slice oa qops.length oc) qops :=
    ((SlE.cut HK.out).mono (Same.alloc (Same.setCell (a := ⟨p, 3, none⟩) (Same.refl _ _) (fun h => hlo h.1) (.int .i64 now)) (.cells rq0 30))).mono (Same.of_below hb6 fun b h => by omega)
  have hf6 : Fr (fun k => k = p) w w6 := by
    refine (Fr.alloc (Fr.setCell (S := fun k => k = p) (a := ⟨p, 3, none⟩) (Fr.refl _ w) (fun _ => rfl) (.int .i64 now)) _).trans (Fr.ext (S := fun k => k = p) (hb6.mono (by simp [hsz]))) fun _ _ h => h
  clear c0 c1 c2 c3 c4 f0 f1 f2 f3 f4 y0 y1 y2 y3 y4 y5 y6 y7 y8 g0 g1 g2 g3 g4 g5 g6 g7 g8
  obtain ⟨x0, f0⟩ := blk_cell (i := 0) R6
  obtain ⟨x1, f1⟩ := blk_cell (i := 1) R6
  obtain ⟨x2, f2⟩ := blk_cell (i := 2) R6
  obtain ⟨x3, f3⟩ := blk_cell (i := 3) R6
  obtain ⟨x4, f4⟩ := blk_cell (i := 4) R6
  obtain ⟨x5, f5⟩ := blk_cell (i := 5) R6
  obtain ⟨x6, f6⟩ := blk_cell (i := 6) R6
  obtain ⟨x7, f7⟩ := blk_cell (i := 7) R6
  obtain ⟨x8, f8⟩ := blk_cell (i := 8) R6
  simp [rq0] at x0 x1 x2 x3 x4 x5 x6 x7 x8
  have HP6 := Lib.hid P6
  have HQ6 := Lib.hid Q6
  have HR6 := Lib.hid R6
  have K6 := Lib.hid hk6
  have K7 := Lib.hid hk7
  have HF6 := Lib.hid hf6
  clear P6 Q6 R6 hk6 hb6 hk7 hf6
  simp only [rqV]
  go_wp2
  refine bodyPost_ret (results_cell_tmp_row rfl _ _ w.heap.size 30 _ (0, 0) _ rfl (set9_blk HR6.out) Tryd.underlying30 rfl (by kernel_rfl)) rfl ?_
  refine ⟨_, rfl, ⟨_, rfl, ?_⟩, ⟨⟨_, ?_, x, .slice oa qops.length oc, rfl, hxp, hlx, ?_, ?_⟩, hlo⟩, ?_⟩
  · exact (K6.out.mono (same9 (fun h => by have h : w.heap.size + 1 ≤ w.heap.size := h; omega))).weak fun b _ h => by omega
  · exact ((same9 (A := fun b => b = p) (fun h => by have h : w.heap.size = p := h; omega)).block p rfl (Array.getElem?_eq_some_iff.1 HP6.out).1).trans HP6.out
  · exact ((same9 (A := fun b => b = x) (fun h => by have h : w.heap.size = x := h; omega)).block _ rfl (Array.getElem?_eq_some_iff.1 HQ6.out).1).trans HQ6.out
  · exact (K7.out.mono (same9 (fun h => by omega))).weak fun b _ h => h.1
  · refine HF6.out.trans (Fr.of_below (below9 (Below.refl w.heap.size w6) (Nat.le_refl _))) fun i hi h => by omega
set_option maxRecDepth 100000 in
set_option maxHeartbeats 4000000 in
theorem hear_yes (lo : Nat → Prop) (w : World) (s : Nat) (c l last at_ : Int) (q : RqD) (p : RpD) (dv kv : Value) (h : IsS lo w s c l last at_ (some q)) (hp : p.client = c ∧ p.life = l ∧ p.seq = last) :
    Calls Tryd.prog 16 #[.pointer (some ⟨s, 0, none⟩), rpV p dv kv] w fun e w' => e = .returned (.bool true) ∧ IsS lo w' s c l last at_ none ∧ Fr (fun k => k = s) w w' := by
  obtain ⟨pc, pl, ps, pe, pn, px, pt, ⟨od, ok, os⟩⟩ := p
  obtain ⟨rfl, rfl, rfl⟩ := hp
  simp only [rpV] at *
  have hpl := h.lt
  have hlo := h.lo
  obtain ⟨wp, h1, h2⟩ := h.ex
  obtain ⟨x, ov0, rfl, -⟩ := h2
  obtain ⟨c0, f0⟩ := blk_cell (i := 0) h1
  obtain ⟨c1, f1⟩ := blk_cell (i := 1) h1
  obtain ⟨c2, f2⟩ := blk_cell (i := 2) h1
  obtain ⟨c4, f4⟩ := blk_cell (i := 4) h1
  simp at c0 c1 c2 c4
  have HP := Lib.hid h1
  clear h h1
  go_enter Tryd.func16, Tryd.ntmps16
  go_wp2
  go_quiet (fail)
  go_wp2
  go_ret
  refine ⟨rfl, ⟨⟨none, set_blk3 (j := 4) ((Below.heap_alloc _ _ _ hpl).trans HP.out), rfl⟩, hlo⟩, ?_⟩
  exact Fr.setCell (S := fun k => k = s) (a := ⟨s, 4, none⟩) (((Fr.refl _ w).alloc _).drewN _) (fun _ => rfl) _
theorem ne_or {a b c d e f : Int} (h : ¬(a = b ∧ c = d ∧ e = f)) : a ≠ b ∨ (a = b ∧ c ≠ d) ∨ (a = b ∧ c = d ∧ e ≠ f) := by omega
set_option maxRecDepth 100000 in
set_option maxHeartbeats 4000000 in
theorem hear_no (lo : Nat → Prop) (w : World) (s : Nat) (c l last at_ : Int) (q : RqD) (p : RpD) (dv kv : Value) (h : IsS lo w s c l last at_ (some q)) (hp : ¬(p.client = c ∧ p.life = l ∧ p.seq = last)) :
    Calls Tryd.prog 16 #[.pointer (some ⟨s, 0, none⟩), rpV p dv kv] w fun e w' => e = .returned (.bool false) ∧ Below w.heap.size w w' := by
  obtain ⟨pc, pl, ps, pe, pn, px, pt, ⟨od, ok, os⟩⟩ := p
  simp only [rpV] at *
  have hpl := h.lt
  obtain ⟨wp, h1, h2⟩ := h.ex
  obtain ⟨x, ov0, rfl, -⟩ := h2
  obtain ⟨c0, f0⟩ := blk_cell (i := 0) h1
  obtain ⟨c1, f1⟩ := blk_cell (i := 1) h1
  obtain ⟨c2, f2⟩ := blk_cell (i := 2) h1
  obtain ⟨c4, f4⟩ := blk_cell (i := 4) h1
  simp at c0 c1 c2 c4
  clear h h1
  rcases ne_or hp with h1 | ⟨rfl, h1⟩ | ⟨rfl, rfl, h1⟩
  all_goals
    clear hp
    have hd := bne_iff_ne.2 h1
    go_enter Tryd.func16, Tryd.ntmps16
    go_wp2
    go_quiet (fail)
    go_wp2
    go_ret
    exact ⟨rfl, by ((repeat' (first | exact Below.refl _ _ | refine below_drewN ?_ _ | refine Below.drew ?_ | refine Below.alloc ?_ ?_ _ | refine Below.trans ?_ (Below.mono (by assumption) ?_))); all_goals (first | exact Nat.le_refl _ | exact Below.size (by assumption) | omega | (simp; done) | (simp; omega)))⟩
set_option maxRecDepth 100000 in
set_option maxHeartbeats 4000000 in
theorem hear_idle (lo : Nat → Prop) (w : World) (s : Nat) (c l last at_ : Int) (p : RpD) (dv kv : Value) (h : IsS lo w s c l last at_ none) :
    Calls Tryd.prog 16 #[.pointer (some ⟨s, 0, none⟩), rpV p dv kv] w fun e w' => e = .returned (.bool false) ∧ Below w.heap.size w w' := by
  obtain ⟨pc, pl, ps, pe, pn, px, pt, ⟨od, ok, os⟩⟩ := p
  simp only [rpV] at *
  have hpl := h.lt
  obtain ⟨wp, h1, h2⟩ := h.ex
  obtain rfl : wp = none := h2
  obtain ⟨c4, f4⟩ := blk_cell (i := 4) h1
  simp at c4
  clear h h1
  go_enter Tryd.func16, Tryd.ntmps16
  go_wp2
  go_quiet (fail)
  go_wp2
  go_ret
  exact ⟨rfl, by ((repeat' (first | exact Below.refl _ _ | refine below_drewN ?_ _ | refine Below.drew ?_ | refine Below.alloc ?_ ?_ _ | refine Below.trans ?_ (Below.mono (by assumption) ?_))); all_goals (first | exact Nat.le_refl _ | exact Below.size (by assumption) | omega | (simp; done) | (simp; omega)))⟩
end Go.Proofs.YtidikciankcopaaDoor
