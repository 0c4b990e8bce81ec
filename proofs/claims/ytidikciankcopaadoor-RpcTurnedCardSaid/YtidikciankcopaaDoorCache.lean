/- The walks of rpc's cache. -/
import Derived.Test.YtidikciankcopaaDoorSesB
namespace Go.Proofs.YtidikciankcopaaDoor
open Go.RowKit Go.WideShapes

theorem results_tmp_cell_row {P : Program} {fn : Func} {p u : Tmp} {ty : TypeId} (h : fn.results = #[.tmp u, .cell p ty]) (tmps : Array Value) (w : World) (g : Nat) (t : TypeId) (cs : Array Value) (fr : Nat × Nat) (d : TypeDesc)
    (hp : tmps.getD p undef = .pointer (some ⟨g, 0, none⟩)) (hg : w.heap[g]? = some (.cells cs t fr))
    (hu : P.underlying ty = some d) (hd : (match d with | .struct _ | .array _ _ => true | _ => false) = true) (hi : (P.info? ty).map (·.size) = some cs.size) :
    (results fn tmps).run P w = .ok (.tuple #[tmps.getD u undef, .agg cs]) w := by
  have hp' : tmps[p]?.getD undef = .pointer (some ⟨g, 0, none⟩) := by simpa using hp
  simp [results, h, hp', asAddr, run_loadVar_row w g t ty cs fr d hg hu hd hi]
/-- an answer that is kept, or none, in a cell -/
def CV (A : Nat → Prop) (w : World) : Option RpD → Value → Prop
  | none, v => v = .nilIface
  | some r, v => ∃ dv kv, v = .iface 39 (rpV r dv kv) ∧ RB A w dv r.obj.data ∧ SlE Enc.key A w kv r.obj.keys
theorem CV.mono {A : Nat → Prop} {w w' : World} {o : Option RpD} {v : Value} (h : CV A w o v) (hs : Same A w w') : CV A w' o v := by
  cases o with
  | none => exact h
  | some r => obtain ⟨dv, kv, e, h1, h2⟩ := h; exact ⟨dv, kv, e, h1.mono hs, h2.mono hs⟩
theorem CV.weak {A A' : Nat → Prop} {w : World} {o : Option RpD} {v : Value} (h : CV A w o v) (hs : ∀ b, b < w.heap.size → A b → A' b) : CV A' w o v := by
  cases o with
  | none => exact h
  | some r => obtain ⟨dv, kv, e, h1, h2⟩ := h; exact ⟨dv, kv, e, h1.weak hs, h2.weak hs⟩
/-- a cache behind a pointer -/
structure IsC (lo : Nat) (w : World) (p : Nat) (f : Nat → Option RpD) : Prop where
  mk ::
  ex : ∃ cs : Array Value, cs.size = 8 ∧ w.heap[p]? = some (.cells cs 100 (0, 0)) ∧ ∀ i, i < 8 → ∃ v, cs[i]? = some v ∧ CV (fun b => lo ≤ b ∧ b ≠ p) w (f i) v
  lo : lo ≤ p
theorem IsC.lt {lo : Nat} {w : World} {p : Nat} {f : Nat → Option RpD} (h : IsC lo w p f) : p < w.heap.size := by
  obtain ⟨v, _, hb, _⟩ := h.ex
  exact (Array.getElem?_eq_some_iff.1 hb).1
theorem IsC.same {lo : Nat} {w w' : World} {p : Nat} {f : Nat → Option RpD} (h : IsC lo w p f) (hs : Same (fun b => lo ≤ b) w w') : IsC lo w' p f := by
  obtain ⟨cs, h1, h2, h3⟩ := h.ex
  refine ⟨⟨cs, h1, (hs.block _ h.lo h.lt).trans h2, fun i hi => ?_⟩, h.lo⟩
  obtain ⟨v, e, hv⟩ := h3 i hi
  exact ⟨v, e, hv.mono (hs.weak fun b hb => hb.1)⟩
theorem IsC.ext {lo : Nat} {w w' : World} {p : Nat} {f : Nat → Option RpD} (h : IsC lo w p f) (hb : Below w.heap.size w w') : IsC lo w' p f := h.same (Same.of_ext hb)
set_option maxRecDepth 100000 in
theorem cache_new (w : World) : Calls Tryd.prog 21 #[] w fun e w' => e = .returned (.pointer (some ⟨w.heap.size, 0, none⟩)) ∧ IsC w.heap.size w' w.heap.size (fun _ => none) ∧ Below w.heap.size w w' := by
  go_enter Tryd.func21, Tryd.ntmps21
  go_wp2
  go_ret
  refine ⟨rfl, ⟨⟨_, ?_, heap_alloc_new _ _, fun i hi => ⟨.nilIface, ?_, rfl⟩⟩, Nat.le_refl _⟩, by ((repeat' (first | exact Below.refl _ _ | refine below_drewN ?_ _ | refine Below.drew ?_ | refine Below.alloc ?_ ?_ _ | refine Below.trans ?_ (Below.mono (by assumption) ?_))); all_goals (first | exact Nat.le_refl _ | exact Below.size (by assumption) | omega | (simp; done) | (simp; omega)))⟩
  · rfl
  · obtain rfl | rfl | rfl | rfl | rfl | rfl | rfl | rfl : i = 0 ∨ i = 1 ∨ i = 2 ∨ i = 3 ∨ i = 4 ∨ i = 5 ∨ i = 6 ∨ i = 7 := by omega
    all_goals rfl
set_option maxRecDepth 100000 in
theorem within_any (n lo hi : Int) (w : World) : Calls Tryd.prog 41 #[.int .i64 n, .int .i64 lo, .int .i64 hi] w fun e w' => e = .returned (.bool (decide (lo ≤ n ∧ n ≤ hi))) ∧ w = w' := by
  by_cases h1 : lo ≤ n
  · by_cases h2 : n ≤ hi
    · go_enter Tryd.func41, Tryd.ntmps41
      go_wp2
      go_ret
      refine ⟨?_, rfl⟩
      simp [h1, h2]
    · go_enter Tryd.func41, Tryd.ntmps41
      go_wp2
      go_ret
      refine ⟨?_, rfl⟩
      simp [h1, h2]
  · go_enter Tryd.func41, Tryd.ntmps41
    go_wp2
    go_ret
    refine ⟨?_, rfl⟩
    simp; omega
theorem assR_yes (W : World) (v : Value) : (Instr.typeAssert (.iface 39 v) 20 39 true).run Tryd.prog W = .ok (.tuple #[v, .bool true]) W := by kernel_rfl
theorem assR_no (W : World) : (Instr.typeAssert .nilIface 20 39 true).run Tryd.prog W = .ok (.tuple #[.agg #[.int .i64 0, .int .i64 0, .int .i64 0, .int .i64 0, .int .i64 0, .int .i64 0, .bool false, .slice none 0 0, .slice none 0 0, .int .i64 0], .bool false]) W := by kernel_rfl
theorem set10_blk {w : World} {p : Nat} {t : TypeId} {a b c d e f g h i j a' b' c' d' e' f' g' h' i' j' : Value} (hb : w.heap[p]? = some (.cells #[a, b, c, d, e, f, g, h, i, j] t (0, 0))) :
    ((((((((((w.setCell ⟨p, 0, none⟩ a').setCell ⟨p, 1, none⟩ b').setCell ⟨p, 2, none⟩ c').setCell ⟨p, 3, none⟩ d').setCell ⟨p, 4, none⟩ e').setCell ⟨p, 5, none⟩ f').setCell ⟨p, 6, none⟩ g').setCell ⟨p, 7, none⟩ h').setCell ⟨p, 8, none⟩ i').setCell ⟨p, 9, none⟩ j').heap[p]? = some (.cells #[a', b', c', d', e', f', g', h', i', j'] t (0, 0)) := by
  have := (set_blk3 (j := 9) (v := j') (set_blk3 (j := 8) (v := i') (set_blk3 (j := 7) (v := h') (set_blk3 (j := 6) (v := g') (set_blk3 (j := 5) (v := f') (set_blk3 (j := 4) (v := e') (set_blk3 (j := 3) (v := d') (set_blk3 (j := 2) (v := c') (set_blk3 (j := 1) (v := b') (set_blk3 (j := 0) (v := a') hb))))))))))
  simpa using this
theorem same10 {A : Nat → Prop} {w : World} {p : Nat} {a' b' c' d' e' f' g' h' i' j' : Value} (h : ¬ A p) : Same A w ((((((((((w.setCell ⟨p, 0, none⟩ a').setCell ⟨p, 1, none⟩ b').setCell ⟨p, 2, none⟩ c').setCell ⟨p, 3, none⟩ d').setCell ⟨p, 4, none⟩ e').setCell ⟨p, 5, none⟩ f').setCell ⟨p, 6, none⟩ g').setCell ⟨p, 7, none⟩ h').setCell ⟨p, 8, none⟩ i').setCell ⟨p, 9, none⟩ j') :=
  (Same.setCell (a := ⟨p, 9, none⟩) (Same.setCell (a := ⟨p, 8, none⟩) (Same.setCell (a := ⟨p, 7, none⟩) (Same.setCell (a := ⟨p, 6, none⟩) (Same.setCell (a := ⟨p, 5, none⟩) (Same.setCell (a := ⟨p, 4, none⟩) (Same.setCell (a := ⟨p, 3, none⟩) (Same.setCell (a := ⟨p, 2, none⟩) (Same.setCell (a := ⟨p, 1, none⟩) (Same.setCell (a := ⟨p, 0, none⟩) (Same.refl _ _) h a') h b') h c') h d') h e') h f') h g') h h') h i') h j')
theorem below10 {B : Nat} {w0 w : World} {p : Nat} {a' b' c' d' e' f' g' h' i' j' : Value} (hb : Below B w0 w) (h : B ≤ p) : Below B w0 ((((((((((w.setCell ⟨p, 0, none⟩ a').setCell ⟨p, 1, none⟩ b').setCell ⟨p, 2, none⟩ c').setCell ⟨p, 3, none⟩ d').setCell ⟨p, 4, none⟩ e').setCell ⟨p, 5, none⟩ f').setCell ⟨p, 6, none⟩ g').setCell ⟨p, 7, none⟩ h').setCell ⟨p, 8, none⟩ i').setCell ⟨p, 9, none⟩ j') :=
  (Below.setCell (p := ⟨p, 9, none⟩) (Below.setCell (p := ⟨p, 8, none⟩) (Below.setCell (p := ⟨p, 7, none⟩) (Below.setCell (p := ⟨p, 6, none⟩) (Below.setCell (p := ⟨p, 5, none⟩) (Below.setCell (p := ⟨p, 4, none⟩) (Below.setCell (p := ⟨p, 3, none⟩) (Below.setCell (p := ⟨p, 2, none⟩) (Below.setCell (p := ⟨p, 1, none⟩) (Below.setCell (p := ⟨p, 0, none⟩) hb h a') h b') h c') h d') h e') h f') h g') h h') h i') h j')
theorem heap3_mid (w : World) (A B C : Obj) : (((w.alloc A).alloc B).alloc C).heap[w.heap.size + 1]? = some B :=
  (Below.heap_alloc _ _ _ (by simp)).trans (heap_alloc2_new w A B)
theorem heap3_top (w : World) (A B C : Obj) : (((w.alloc A).alloc B).alloc C).heap[w.heap.size + 2]? = some C := by
  have := heap_alloc2_new (w.alloc A) B C
  simpa using this
def rp0 : Value := rpV RpD.none (.slice none 0 0) (.slice none 0 0)
/-- what is told of a request -/
def lookN (o : Option RpD) (life seq : Int) : Nat :=
  match o with
  | none => 0
  | some r => if r.life < life ∨ (r.life = life ∧ r.seq < seq) then 0 else if r.life = life ∧ r.seq = seq then 1 else 2
def NoRp (k : Nat) (w : World) (e : Ending) (w' : World) : Prop := e = .returned (.tuple #[.int .i64 k, rp0]) ∧ Below w.heap.size w w'
set_option maxRecDepth 100000 in
set_option maxHeartbeats 4000000 in
theorem look_none (lo : Nat) (w : World) (p i : Nat) (f : Nat → Option RpD) (q : RqD) (ov : Value) (hov : ov.oneCell' = true) (h : IsC lo w p f) (hi : i < 8) (hq : q.client = i) (hf : f i = none) :
    Calls Tryd.prog 25 #[.pointer (some ⟨p, 0, none⟩), rqV q ov] w (NoRp 0 w) := by
  obtain ⟨qc, ql, qs, qk, qi, qw, qn, qo, qops⟩ := q
  have hpl := h.lt
  obtain ⟨cs, h1, h2, h3⟩ := h.ex
  obtain ⟨v, e, hv⟩ := h3 i hi
  rw [hf] at hv
  obtain rfl : v = .nilIface := hv
  have c0 := (blk_cell h2).1.trans e
  (try simp only at hq)
  subst hq
  clear h h3 h2 e
  have hi8 : (i : Int) < 8 := by omega
  have hi0 : (0 : Int) ≤ i := by omega
  have hla : ∀ (o1 o2 o3 : Obj), (((w.alloc o1).alloc o2).alloc o3).drew.cell? ⟨p, i, none⟩ = _ := fun o1 o2 o3 => (World.cell?_alloc_lt _ _ _ (by simp; omega)).trans ((World.cell?_alloc_lt _ _ _ (by simp; omega)).trans ((World.cell?_alloc_lt _ _ _ hpl).trans c0))
  have HW : Hid (decide ((0 : Int) ≤ i ∧ (i : Int) ≤ 7) = true) := by
    show _ = true
    simp; omega
  simp only [rqV]
  have hta := assR_no
  go_enter Tryd.func25, Tryd.ntmps25
  go_wp2_with fail
  refine (within_any _ _ _ _).mono ?_
  rintro e w1 ⟨rfl, rfl⟩
  rw [HW.out]
  go_wp2_with fail
  go_region
  all_goals
    go_wp2
    (try simp only [Exit.inBlock, Exit.then])
    refine bodyPost_ret (results_tmp_cell_row rfl _ _ _ 39 _ (0, 0) _ rfl (heap3_mid _ _ _ _) Tryd.underlying39 rfl (by kernel_rfl)) rfl ?_
    exact ⟨rfl, by ((repeat' (first | exact Below.refl _ _ | refine below_drewN ?_ _ | refine Below.drew ?_ | refine Below.alloc ?_ ?_ _ | refine Below.trans ?_ (Below.mono (by assumption) ?_))); all_goals (first | exact Nat.le_refl _ | exact Below.size (by assumption) | omega | (simp; done) | (simp; omega)))⟩
set_option maxRecDepth 100000 in
set_option maxHeartbeats 4000000 in
theorem look_out (w : World) (p : Option Addr) (q : RqD) (ov : Value) (hov : ov.oneCell' = true) (hq : p = none ∨ ¬ (0 ≤ q.client ∧ q.client ≤ 7)) :
    Calls Tryd.prog 25 #[.pointer p, rqV q ov] w (NoRp 2 w) := by
  obtain ⟨qc, ql, qs, qk, qi, qw, qn, qo, qops⟩ := q
  simp only [rqV]
  rcases p with _ | a
  · go_enter Tryd.func25, Tryd.ntmps25
    go_wp2
    (try simp only [Exit.inBlock, Exit.then])
    refine bodyPost_ret (results_tmp_cell_row rfl _ _ _ 39 _ (0, 0) _ rfl (heap_alloc2_new _ _ _) Tryd.underlying39 rfl (by kernel_rfl)) rfl ?_
    exact ⟨rfl, by ((repeat' (first | exact Below.refl _ _ | refine below_drewN ?_ _ | refine Below.drew ?_ | refine Below.alloc ?_ ?_ _ | refine Below.trans ?_ (Below.mono (by assumption) ?_))); all_goals (first | exact Nat.le_refl _ | exact Below.size (by assumption) | omega | (simp; done) | (simp; omega)))⟩
  · have HW : Hid (decide ((0 : Int) ≤ qc ∧ qc ≤ 7) = false) := by
      show _ = false
      simpa using hq
    clear hq
    go_enter Tryd.func25, Tryd.ntmps25
    go_wp2_with fail
    refine (within_any _ _ _ _).mono ?_
    rintro e w1 ⟨rfl, rfl⟩
    rw [HW.out]
    go_wp2
    (try simp only [Exit.inBlock, Exit.then])
    refine bodyPost_ret (results_tmp_cell_row rfl _ _ _ 39 _ (0, 0) _ rfl (heap_alloc2_new _ _ _) Tryd.underlying39 rfl (by kernel_rfl)) rfl ?_
    exact ⟨rfl, by ((repeat' (first | exact Below.refl _ _ | refine below_drewN ?_ _ | refine Below.drew ?_ | refine Below.alloc ?_ ?_ _ | refine Below.trans ?_ (Below.mono (by assumption) ?_))); all_goals (first | exact Nat.le_refl _ | exact Below.size (by assumption) | omega | (simp; done) | (simp; omega)))⟩
set_option maxRecDepth 100000 in
set_option maxHeartbeats 4000000 in
theorem look_old (lo : Nat) (w : World) (p i : Nat) (f : Nat → Option RpD) (q : RqD) (r : RpD) (ov : Value) (hov : ov.oneCell' = true) (h : IsC lo w p f) (hi : i < 8) (hq : q.client = i) (hf : f i = some r) (hr : r.life < q.life ∨ (r.life = q.life ∧ r.seq < q.seq)) :
    Calls Tryd.prog 25 #[.pointer (some ⟨p, 0, none⟩), rqV q ov] w (NoRp 0 w) := by
  obtain ⟨qc, ql, qs, qk, qi, qw, qn, qo, qops⟩ := q
  have hpl := h.lt
  obtain ⟨cs, h1, h2, h3⟩ := h.ex
  obtain ⟨v, e, hv⟩ := h3 i hi
  rw [hf] at hv
  obtain ⟨rc, rl, rs, re, rn, rx, rt, ⟨od, ok, os⟩⟩ := r
  obtain ⟨dv, kv, rfl, hd, hk⟩ := hv
  obtain ⟨da, dc, rfl⟩ := hd.shape
  obtain ⟨ka, kc, rfl⟩ := hk.shape
  have HD := Lib.hid hd
  have HK := Lib.hid hk
  clear hd hk
  (try simp only [rpV] at *)
  have hta := assR_yes
  have c0 := (blk_cell h2).1.trans e
  (try simp only at hq)
  subst hq
  clear h h3 h2 e
  have hi8 : (i : Int) < 8 := by omega
  have hi0 : (0 : Int) ≤ i := by omega
  have hla : ∀ (o1 o2 o3 : Obj), (((w.alloc o1).alloc o2).alloc o3).drew.cell? ⟨p, i, none⟩ = _ := fun o1 o2 o3 => (World.cell?_alloc_lt _ _ _ (by simp; omega)).trans ((World.cell?_alloc_lt _ _ _ (by simp; omega)).trans ((World.cell?_alloc_lt _ _ _ hpl).trans c0))
  have HW : Hid (decide ((0 : Int) ≤ i ∧ (i : Int) ≤ 7) = true) := by
    show _ = true
    simp; omega
  simp only [rqV]
  (try simp only at hr)
  rcases hr with hr | ⟨rfl, hr⟩
  · go_enter Tryd.func25, Tryd.ntmps25
    go_wp2_with fail
    refine (within_any _ _ _ _).mono ?_
    rintro e w1 ⟨rfl, rfl⟩
    rw [HW.out]
    go_wp2_with fail
    go_region
    all_goals
      go_wp2
      (try simp only [Exit.inBlock, Exit.then])
      refine bodyPost_ret (results_tmp_cell_row rfl _ _ _ 39 _ (0, 0) _ rfl (heap3_mid _ _ _ _) Tryd.underlying39 rfl (by kernel_rfl)) rfl ?_
      exact ⟨rfl, by ((repeat' (first | exact Below.refl _ _ | refine below_drewN ?_ _ | refine Below.drew ?_ | refine Below.alloc ?_ ?_ _ | refine Below.trans ?_ (Below.mono (by assumption) ?_))); all_goals (first | exact Nat.le_refl _ | exact Below.size (by assumption) | omega | (simp; done) | (simp; omega)))⟩
  · go_enter Tryd.func25, Tryd.ntmps25
    go_wp2_with fail
    refine (within_any _ _ _ _).mono ?_
    rintro e w1 ⟨rfl, rfl⟩
    rw [HW.out]
    go_wp2_with fail
    go_region
    all_goals
      go_wp2
      (try simp only [Exit.inBlock, Exit.then])
      refine bodyPost_ret (results_tmp_cell_row rfl _ _ _ 39 _ (0, 0) _ rfl (heap3_mid _ _ _ _) Tryd.underlying39 rfl (by kernel_rfl)) rfl ?_
      exact ⟨rfl, by ((repeat' (first | exact Below.refl _ _ | refine below_drewN ?_ _ | refine Below.drew ?_ | refine Below.alloc ?_ ?_ _ | refine Below.trans ?_ (Below.mono (by assumption) ?_))); all_goals (first | exact Nat.le_refl _ | exact Below.size (by assumption) | omega | (simp; done) | (simp; omega)))⟩
set_option maxRecDepth 100000 in
set_option maxHeartbeats 4000000 in
theorem look_new (lo : Nat) (w : World) (p i : Nat) (f : Nat → Option RpD) (q : RqD) (r : RpD) (ov : Value) (hov : ov.oneCell' = true) (h : IsC lo w p f) (hi : i < 8) (hq : q.client = i) (hf : f i = some r) (hr : q.life < r.life ∨ (r.life = q.life ∧ q.seq < r.seq)) :
    Calls Tryd.prog 25 #[.pointer (some ⟨p, 0, none⟩), rqV q ov] w (NoRp 2 w) := by
  obtain ⟨qc, ql, qs, qk, qi, qw, qn, qo, qops⟩ := q
  have hpl := h.lt
  obtain ⟨cs, h1, h2, h3⟩ := h.ex
  obtain ⟨v, e, hv⟩ := h3 i hi
  rw [hf] at hv
  obtain ⟨rc, rl, rs, re, rn, rx, rt, ⟨od, ok, os⟩⟩ := r
  obtain ⟨dv, kv, rfl, hd, hk⟩ := hv
  obtain ⟨da, dc, rfl⟩ := hd.shape
  obtain ⟨ka, kc, rfl⟩ := hk.shape
  have HD := Lib.hid hd
  have HK := Lib.hid hk
  clear hd hk
  (try simp only [rpV] at *)
  have hta := assR_yes
  have c0 := (blk_cell h2).1.trans e
  (try simp only at hq)
  subst hq
  clear h h3 h2 e
  have hi8 : (i : Int) < 8 := by omega
  have hi0 : (0 : Int) ≤ i := by omega
  have hla : ∀ (o1 o2 o3 : Obj), (((w.alloc o1).alloc o2).alloc o3).drew.cell? ⟨p, i, none⟩ = _ := fun o1 o2 o3 => (World.cell?_alloc_lt _ _ _ (by simp; omega)).trans ((World.cell?_alloc_lt _ _ _ (by simp; omega)).trans ((World.cell?_alloc_lt _ _ _ hpl).trans c0))
  have HW : Hid (decide ((0 : Int) ≤ i ∧ (i : Int) ≤ 7) = true) := by
    show _ = true
    simp; omega
  simp only [rqV]
  (try simp only at hr)
  rcases hr with hr | ⟨rfl, hr⟩
  · have h1 : (rl == ql) = false := by simp; omega
    go_enter Tryd.func25, Tryd.ntmps25
    go_wp2_with fail
    refine (within_any _ _ _ _).mono ?_
    rintro e w1 ⟨rfl, rfl⟩
    rw [HW.out]
    go_wp2_with fail
    go_region
    all_goals
      go_wp2
      (try simp only [Exit.inBlock, Exit.then])
      refine bodyPost_ret (results_tmp_cell_row rfl _ _ _ 39 _ (0, 0) _ rfl (heap3_mid _ _ _ _) Tryd.underlying39 rfl (by kernel_rfl)) rfl ?_
      exact ⟨rfl, by ((repeat' (first | exact Below.refl _ _ | refine below_drewN ?_ _ | refine Below.drew ?_ | refine Below.alloc ?_ ?_ _ | refine Below.trans ?_ (Below.mono (by assumption) ?_))); all_goals (first | exact Nat.le_refl _ | exact Below.size (by assumption) | omega | (simp; done) | (simp; omega)))⟩
  · have h1 : (rs == qs) = false := by simp; omega
    go_enter Tryd.func25, Tryd.ntmps25
    go_wp2_with fail
    refine (within_any _ _ _ _).mono ?_
    rintro e w1 ⟨rfl, rfl⟩
    rw [HW.out]
    go_wp2_with fail
    go_region
    all_goals
      go_wp2
      (try simp only [Exit.inBlock, Exit.then])
      refine bodyPost_ret (results_tmp_cell_row rfl _ _ _ 39 _ (0, 0) _ rfl (heap3_mid _ _ _ _) Tryd.underlying39 rfl (by kernel_rfl)) rfl ?_
      exact ⟨rfl, by ((repeat' (first | exact Below.refl _ _ | refine below_drewN ?_ _ | refine Below.drew ?_ | refine Below.alloc ?_ ?_ _ | refine Below.trans ?_ (Below.mono (by assumption) ?_))); all_goals (first | exact Nat.le_refl _ | exact Below.size (by assumption) | omega | (simp; done) | (simp; omega)))⟩
end Go.Proofs.YtidikciankcopaaDoor
