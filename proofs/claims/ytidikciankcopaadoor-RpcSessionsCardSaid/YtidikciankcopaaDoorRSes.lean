/- The walks of terrazzoref16.Session's methods: the reference's session, by value. -/
import Derived.Test.YtidikciankcopaaDoorBlk16
import Derived.Test.YtidikciankcopaaDoorCache
namespace Go.Proofs.YtidikciankcopaaDoor
open Go.RowKit Go.WideShapes
structure SsD where
  c : Int
  l : Int
  last : Int
  busy : Bool
  q : RqD
  at_ : Int
/-- its cells -/
def ssC (s : SsD) (ov : Value) : Array Value := #[.int .i64 s.c, .int .i64 s.l, .int .i64 s.last, .bool s.busy, .int .i64 s.q.client, .int .i64 s.q.life, .int .i64 s.q.seq, .int .i64 s.q.kind, .int .i64 s.q.image, .int .i64 s.q.who, .int .i64 s.q.n, .string s.q.txn.obj, ov, .int .i64 s.at_]
theorem results_cct {P : Program} {fn : Func} {p q u : Tmp} {tp tq : TypeId} (h : fn.results = #[.cell p tp, .cell q tq, .tmp u]) (tmps : Array Value) (w : World) (g g' : Nat) (t t' : TypeId) (cs cs' : Array Value) (fr fr' : Nat × Nat) (d d' : TypeDesc)
    (hp : tmps.getD p undef = .pointer (some ⟨g, 0, none⟩)) (hg : w.heap[g]? = some (.cells cs t fr))
    (hu : P.underlying tp = some d) (hd : (match d with | .struct _ | .array _ _ => true | _ => false) = true) (hi : (P.info? tp).map (·.size) = some cs.size)
    (hp' : tmps.getD q undef = .pointer (some ⟨g', 0, none⟩)) (hg' : w.heap[g']? = some (.cells cs' t' fr'))
    (hu' : P.underlying tq = some d') (hd' : (match d' with | .struct _ | .array _ _ => true | _ => false) = true) (hi' : (P.info? tq).map (·.size) = some cs'.size) :
    (results fn tmps).run P w = .ok (.tuple #[.agg cs, .agg cs', tmps.getD u undef]) w := by
  have e1 : tmps[p]?.getD undef = .pointer (some ⟨g, 0, none⟩) := by simpa using hp
  have e2 : tmps[q]?.getD undef = .pointer (some ⟨g', 0, none⟩) := by simpa using hp'
  simp only [results, h]
  simp [Sem.run_bind, Result.andThen, e1, e2, asAddr, run_loadVar_row w g t tp cs fr d hg hu hd hi, run_loadVar_row w g' t' tq cs' fr' d' hg' hu' hd' hi']
theorem heap_eq {W : World} {g : Nat} {C D : Array Value} {t : TypeId} {fr : Nat × Nat} (h : W.heap[g]? = some (.cells C t fr)) (e : C = D) : W.heap[g]? = some (.cells D t fr) := by rw [h, e]
theorem heap4_2 (w : World) (A B C D : Obj) : ((((w.alloc A).alloc B).alloc C).alloc D).heap[w.heap.size + 1 + 1]? = some C := by
  have := heap3_mid (w.alloc A) B C D
  simpa using this
theorem heap4_3 (w : World) (A B C D : Obj) : ((((w.alloc A).alloc B).alloc C).alloc D).heap[w.heap.size + 1 + 1 + 1]? = some D := by
  have := heap3_top (w.alloc A) B C D
  simpa using this
theorem heap3_1 (w : World) (B C D : Obj) : (((w.alloc B).alloc C).alloc D).heap[w.heap.size + 1]? = some C := heap3_mid w B C D
theorem heap3_2 (w : World) (B C D : Obj) : (((w.alloc B).alloc C).alloc D).heap[w.heap.size + 1 + 1]? = some D := heap3_top w B C D
theorem heap4_2d (w : World) (A B C D : Obj) : ((((w.alloc A).alloc B).alloc C).alloc D).drew.heap[w.heap.size + 1 + 1]? = some C := heap4_2 w A B C D
theorem heap4_3d (w : World) (A B C D : Obj) : ((((w.alloc A).alloc B).alloc C).alloc D).drew.heap[w.heap.size + 1 + 1 + 1]? = some D := heap4_3 w A B C D
theorem heap3_1d (w : World) (B C D : Obj) : (((w.alloc B).alloc C).alloc D).drew.heap[w.heap.size + 1]? = some C := heap3_mid w B C D
theorem heap3_2d (w : World) (B C D : Obj) : (((w.alloc B).alloc C).alloc D).drew.heap[w.heap.size + 1 + 1]? = some D := heap3_top w B C D
set_option maxRecDepth 100000 in
set_option maxHeartbeats 4000000 in
theorem rask_busy (s : SsD) (sa : Option Addr) (sn sc : Nat) (q : RqD) (qa : Option Addr) (qn qc : Nat) (now : Int) (w : World) (hb : s.busy = true) :
    Calls Tryd.prog 12 #[.agg (ssC s (.slice sa sn sc)), rqV q (.slice qa qn qc), .int .i64 now] w fun e w' => e = .returned (.tuple #[.agg (ssC s (.slice sa sn sc)), .agg rq0, .bool false]) ∧ Below w.heap.size w w' := by
  obtain ⟨c, l, last, busy, ⟨rc, rl, rs, rk, ri, rw, rn, ⟨ro, rops⟩⟩, at_⟩ := s
  obtain ⟨qc', ql, qs, qk, qi, qw, qn', ⟨qo, qops⟩⟩ := q
  obtain rfl : busy = true := hb
  simp only [ssC, rqV]
  go_enter Tryd.func12, Tryd.ntmps12
  go_wp2
  (try simp only [Exit.inBlock, Exit.then])
  refine bodyPost_ret (results_cct rfl _ _ (w.heap.size + 1 + 1) (w.heap.size + 1 + 1 + 1) 32 30 _ _ (0, 0) (0, 0) _ _ rfl (heap4_2 _ _ _ _ _) Tryd.underlying32 rfl (by kernel_rfl) rfl (heap4_3 _ _ _ _ _) Tryd.underlying30 rfl (by kernel_rfl)) rfl ?_
  exact ⟨by first | rfl | simp, by ((repeat' (first | exact Below.refl _ _ | refine below_drewN ?_ _ | refine Below.drew ?_ | refine Below.alloc ?_ ?_ _ | refine Below.trans ?_ (Below.mono (by assumption) ?_))); all_goals (first | exact Nat.le_refl _ | exact Below.size (by assumption) | omega | (simp; done) | (simp; omega)))⟩
set_option maxRecDepth 100000 in
set_option maxHeartbeats 4000000 in
theorem rask_idle (c l at_ now : Int) (last : Nat) (q0 : RqD) (sa : Option Addr) (sn sc : Nat) (q : RqD) (qa : Option Addr) (qn qc : Nat) (w : World) (hl : last ≤ 1000) :
    Calls Tryd.prog 12 #[.agg (ssC ⟨c, l, last, false, q0, at_⟩ (.slice sa sn sc)), rqV q (.slice qa qn qc), .int .i64 now] w fun e w' => e = .returned (.tuple #[.agg (ssC ⟨c, l, (last + 1 : Nat), true, { q with client := c, life := l, seq := (last + 1 : Nat) }, now⟩ (.slice qa qn qc)), .agg (rqC { q with client := c, life := l, seq := (last + 1 : Nat) } (.slice qa qn qc)), .bool true]) ∧ Below w.heap.size w w' := by
  obtain ⟨rc, rl, rs, rk, ri, rw, rn, ⟨ro, rops⟩⟩ := q0
  obtain ⟨qc', ql, qs, qk, qi, qw, qn', ⟨qo, qops⟩⟩ := q
  simp only [ssC, rqV, rqC]
  go_enter Tryd.func12, Tryd.ntmps12
  go_wp2
  go_region
  all_goals
    go_wp2
    (try simp only [Exit.inBlock, Exit.then])
    refine bodyPost_ret (results_cct rfl _ _ (w.heap.size + 1 + 1) (w.heap.size + 1 + 1 + 1) 32 30 _ _ (0, 0) (0, 0) _ _ rfl (heap4_2d _ _ _ _ _) Tryd.underlying32 rfl (by kernel_rfl) rfl (heap4_3d _ _ _ _ _) Tryd.underlying30 rfl (by kernel_rfl)) rfl ?_
    exact ⟨by first | rfl | simp, by ((repeat' (first | exact Below.refl _ _ | refine below_drewN ?_ _ | refine Below.drew ?_ | refine Below.alloc ?_ ?_ _ | refine Below.trans ?_ (Below.mono (by assumption) ?_))); all_goals (first | exact Nat.le_refl _ | exact Below.size (by assumption) | omega | (simp; done) | (simp; omega)))⟩
set_option maxRecDepth 100000 in
set_option maxHeartbeats 4000000 in
theorem rdue_no (s : SsD) (sa : Option Addr) (sn sc : Nat) (now : Int) (w : World) (h0 : 0 ≤ s.at_ ∧ s.at_ ≤ 1000000) (h1 : 0 ≤ now ∧ now ≤ 1000000) (hn : s.busy = false ∨ now < s.at_ ∨ now - s.at_ < 4) :
    Calls Tryd.prog 15 #[.agg (ssC s (.slice sa sn sc)), .int .i64 now] w fun e w' => e = .returned (.tuple #[.agg (ssC s (.slice sa sn sc)), .agg rq0, .bool false]) ∧ Below w.heap.size w w' := by
  obtain ⟨c, l, last, busy, ⟨rc, rl, rs, rk, ri, rw, rn, ⟨ro, rops⟩⟩, at_⟩ := s
  simp only at h0 h1 hn
  simp only [ssC]
  rcases busy with _ | _
  · clear hn
    go_enter Tryd.func15, Tryd.ntmps15
    go_wp2
    (try simp only [Exit.inBlock, Exit.then])
    refine bodyPost_ret (results_cct rfl _ _ (w.heap.size + 1) (w.heap.size + 1 + 1) 32 30 _ _ (0, 0) (0, 0) _ _ rfl (heap3_1 _ _ _ _) Tryd.underlying32 rfl (by kernel_rfl) rfl (heap3_2 _ _ _ _) Tryd.underlying30 rfl (by kernel_rfl)) rfl ?_
    exact ⟨by first | rfl | simp, by ((repeat' (first | exact Below.refl _ _ | refine below_drewN ?_ _ | refine Below.drew ?_ | refine Below.alloc ?_ ?_ _ | refine Below.trans ?_ (Below.mono (by assumption) ?_))); all_goals (first | exact Nat.le_refl _ | exact Below.size (by assumption) | omega | (simp; done) | (simp; omega)))⟩
  · have hn : now < at_ ∨ now - at_ < 4 := by simpa using hn
    by_cases hlt : now < at_
    · clear hn
      go_enter Tryd.func15, Tryd.ntmps15
      go_wp2
      (try simp only [Exit.inBlock, Exit.then])
      refine bodyPost_ret (results_cct rfl _ _ (w.heap.size + 1) (w.heap.size + 1 + 1) 32 30 _ _ (0, 0) (0, 0) _ _ rfl (heap3_1 _ _ _ _) Tryd.underlying32 rfl (by kernel_rfl) rfl (heap3_2 _ _ _ _) Tryd.underlying30 rfl (by kernel_rfl)) rfl ?_
      exact ⟨by first | rfl | simp, by ((repeat' (first | exact Below.refl _ _ | refine below_drewN ?_ _ | refine Below.drew ?_ | refine Below.alloc ?_ ?_ _ | refine Below.trans ?_ (Below.mono (by assumption) ?_))); all_goals (first | exact Nat.le_refl _ | exact Below.size (by assumption) | omega | (simp; done) | (simp; omega)))⟩
    · have hn4 : now - at_ < 4 := by omega
      clear hn
      go_enter Tryd.func15, Tryd.ntmps15
      go_wp2
      (try simp only [Exit.inBlock, Exit.then])
      refine bodyPost_ret (results_cct rfl _ _ (w.heap.size + 1) (w.heap.size + 1 + 1) 32 30 _ _ (0, 0) (0, 0) _ _ rfl (heap3_1 _ _ _ _) Tryd.underlying32 rfl (by kernel_rfl) rfl (heap3_2 _ _ _ _) Tryd.underlying30 rfl (by kernel_rfl)) rfl ?_
      exact ⟨by first | rfl | simp, by ((repeat' (first | exact Below.refl _ _ | refine below_drewN ?_ _ | refine Below.drew ?_ | refine Below.alloc ?_ ?_ _ | refine Below.trans ?_ (Below.mono (by assumption) ?_))); all_goals (first | exact Nat.le_refl _ | exact Below.size (by assumption) | omega | (simp; done) | (simp; omega)))⟩
set_option maxRecDepth 100000 in
set_option maxHeartbeats 4000000 in
theorem rdue_yes (s : SsD) (sa : Option Addr) (sn sc : Nat) (now : Int) (w : World) (hb : s.busy = true) (h0 : 0 ≤ s.at_ ∧ s.at_ ≤ 1000000) (h1 : 0 ≤ now ∧ now ≤ 1000000) (hlt : ¬ now < s.at_) (hn : ¬ now - s.at_ < 4) :
    Calls Tryd.prog 15 #[.agg (ssC s (.slice sa sn sc)), .int .i64 now] w fun e w' => e = .returned (.tuple #[.agg (ssC { s with at_ := now } (.slice sa sn sc)), .agg (rqC s.q (.slice sa sn sc)), .bool true]) ∧ Below w.heap.size w w' := by
  obtain ⟨c, l, last, busy, ⟨rc, rl, rs, rk, ri, rw, rn, ⟨ro, rops⟩⟩, at_⟩ := s
  obtain rfl : busy = true := hb
  simp only at h0 h1 hlt hn
  simp only [ssC, rqC]
  go_enter Tryd.func15, Tryd.ntmps15
  go_wp2
  go_region
  all_goals
    go_wp2
    (try simp only [Exit.inBlock, Exit.then])
    refine bodyPost_ret (results_cct rfl _ _ (w.heap.size + 1) (w.heap.size + 1 + 1) 32 30 _ _ (0, 0) (0, 0) _ _ rfl (heap3_1d _ _ _ _) Tryd.underlying32 rfl (by kernel_rfl) rfl (heap3_2d _ _ _ _) Tryd.underlying30 rfl (by kernel_rfl)) rfl ?_
    exact ⟨by first | rfl | simp, by ((repeat' (first | exact Below.refl _ _ | refine below_drewN ?_ _ | refine Below.drew ?_ | refine Below.alloc ?_ ?_ _ | refine Below.trans ?_ (Below.mono (by assumption) ?_))); all_goals (first | exact Nat.le_refl _ | exact Below.size (by assumption) | omega | (simp; done) | (simp; omega)))⟩
set_option maxRecDepth 100000 in
set_option maxHeartbeats 4000000 in
theorem rhear_no (s : SsD) (sa : Option Addr) (sn sc : Nat) (p : RpD) (da : Option Addr) (dn dc : Nat) (ka : Option Addr) (kn kc : Nat) (w : World) (hn : s.busy = false ∨ p.client ≠ s.c ∨ p.life ≠ s.l ∨ p.seq ≠ s.last) :
    Calls Tryd.prog 17 #[.agg (ssC s (.slice sa sn sc)), rpV p (.slice da dn dc) (.slice ka kn kc)] w fun e w' => e = .returned (.tuple #[.agg (ssC s (.slice sa sn sc)), .bool false]) ∧ Below w.heap.size w w' := by
  obtain ⟨c, l, last, busy, ⟨rc, rl, rs, rk, ri, rw, rn, ⟨ro, rops⟩⟩, at_⟩ := s
  obtain ⟨pc, pl, ps, pe, pn, px, pt, ⟨od, ok, os⟩⟩ := p
  simp only at hn
  simp only [ssC, rpV]
  rcases busy with _ | _
  · clear hn
    go_enter Tryd.func17, Tryd.ntmps17
    go_wp2
    (try simp only [Exit.inBlock, Exit.then])
    refine bodyPost_ret (results_cell_tmp_row rfl _ _ (w.heap.size + 1 + 1) 32 _ (0, 0) _ rfl (heap3_2 _ _ _ _) Tryd.underlying32 rfl (by kernel_rfl)) rfl ?_
    exact ⟨by first | rfl | simp, by ((repeat' (first | exact Below.refl _ _ | refine below_drewN ?_ _ | refine Below.drew ?_ | refine Below.alloc ?_ ?_ _ | refine Below.trans ?_ (Below.mono (by assumption) ?_))); all_goals (first | exact Nat.le_refl _ | exact Below.size (by assumption) | omega | (simp; done) | (simp; omega)))⟩
  · by_cases e1 : pc = c
    · by_cases e2 : pl = l
      · have e3 : (ps != last) = true := by simp [e1, e2] at hn; simpa using hn
        obtain rfl := e1
        obtain rfl := e2
        clear hn
        go_enter Tryd.func17, Tryd.ntmps17
        go_wp2
        (try simp only [Exit.inBlock, Exit.then])
        refine bodyPost_ret (results_cell_tmp_row rfl _ _ (w.heap.size + 1 + 1) 32 _ (0, 0) _ rfl (heap3_2 _ _ _ _) Tryd.underlying32 rfl (by kernel_rfl)) rfl ?_
        exact ⟨by first | rfl | simp, by ((repeat' (first | exact Below.refl _ _ | refine below_drewN ?_ _ | refine Below.drew ?_ | refine Below.alloc ?_ ?_ _ | refine Below.trans ?_ (Below.mono (by assumption) ?_))); all_goals (first | exact Nat.le_refl _ | exact Below.size (by assumption) | omega | (simp; done) | (simp; omega)))⟩
      · have e2' : (pl != l) = true := by simpa using e2
        obtain rfl := e1
        clear hn e2
        go_enter Tryd.func17, Tryd.ntmps17
        go_wp2
        (try simp only [Exit.inBlock, Exit.then])
        refine bodyPost_ret (results_cell_tmp_row rfl _ _ (w.heap.size + 1 + 1) 32 _ (0, 0) _ rfl (heap3_2 _ _ _ _) Tryd.underlying32 rfl (by kernel_rfl)) rfl ?_
        exact ⟨by first | rfl | simp, by ((repeat' (first | exact Below.refl _ _ | refine below_drewN ?_ _ | refine Below.drew ?_ | refine Below.alloc ?_ ?_ _ | refine Below.trans ?_ (Below.mono (by assumption) ?_))); all_goals (first | exact Nat.le_refl _ | exact Below.size (by assumption) | omega | (simp; done) | (simp; omega)))⟩
    · have e1' : (pc != c) = true := by simpa using e1
      clear hn e1
      go_enter Tryd.func17, Tryd.ntmps17
      go_wp2
      (try simp only [Exit.inBlock, Exit.then])
      refine bodyPost_ret (results_cell_tmp_row rfl _ _ (w.heap.size + 1 + 1) 32 _ (0, 0) _ rfl (heap3_2 _ _ _ _) Tryd.underlying32 rfl (by kernel_rfl)) rfl ?_
      exact ⟨by first | rfl | simp, by ((repeat' (first | exact Below.refl _ _ | refine below_drewN ?_ _ | refine Below.drew ?_ | refine Below.alloc ?_ ?_ _ | refine Below.trans ?_ (Below.mono (by assumption) ?_))); all_goals (first | exact Nat.le_refl _ | exact Below.size (by assumption) | omega | (simp; done) | (simp; omega)))⟩
set_option maxRecDepth 100000 in
set_option maxHeartbeats 4000000 in
theorem rhear_yes (s : SsD) (sa : Option Addr) (sn sc : Nat) (p : RpD) (da : Option Addr) (dn dc : Nat) (ka : Option Addr) (kn kc : Nat) (w : World) (hb : s.busy = true) (h1 : p.client = s.c) (h2 : p.life = s.l) (h3 : p.seq = s.last) :
    Calls Tryd.prog 17 #[.agg (ssC s (.slice sa sn sc)), rpV p (.slice da dn dc) (.slice ka kn kc)] w fun e w' => e = .returned (.tuple #[.agg (ssC { s with busy := false, q := RqD.none } (.slice none 0 0)), .bool true]) ∧ Below w.heap.size w w' := by
  obtain ⟨c, l, last, busy, ⟨rc, rl, rs, rk, ri, rw, rn, ⟨ro, rops⟩⟩, at_⟩ := s
  obtain ⟨pc, pl, ps, pe, pn, px, pt, ⟨od, ok, os⟩⟩ := p
  obtain rfl : busy = true := hb
  simp only at h1 h2 h3
  subst h1 h2 h3
  simp only [ssC, rpV, RqD.none, TxD.none]
  go_enter Tryd.func17, Tryd.ntmps17
  go_wp2
  (try simp only [Exit.inBlock, Exit.then])
  refine bodyPost_ret (results_cell_tmp_row rfl _ _ (w.heap.size + 1 + 1) 32 _ (0, 0) _ rfl (heap3_2 _ _ _ _) Tryd.underlying32 rfl (by kernel_rfl)) rfl ?_
  exact ⟨by first | rfl | simp, by ((repeat' (first | exact Below.refl _ _ | refine below_drewN ?_ _ | refine Below.drew ?_ | refine Below.alloc ?_ ?_ _ | refine Below.trans ?_ (Below.mono (by assumption) ?_))); all_goals (first | exact Nat.le_refl _ | exact Below.size (by assumption) | omega | (simp; done) | (simp; omega)))⟩
end Go.Proofs.YtidikciankcopaaDoor
