/- The walks of terrazzoref16.Look and Keep: the reference's cache, a row of replies. -/
import Derived.Test.YtidikciankcopaaDoorOpenA
import Derived.Test.YtidikciankcopaaDoorKeep
import Derived.Test.YtidikciankcopaaDoorBlk16
import Derived.Test.YtidikciankcopaaDoorRowSt
import Derived.Deep.DeepCutAuto
namespace Go.Proofs.YtidikciankcopaaDoor
open Go.RowKit Go.WideShapes

/-- a reply's cells, at its place in a row -/
def RpAt (A : Nat → Prop) (w : World) (a : Option Addr) (i : Nat) (r : RpD) : Prop := ∃ b off da dc ka kc, a = some ⟨b, off, none⟩ ∧ b < w.heap.size ∧ RB A w (.slice da r.obj.data.length dc) r.obj.data ∧ SlE Enc.key A w (.slice ka r.obj.keys.length kc) r.obj.keys ∧
  w.cell? ⟨b, off + i * 10, none⟩ = some (.int .i64 r.client) ∧ w.cell? ⟨b, off + i * 10 + 1, none⟩ = some (.int .i64 r.life) ∧ w.cell? ⟨b, off + i * 10 + 2, none⟩ = some (.int .i64 r.seq) ∧ w.cell? ⟨b, off + i * 10 + 3, none⟩ = some (.int .i64 r.e) ∧ w.cell? ⟨b, off + i * 10 + 4, none⟩ = some (.int .i64 r.n) ∧
  w.cell? ⟨b, off + i * 10 + 5, none⟩ = some (.int .i64 r.index) ∧ w.cell? ⟨b, off + i * 10 + 6, none⟩ = some (.bool r.there) ∧ w.cell? ⟨b, off + i * 10 + 7, none⟩ = some (.slice da r.obj.data.length dc) ∧ w.cell? ⟨b, off + i * 10 + 8, none⟩ = some (.slice ka r.obj.keys.length kc) ∧ w.cell? ⟨b, off + i * 10 + 9, none⟩ = some (.int .i64 r.obj.seq)
theorem Rps.at {A : Nat → Prop} {w : World} {a : Option Addr} {n c : Nat} {l : List RpD} (h : SlE Enc.rp A w (.slice a n c) l) {i : Nat} (hi : i < l.length) : RpAt A w a i l[i] := by
  obtain ⟨b, off, cap, cs, e, hb, hA, ⟨dv, kv, rfl, hd, hk⟩, hc⟩ := h.at (i := i) (x := l[i]) (by simp [hi])
  simp only [Value.slice.injEq] at e
  obtain ⟨rfl, _, _⟩ := e
  obtain ⟨da, dc, rfl⟩ := hd.shape
  obtain ⟨ka, kc, rfl⟩ := hk.shape
  exact ⟨b, off, da, dc, ka, kc, rfl, hb, hd, hk, hc 0 (by decide), hc 1 (by decide), hc 2 (by decide), hc 3 (by decide), hc 4 (by decide), hc 5 (by decide), hc 6 (by decide), hc 7 (by decide), hc 8 (by decide), hc 9 (by decide)⟩
def RpD.grt (r : RpD) (q : RqD) : Prop := q.life < r.life ∨ (r.life = q.life ∧ q.seq < r.seq)
def RpD.eqv (r : RpD) (q : RqD) : Prop := r.life = q.life ∧ r.seq = q.seq
instance (r : RpD) (q : RqD) : Decidable (r.grt q) := by unfold RpD.grt; infer_instance
instance (r : RpD) (q : RqD) : Decidable (r.eqv q) := by unfold RpD.eqv; infer_instance
/-- what the reference tells of a request -/
def rl (q : RqD) : List RpD → Nat × RpD
  | [] => (0, RpD.none)
  | r :: l => if r.client = q.client then (if r.grt q then (2, RpD.none) else if r.eqv q then (1, r) else rl q l) else rl q l
theorem rl_drop (q : RqD) (l : List RpD) (k : Nat) (hk : k < l.length) : rl q (l.drop k) = if l[k].client = q.client then (if l[k].grt q then (2, RpD.none) else if l[k].eqv q then (1, l[k]) else rl q (l.drop (k + 1))) else rl q (l.drop (k + 1)) := by
  rw [List.drop_eq_getElem_cons hk]
  rfl
def LookR (A : Nat → Prop) (k : Nat) (D : RpD) (w : World) (e : Ending) (w' : World) : Prop := ∃ v, e = .returned (.tuple #[.int .i64 k, v]) ∧ RpV A w' v D ∧ Below w.heap.size w w'
set_option maxRecDepth 100000 in
set_option maxHeartbeats 4000000 in
theorem rlook_out (A : Nat → Prop) (a : Option Addr) (n c : Nat) (q : RqD) (qa : Option Addr) (qn qc : Nat) (w : World) (hq : ¬ (0 ≤ q.client ∧ q.client ≤ 7)) : Calls Tryd.prog 26 #[.slice a n c, rqV q (.slice qa qn qc)] w (LookR A 2 RpD.none w) := by
  obtain ⟨rc, rl, rs, rk, ri, rw, rn, ⟨ro, rops⟩⟩ := q
  simp only at hq
  simp only [rqV]
  by_cases h1 : rc < 0
  · clear hq
    go_enter Tryd.func26, Tryd.ntmps26
    go_wp2
    (try simp only [Exit.inBlock, Exit.then])
    refine bodyPost_ret (results_tmp_cell_row rfl _ _ (w.heap.size + 1) 39 _ (0, 0) _ rfl (heap_alloc2_new _ _ _) Tryd.underlying39 rfl (by kernel_rfl)) rfl ?_
    exact ⟨_, rfl, ⟨.slice none 0 0, .slice none 0 0, rfl, RB.nil _ _, SlE.nil _ _ _⟩, by ((repeat' (first | exact Below.refl _ _ | refine below_drewN ?_ _ | refine Below.drew ?_ | refine Below.alloc ?_ ?_ _ | refine Below.trans ?_ (Below.mono (by assumption) ?_))); all_goals (first | exact Nat.le_refl _ | exact Below.size (by assumption) | omega | (simp; done) | (simp; omega)))⟩
  · have h2 : 7 < rc := by omega
    clear hq
    go_enter Tryd.func26, Tryd.ntmps26
    go_wp2
    (try simp only [Exit.inBlock, Exit.then])
    refine bodyPost_ret (results_tmp_cell_row rfl _ _ (w.heap.size + 1) 39 _ (0, 0) _ rfl (heap_alloc2_new _ _ _) Tryd.underlying39 rfl (by kernel_rfl)) rfl ?_
    exact ⟨_, rfl, ⟨.slice none 0 0, .slice none 0 0, rfl, RB.nil _ _, SlE.nil _ _ _⟩, by ((repeat' (first | exact Below.refl _ _ | refine below_drewN ?_ _ | refine Below.drew ?_ | refine Below.alloc ?_ ?_ _ | refine Below.trans ?_ (Below.mono (by assumption) ?_))); all_goals (first | exact Nat.le_refl _ | exact Below.size (by assumption) | omega | (simp; done) | (simp; omega)))⟩
set_option maxRecDepth 100000 in
set_option maxHeartbeats 8000000 in
theorem rlook_any (A : Nat → Prop) (l : List RpD) (a : Option Addr) (n c : Nat) (q : RqD) (qa : Option Addr) (qn qc : Nat) (w : World) (hq : 0 ≤ q.client ∧ q.client ≤ 7) (h : SlE Enc.rp A w (.slice a n c) l) (hl : l.length ≤ 1000) :
    Calls Tryd.prog 26 #[.slice a n c, rqV q (.slice qa qn qc)] w (LookR A (rl q l).1 (rl q l).2 w) := by
  obtain ⟨rfl, hcp⟩ := h.len_le
  have h := h.cut
  have HS := Lib.hid h
  clear h
  obtain ⟨rc, rlf, rs, rk, ri, rw, rn, ⟨ro, rops⟩⟩ := q
  simp only at hq
  obtain ⟨hq0, hq7⟩ := hq
  simp only [rqV]
  have HD0 : Hid (rl ⟨rc, rlf, rs, rk, ri, rw, rn, ⟨ro, rops⟩⟩ l = rl ⟨rc, rlf, rs, rk, ri, rw, rn, ⟨ro, rops⟩⟩ (l.drop 0)) := rfl
  go_enter Tryd.func26, Tryd.ntmps26
  go_wp2
  obtain ⟨w0, hw0⟩ : ∃ w0, w0 = (w.alloc (.cells #[.int .i64 rc, .int .i64 rlf, .int .i64 rs, .int .i64 rk, .int .i64 ri, .int .i64 rw, .int .i64 rn, .string ro, .slice qa qn qc] 30)).alloc (.cells #[.int .i64 0, .int .i64 0, .int .i64 0, .int .i64 0, .int .i64 0, .int .i64 0, .bool false, .slice none 0 0, .slice none 0 0, .int .i64 0] 39) := ⟨_, rfl⟩
  rw [← hw0]
  have B0 : w0.heap[w.heap.size]? = some (.cells (rqC ⟨rc, rlf, rs, rk, ri, rw, rn, ⟨ro, rops⟩⟩ (.slice qa qn qc)) 30 (0, 0)) := by rw [hw0]; exact (Below.heap_alloc _ _ _ (by simp)).trans (heap_alloc_new _ _)
  have B1 : w0.heap[w.heap.size + 1]? = some (.cells #[.int .i64 0, .int .i64 0, .int .i64 0, .int .i64 0, .int .i64 0, .int .i64 0, .bool false, .slice none 0 0, .slice none 0 0, .int .i64 0] 39 (0, 0)) := by rw [hw0]; exact heap_alloc2_new _ _ _
  have hw : Below w.heap.size w w0 := by rw [hw0]; ((repeat' (first | exact Below.refl _ _ | refine below_drewN ?_ _ | refine Below.drew ?_ | refine Below.alloc ?_ ?_ _ | refine Below.trans ?_ (Below.mono (by assumption) ?_))); all_goals (first | exact Nat.le_refl _ | exact Below.size (by assumption) | omega | (simp; done) | (simp; omega)))
  have HB0 := Lib.hid B0
  have HB1 := Lib.hid B1
  have HW := Lib.hid hw
  have HS0 := Lib.hid (HS.out.ext hw)
  clear hw0 B0 B1 hw HS
  go_loopw [6] (fun q6 wr => ∃ k : Nat, k ≤ l.length ∧ q6 = .int .i64 k ∧ Below w0.heap.size w0 wr ∧ Hid (rl ⟨rc, rlf, rs, rk, ri, rw, rn, ⟨ro, rops⟩⟩ l = rl ⟨rc, rlf, rs, rk, ri, rw, rn, ⟨ro, rops⟩⟩ (l.drop k))) (fun q6 _ => l.length - (intOf q6).toNat)
  case atStart => exact ⟨0, Nat.zero_le _, rfl, Below.refl _ _, HD0⟩
  case round =>
    obtain ⟨k, hk, rfl, hbr, HD⟩ := hrel
    have HBR := Lib.hid hbr
    have C0 := Lib.hid (blkk hbr HB0.out)
    have C1 := Lib.hid (blkk hbr HB1.out)
    clear hbr HD0
    obtain ⟨x0, x1, x2, -, -, -, -, -, -, lx⟩ := rq_cells C0.out
    simp only at x0 x1 x2
    have ly := (Array.getElem?_eq_some_iff.1 C1.out).1
    by_cases hlt : k < l.length
    · have hat := Rps.at (HS0.out.ext HBR.out) hlt
      have HDK := Lib.hid (rl_drop ⟨rc, rlf, rs, rk, ri, rw, rn, ⟨ro, rops⟩⟩ l k hlt)
      generalize l[k] = r at *
      obtain ⟨pc, pl, ps, pe, pn, px, pt, ⟨pd, pk, po⟩⟩ := r
      obtain ⟨b, off, da, dc, ka, kc, rfl, hb, hd, hkk, z0, z1, z2, z3, z4, z5, z6, z7, z8, z9⟩ := hat
      simp only at hd hkk z0 z1 z2 z3 z4 z5 z6 z7 z8 z9
      have HDD := Lib.hid hd
      have HKK := Lib.hid hkk
      clear hd hkk
      by_cases e1 : pc = rc
      · subst e1
        by_cases e2 : rlf < pl ∨ (pl = rlf ∧ rs < ps)
        · have HR : Hid (rl ⟨pc, rlf, rs, rk, ri, rw, rn, ⟨ro, rops⟩⟩ l = (2, RpD.none)) := by
            show _ = _
            rw [HD.out, HDK.out, if_pos rfl]
            exact if_pos e2
          have key : ∀ W, W.heap[w.heap.size + 1]? = some (.cells #[.int .i64 0, .int .i64 0, .int .i64 0, .int .i64 0, .int .i64 0, .int .i64 0, .bool false, .slice none 0 0, .slice none 0 0, .int .i64 0] 39 (0, 0)) → Below w.heap.size w W → LookR A 2 RpD.none w (.returned (.tuple #[.int .i64 2, .agg #[.int .i64 0, .int .i64 0, .int .i64 0, .int .i64 0, .int .i64 0, .int .i64 0, .bool false, .slice none 0 0, .slice none 0 0, .int .i64 0]])) W := fun W _ hW => ⟨_, rfl, ⟨.slice none 0 0, .slice none 0 0, rfl, RB.nil _ _, SlE.nil _ _ _⟩, hW⟩
          have HKEY := Lib.hid key
          rw [HR.out]
          clear HD HDK HR key
          have C1a := Lib.hid (blka C1.out (.cells #[.int .i64 pc, .int .i64 pl, .int .i64 ps, .int .i64 pe, .int .i64 pn, .int .i64 px, .bool pt, .slice da pd.length dc, .slice ka pk.length kc, .int .i64 po] 39))
          have HBa : Hid (Below w.heap.size w (wr.alloc (.cells #[.int .i64 pc, .int .i64 pl, .int .i64 ps, .int .i64 pe, .int .i64 pn, .int .i64 px, .bool pt, .slice da pd.length dc, .slice ka pk.length kc, .int .i64 po] 39))) := below_new (below_call HW.out HBR.out) _
          rcases e2 with e2 | ⟨rfl, e2⟩
          · go_wp2_with (first
              | ((with_reducible refine wpList_store_put rfl 39 (.tmp 5) (.tmp 51) rfl (w.heap.size + 1) #[.int .i64 0, .int .i64 0, .int .i64 0, .int .i64 0, .int .i64 0, .int .i64 0, .bool false, .slice none 0 0, .slice none 0 0, .int .i64 0] _ 39 ?hxA ?hyA C1a.out ?hnA ?hiA ?h1A ?_); (case hxA => rfl); (case hyA => rfl); (case hnA => rfl); (case hiA => kernel_rfl); (case h1A => first | rfl | simp [Value.oneCell'])))
            intro w7 hP
            go_wp2
            (try simp only [Exit.inBlock, Exit.then])
            refine bodyPost_ret (results_tmp_cell_row rfl _ _ (w.heap.size + 1) 39 _ (0, 0) _ rfl hP.blk Tryd.underlying39 rfl (by kernel_rfl)) rfl ?_
            exact HKEY.out _ hP.blk (hP.below HBa.out (by omega))
          · go_wp2_with (first
              | ((with_reducible refine wpList_store_put rfl 39 (.tmp 5) (.tmp 51) rfl (w.heap.size + 1) #[.int .i64 0, .int .i64 0, .int .i64 0, .int .i64 0, .int .i64 0, .int .i64 0, .bool false, .slice none 0 0, .slice none 0 0, .int .i64 0] _ 39 ?hxB ?hyB C1a.out ?hnB ?hiB ?h1B ?_); (case hxB => rfl); (case hyB => rfl); (case hnB => rfl); (case hiB => kernel_rfl); (case h1B => first | rfl | simp [Value.oneCell'])))
            intro w7 hP
            go_wp2
            (try simp only [Exit.inBlock, Exit.then])
            refine bodyPost_ret (results_tmp_cell_row rfl _ _ (w.heap.size + 1) 39 _ (0, 0) _ rfl hP.blk Tryd.underlying39 rfl (by kernel_rfl)) rfl ?_
            exact HKEY.out _ hP.blk (hP.below HBa.out (by omega))
        · by_cases e3 : pl = rlf ∧ ps = rs
          · obtain ⟨rfl, rfl⟩ := e3
            have HR : Hid (rl ⟨pc, pl, ps, rk, ri, rw, rn, ⟨ro, rops⟩⟩ l = (1, ⟨pc, pl, ps, pe, pn, px, pt, ⟨pd, pk, po⟩⟩)) := by
              show _ = _
              rw [HD.out, HDK.out, if_pos rfl]
              exact (if_neg e2).trans (if_pos ⟨rfl, rfl⟩)
            rw [HR.out]
            clear HD HDK HR e2
            go_upto_region 11 with fail
            obtain ⟨w2, hw2⟩ : ∃ w2, w2 = wr.alloc (.cells #[.int .i64 pc, .int .i64 pl, .int .i64 ps, .int .i64 pe, .int .i64 pn, .int .i64 px, .bool pt, .slice da pd.length dc, .slice ka pk.length kc, .int .i64 po] 39) := ⟨_, rfl⟩
            rw [← hw2]
            have C2 : Hid (w2.heap[w.heap.size + 1]? = some (.cells #[.int .i64 0, .int .i64 0, .int .i64 0, .int .i64 0, .int .i64 0, .int .i64 0, .bool false, .slice none 0 0, .slice none 0 0, .int .i64 0] 39 (0, 0))) := by show w2.heap[w.heap.size + 1]? = _; rw [hw2]; exact blka C1.out _
            have E2 : Hid (w2.heap[wr.heap.size]? = some (.cells #[.int .i64 pc, .int .i64 pl, .int .i64 ps, .int .i64 pe, .int .i64 pn, .int .i64 px, .bool pt, .slice da pd.length dc, .slice ka pk.length kc, .int .i64 po] 39 (0, 0))) := by show w2.heap[wr.heap.size]? = _; rw [hw2]; exact heap_alloc_new _ _
            have hb2 : Below wr.heap.size wr w2 := by rw [hw2]; exact below_new (Below.refl _ _) _
            have HB2 := Lib.hid hb2
            clear hw2 hb2 z0 z1 z2 z3 z4 z5 z6 z7 z8 z9 x0 x1 x2
            obtain ⟨y0, g0⟩ := blk_cell (i := 0) C2.out
            obtain ⟨y1, g1⟩ := blk_cell (i := 1) C2.out
            obtain ⟨y2, g2⟩ := blk_cell (i := 2) C2.out
            obtain ⟨y3, g3⟩ := blk_cell (i := 3) C2.out
            obtain ⟨y4, g4⟩ := blk_cell (i := 4) C2.out
            obtain ⟨y5, g5⟩ := blk_cell (i := 5) C2.out
            obtain ⟨y6, g6⟩ := blk_cell (i := 6) C2.out
            obtain ⟨y7, g7⟩ := blk_cell (i := 7) C2.out
            obtain ⟨y8, g8⟩ := blk_cell (i := 8) C2.out
            obtain ⟨y9, g9⟩ := blk_cell (i := 9) C2.out
            obtain ⟨u0, v0⟩ := blk_cell (i := 0) E2.out
            obtain ⟨u1, v1⟩ := blk_cell (i := 1) E2.out
            obtain ⟨u2, v2⟩ := blk_cell (i := 2) E2.out
            obtain ⟨u3, v3⟩ := blk_cell (i := 3) E2.out
            obtain ⟨u4, v4⟩ := blk_cell (i := 4) E2.out
            obtain ⟨u5, v5⟩ := blk_cell (i := 5) E2.out
            obtain ⟨u6, v6⟩ := blk_cell (i := 6) E2.out
            obtain ⟨u7, v7⟩ := blk_cell (i := 7) E2.out
            obtain ⟨u8, v8⟩ := blk_cell (i := 8) E2.out
            obtain ⟨u9, v9⟩ := blk_cell (i := 9) E2.out
            simp at y0 y1 y2 y3 y4 y5 y6 y7 y8 y9 u0 u1 u2 u3 u4 u5 u6 u7 u8 u9
            go_region
            all_goals
              go_wp2
              (try simp only [Exit.inBlock, Exit.then])
              refine bodyPost_ret (results_tmp_cell_row rfl _ _ (w.heap.size + 1) 39 _ (0, 0) _ rfl (set10_blkd C2.out) Tryd.underlying39 rfl (by kernel_rfl)) rfl ?_
              have hn1 : ¬ (fun b => A b ∧ b < w.heap.size) (w.heap.size + 1) := fun h => by have h : w.heap.size + 1 < w.heap.size := h.2; omega
              refine ⟨_, rfl, ⟨_, _, rfl, ?_, ?_⟩, ?_⟩
              · exact ((HDD.out.ext HB2.out).mono (same10d hn1)).weak fun x _ h => h.1
              · exact ((HKK.out.ext HB2.out).mono (same10d hn1)).weak fun x _ h => h.1
              · exact below10d (below_call (below_call HW.out HBR.out) HB2.out) (by omega)
          · have HN : Hid (rl ⟨pc, rlf, rs, rk, ri, rw, rn, ⟨ro, rops⟩⟩ l = rl ⟨pc, rlf, rs, rk, ri, rw, rn, ⟨ro, rops⟩⟩ (l.drop (k + 1))) := by
              show _ = _
              rw [HD.out, HDK.out, if_pos rfl]
              exact (if_neg e2).trans (if_neg e3)
            clear HD HDK
            have e4 : ¬ rlf < pl := fun h => e2 (.inl h)
            by_cases e5 : pl = rlf
            · subst e5
              have e6 : ¬ rs < ps := fun h => e2 (.inr ⟨rfl, h⟩)
              have e7 : (ps == rs) = false := by
                have : ¬ ps = rs := fun h => e3 ⟨rfl, h⟩
                simpa using this
              clear e2 e3
              go_wp2
              go_roundw
              case rel => exact ⟨k + 1, by omega, by go_num, HBR.out.trans (Below.mono (below_new (Below.refl _ wr) _) HBR.out.size), HN⟩
              case measure => simp [intOf]; omega
            · have e7 : (pl == rlf) = false := by simpa using e5
              clear e2 e3
              go_wp2
              go_roundw
              case rel => exact ⟨k + 1, by omega, by go_num, HBR.out.trans (Below.mono (below_new (Below.refl _ wr) _) HBR.out.size), HN⟩
              case measure => simp [intOf]; omega
      · have HN : Hid (rl ⟨rc, rlf, rs, rk, ri, rw, rn, ⟨ro, rops⟩⟩ l = rl ⟨rc, rlf, rs, rk, ri, rw, rn, ⟨ro, rops⟩⟩ (l.drop (k + 1))) := by
          show _ = _
          rw [HD.out, HDK.out]
          exact if_neg e1
        have e7 : (pc != rc) = true := by simpa using e1
        clear HD HDK
        go_wp2
        go_roundw
        case rel => exact ⟨k + 1, by omega, by go_num, HBR.out.trans (Below.mono (below_new (Below.refl _ wr) _) HBR.out.size), HN⟩
        case measure => simp [intOf]; omega
    · have HR : Hid (rl ⟨rc, rlf, rs, rk, ri, rw, rn, ⟨ro, rops⟩⟩ l = (0, RpD.none)) := by
        show _ = _
        rw [HD.out, List.drop_eq_nil_of_le (by omega)]
        rfl
      rw [HR.out]
      have hend : ∀ W, Below w.heap.size w W → LookR A 0 RpD.none w (.returned (.tuple #[.int .i64 0, .agg #[.int .i64 0, .int .i64 0, .int .i64 0, .int .i64 0, .int .i64 0, .int .i64 0, .bool false, .slice none 0 0, .slice none 0 0, .int .i64 0]])) W := fun W hW => ⟨_, rfl, ⟨.slice none 0 0, .slice none 0 0, rfl, RB.nil _ _, SlE.nil _ _ _⟩, hW⟩
      have HEND := Lib.hid hend
      clear HD hend
      have HBW : Hid (Below w.heap.size w wr) := below_call HW.out HBR.out
      go_wp2_with (first
        | ((with_reducible refine wpList_store_put rfl 39 (.tmp 5) (.tmp 65) rfl (w.heap.size + 1) #[.int .i64 0, .int .i64 0, .int .i64 0, .int .i64 0, .int .i64 0, .int .i64 0, .bool false, .slice none 0 0, .slice none 0 0, .int .i64 0] _ 39 ?hxD ?hyD C1.out ?hnD ?hiD ?h1D ?_); (case hxD => rfl); (case hyD => rfl); (case hnD => rfl); (case hiD => kernel_rfl); (case h1D => first | rfl | simp [Value.oneCell'])))
      intro w7 hP
      go_wp2
      (try simp only [Exit.inBlock, Exit.then])
      refine bodyPost_ret (results_tmp_cell_row rfl _ _ (w.heap.size + 1) 39 _ (0, 0) _ rfl hP.blk Tryd.underlying39 rfl (by kernel_rfl)) rfl ?_
      first | exact HEND.out _ (hP.below HBW.out (by omega)) | (rw [HR.out]; exact HEND.out _ (hP.below HBW.out (by omega)))
end Go.Proofs.YtidikciankcopaaDoor
