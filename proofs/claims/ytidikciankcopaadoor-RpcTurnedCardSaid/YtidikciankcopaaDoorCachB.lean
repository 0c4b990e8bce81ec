/- The walks of rpc's cache: an answer that is kept, and Keep. -/
import Derived.Test.YtidikciankcopaaDoorCache
namespace Go.Proofs.YtidikciankcopaaDoor
open Go.RowKit Go.WideShapes

theorem drew_heap (W : World) : W.drew.heap = W.heap := rfl
theorem set10_blkd {w : World} {p : Nat} {t : TypeId} {a b c d e f g h i j a' b' c' d' e' f' g' h' i' j' : Value} (hb : w.heap[p]? = some (.cells #[a, b, c, d, e, f, g, h, i, j] t (0, 0))) :
    ((((((((((w.setCell ⟨p, 0, none⟩ a').setCell ⟨p, 1, none⟩ b').setCell ⟨p, 2, none⟩ c').setCell ⟨p, 3, none⟩ d').setCell ⟨p, 4, none⟩ e').setCell ⟨p, 5, none⟩ f').setCell ⟨p, 6, none⟩ g').setCell ⟨p, 7, none⟩ h').setCell ⟨p, 8, none⟩ i').setCell ⟨p, 9, none⟩ j').drew.heap[p]? = some (.cells #[a', b', c', d', e', f', g', h', i', j'] t (0, 0)) := by
  rw [drew_heap]
  exact set10_blk hb
theorem same10d {A : Nat → Prop} {w : World} {p : Nat} {a' b' c' d' e' f' g' h' i' j' : Value} (h : ¬ A p) : Same A w ((((((((((w.setCell ⟨p, 0, none⟩ a').setCell ⟨p, 1, none⟩ b').setCell ⟨p, 2, none⟩ c').setCell ⟨p, 3, none⟩ d').setCell ⟨p, 4, none⟩ e').setCell ⟨p, 5, none⟩ f').setCell ⟨p, 6, none⟩ g').setCell ⟨p, 7, none⟩ h').setCell ⟨p, 8, none⟩ i').setCell ⟨p, 9, none⟩ j').drew := Same.drew (same10 h)
theorem below10d {B : Nat} {w0 w : World} {p : Nat} {a' b' c' d' e' f' g' h' i' j' : Value} (hb : Below B w0 w) (h : B ≤ p) : Below B w0 ((((((((((w.setCell ⟨p, 0, none⟩ a').setCell ⟨p, 1, none⟩ b').setCell ⟨p, 2, none⟩ c').setCell ⟨p, 3, none⟩ d').setCell ⟨p, 4, none⟩ e').setCell ⟨p, 5, none⟩ f').setCell ⟨p, 6, none⟩ g').setCell ⟨p, 7, none⟩ h').setCell ⟨p, 8, none⟩ i').setCell ⟨p, 9, none⟩ j').drew := Below.drew (below10 hb h)
structure RpD.okl (r : RpD) : Prop where
  obj : r.obj.okl
set_option maxRecDepth 100000 in
set_option maxHeartbeats 4000000 in
theorem look_same (lo : Nat) (w : World) (p i : Nat) (f : Nat → Option RpD) (q : RqD) (r : RpD) (ov : Value) (hov : ov.oneCell' = true) (h : IsC lo w p f) (hi : i < 8) (hq : q.client = i) (hf : f i = some r) (hr : r.life = q.life ∧ r.seq = q.seq) (hok : r.obj.okl) :
    Calls Tryd.prog 25 #[.pointer (some ⟨p, 0, none⟩), rqV q ov] w fun e w' => ∃ v', e = .returned (.tuple #[.int .i64 1, v']) ∧ RpV (fun b => w.heap.size ≤ b) w' v' r ∧ Below w.heap.size w w' := by
  obtain ⟨qc, ql, qs, qk, qi, qw, qn, qo, qops⟩ := q
  have hpl := h.lt
  obtain ⟨cs, h1, h2, h3⟩ := h.ex
  obtain ⟨v, e, hv⟩ := h3 i hi
  rw [hf] at hv
  obtain ⟨rc, rl, rs, re, rn, rx, rt, ⟨od, ok, os⟩⟩ := r
  obtain ⟨dv, kv, rfl, hd, hk⟩ := hv
  obtain ⟨da, dc, rfl⟩ := hd.shape
  obtain ⟨ka, kc, rfl⟩ := hk.shape
  have HD := Lib.hid hd
  have HK := Lib.hid hk
  clear hd hk
  (try simp only [rpV] at *)
  have hta := assR_yes
  have c0 := (blk_cell h2).1.trans e
  (try simp only at hq)
  subst hq
  clear h h3 h2 e
  have hi8 : (i : Int) < 8 := by omega
  have hi0 : (0 : Int) ≤ i := by omega
  have hla : ∀ (o1 o2 o3 : Obj), (((w.alloc o1).alloc o2).alloc o3).drew.cell? ⟨p, i, none⟩ = _ := fun o1 o2 o3 => (World.cell?_alloc_lt _ _ _ (by simp; omega)).trans ((World.cell?_alloc_lt _ _ _ (by simp; omega)).trans ((World.cell?_alloc_lt _ _ _ hpl).trans c0))
  have HW : Hid (decide ((0 : Int) ≤ i ∧ (i : Int) ≤ 7) = true) := by
    show _ = true
    simp; omega
  simp only [rqV]
  (try simp only at hr)
  obtain ⟨rfl, rfl⟩ := hr
  have HOK := Lib.hid hok
  clear hok
  go_enter Tryd.func25, Tryd.ntmps25
  go_wp2_with fail
  refine (within_any _ _ _ _).mono ?_
  rintro e w1 ⟨rfl, rfl⟩
  rw [HW.out]
  go_wp2_with fail
  go_region
  all_goals
    go_wp2_with fail
    refine (objclone_any (fun b => lo ≤ b ∧ b ≠ p) (.agg #[.slice da od.length dc, .slice ka ok.length kc, .int .i64 os]) ⟨od, ok, os⟩ _ ⟨_, _, rfl, HD.out.mono ?_, HK.out.mono ?_⟩ HOK.out).mono ?_
    · exact Same.of_ext (by ((repeat' (first | exact Below.refl _ _ | refine below_drewN ?_ _ | refine Below.drew ?_ | refine Below.alloc ?_ ?_ _ | refine Below.trans ?_ (Below.mono (by assumption) ?_))); all_goals (first | exact Nat.le_refl _ | exact Below.size (by assumption) | omega | (simp; done) | (simp; omega))))
    · exact Same.of_ext (by ((repeat' (first | exact Below.refl _ _ | refine below_drewN ?_ _ | refine Below.drew ?_ | refine Below.alloc ?_ ?_ _ | refine Below.trans ?_ (Below.mono (by assumption) ?_))); all_goals (first | exact Nat.le_refl _ | exact Below.size (by assumption) | omega | (simp; done) | (simp; omega))))
    rintro e w1 ⟨v1, rfl, hv1, hb1⟩
    have T2 : w1.heap[w.heap.size + 2]? = some (.cells #[.int .i64 rc, .int .i64 rl, .int .i64 rs, .int .i64 re, .int .i64 rn, .int .i64 rx, .bool rt, .slice da od.length dc, .slice ka ok.length kc, .int .i64 os] 39 (0, 0)) := (hb1.block _ (by simp)).trans (heap3_top _ _ _ _)
    have T1 : w1.heap[w.heap.size + 1]? = some (.cells #[.int .i64 0, .int .i64 0, .int .i64 0, .int .i64 0, .int .i64 0, .int .i64 0, .bool false, .slice none 0 0, .slice none 0 0, .int .i64 0] 39 (0, 0)) := (hb1.block _ (by simp)).trans (heap3_mid _ _ _ _)
    have hbw1 : Below w.heap.size w w1 := by ((repeat' (first | exact Below.refl _ _ | refine below_drewN ?_ _ | refine Below.drew ?_ | refine Below.alloc ?_ ?_ _ | refine Below.trans ?_ (Below.mono (by assumption) ?_))); all_goals (first | exact Nat.le_refl _ | exact Below.size (by assumption) | omega | (simp; done) | (simp; omega)))
    have hs1 : w.heap.size + 3 ≤ w1.heap.size := by
      have := hb1.size
      simp at this
      omega
    have hv1' : ObV (fun b => w.heap.size + 3 ≤ b) w1 v1 ⟨od, ok, os⟩ := by
      simpa using hv1
    obtain ⟨dv1, kv1, rfl, hd1, hk1⟩ := hv1'
    obtain ⟨da1, dc1, rfl⟩ := hd1.shape
    obtain ⟨ka1, kc1, rfl⟩ := hk1.shape
    have HD1 := Lib.hid hd1
    have HK1 := Lib.hid hk1
    have HB1 := Lib.hid hbw1
    clear hv1 hb1 hd1 hk1 hbw1 c0 hla
    obtain ⟨x0, f0⟩ := blk_cell (i := 0) T2
    obtain ⟨x1, f1⟩ := blk_cell (i := 1) T2
    obtain ⟨x2, f2⟩ := blk_cell (i := 2) T2
    obtain ⟨x3, f3⟩ := blk_cell (i := 3) T2
    obtain ⟨x4, f4⟩ := blk_cell (i := 4) T2
    obtain ⟨x5, f5⟩ := blk_cell (i := 5) T2
    obtain ⟨x6, f6⟩ := blk_cell (i := 6) T2
    obtain ⟨x7, f7⟩ := blk_cell (i := 7) T2
    obtain ⟨x8, f8⟩ := blk_cell (i := 8) T2
    obtain ⟨x9, f9⟩ := blk_cell (i := 9) T2
    obtain ⟨y0, g0⟩ := blk_cell (i := 0) T1
    obtain ⟨y1, g1⟩ := blk_cell (i := 1) T1
    obtain ⟨y2, g2⟩ := blk_cell (i := 2) T1
    obtain ⟨y3, g3⟩ := blk_cell (i := 3) T1
    obtain ⟨y4, g4⟩ := blk_cell (i := 4) T1
    obtain ⟨y5, g5⟩ := blk_cell (i := 5) T1
    obtain ⟨y6, g6⟩ := blk_cell (i := 6) T1
    obtain ⟨y7, g7⟩ := blk_cell (i := 7) T1
    obtain ⟨y8, g8⟩ := blk_cell (i := 8) T1
    obtain ⟨y9, g9⟩ := blk_cell (i := 9) T1
    simp at x0 x1 x2 x3 x4 x5 x6 x7 x8 x9 y0 y1 y2 y3 y4 y5 y6 y7 y8 y9
    have HT1 := Lib.hid T1
    clear T1 T2
    go_wp2
    go_region
    go_wp2
    have hne : w.heap.size + 1 ≠ w.heap.size + 1 + 1 := by omega
    refine bodyPost_ret (results_tmp_cell_row rfl _ _ (w.heap.size + 1) 39 _ (0, 0) _ rfl (set10_blkd ((Below.heap_setCell _ _ _ _ hne).trans ((Below.heap_setCell _ _ _ _ hne).trans ((Below.heap_setCell _ _ _ _ hne).trans HT1.out)))) Tryd.underlying39 rfl (by kernel_rfl)) rfl ?_
    have hsm : ∀ A' : Nat → Prop, ¬ A' (w.heap.size + 1 + 1) → ∀ x y z, Same A' w1 (((w1.setCell ⟨w.heap.size + 1 + 1, 7, none⟩ x).setCell ⟨w.heap.size + 1 + 1, 8, none⟩ y).setCell ⟨w.heap.size + 1 + 1, 9, none⟩ z) := fun A' h x y z =>
      Same.setCell (a := ⟨w.heap.size + 1 + 1, 9, none⟩) (Same.setCell (a := ⟨w.heap.size + 1 + 1, 8, none⟩) (Same.setCell (a := ⟨w.heap.size + 1 + 1, 7, none⟩) (Same.refl _ _) h x) h y) h z
    have hn1 : ¬ (fun b => w.heap.size + 3 ≤ b) (w.heap.size + 1 + 1) := fun h => by have h : w.heap.size + 3 ≤ w.heap.size + 1 + 1 := h; omega
    have hn2 : ¬ (fun b => w.heap.size + 3 ≤ b) (w.heap.size + 1) := fun h => by have h : w.heap.size + 3 ≤ w.heap.size + 1 := h; omega
    refine ⟨_, rfl, ⟨_, _, rfl, ?_, ?_⟩, ?_⟩
    · exact ((HD1.out.mono (hsm _ hn1 _ _ _)).mono (same10d hn2)).weak fun b _ h => by omega
    · exact ((HK1.out.mono (hsm _ hn1 _ _ _)).mono (same10d hn2)).weak fun b _ h => by omega
    · refine below10d ?_ (by omega)
      exact Below.setCell (p := ⟨w.heap.size + 1 + 1, 9, none⟩) (Below.setCell (p := ⟨w.heap.size + 1 + 1, 8, none⟩) (Below.setCell (p := ⟨w.heap.size + 1 + 1, 7, none⟩) HB1.out (by show _ ≤ w.heap.size + 1 + 1; omega) _) (by show _ ≤ w.heap.size + 1 + 1; omega) _) (by show _ ≤ w.heap.size + 1 + 1; omega) _
end Go.Proofs.YtidikciankcopaaDoor
