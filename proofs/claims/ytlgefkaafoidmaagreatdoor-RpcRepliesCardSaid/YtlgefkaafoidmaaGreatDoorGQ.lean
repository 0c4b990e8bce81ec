/- The walks of rpc's cache: an answer that is kept, and Keep. The walk of rpc's Cache.Keep. The laws' example: awake. -/
import Derived.Test.YtlgefkaafoidmaaGreatDoorGH
import Derived.Test.YtlgefkaafoidmaaGreatDoorPkq
import Derived.Test.YtlgefkaafoidmaaGreatDoorUnqB
import Derived.Test.YtlgefkaafoidmaaGreatDoorGK
import Derived.Deep.DeepCutAuto
import Derived.Deep.RegionHeld3
namespace Go.Proofs.YtlgefkaafoidmaaGreatDoor
open Go.RowKit Go.WideShapes

theorem drew_heap (W : World) : W.drew.heap = W.heap := rfl
theorem set10_blkd {w : World} {p : Nat} {t : TypeId} {a b c d e f g h i j a' b' c' d' e' f' g' h' i' j' : Value} (hb : w.heap[p]? = some (.cells #[a, b, c, d, e, f, g, h, i, j] t (0, 0))) :
    ((((((((((w.setCell ⟨p, 0, none⟩ a').setCell ⟨p, 1, none⟩ b').setCell ⟨p, 2, none⟩ c').setCell ⟨p, 3, none⟩ d').setCell ⟨p, 4, none⟩ e').setCell ⟨p, 5, none⟩ f').setCell ⟨p, 6, none⟩ g').setCell ⟨p, 7, none⟩ h').setCell ⟨p, 8, none⟩ i').setCell ⟨p, 9, none⟩ j').drew.heap[p]? = some (.cells #[a', b', c', d', e', f', g', h', i', j'] t (0, 0)) := by
  rw [drew_heap]
  exact set10_blk hb
theorem same10d {A : Nat → Prop} {w : World} {p : Nat} {a' b' c' d' e' f' g' h' i' j' : Value} (h : ¬ A p) : Same A w ((((((((((w.setCell ⟨p, 0, none⟩ a').setCell ⟨p, 1, none⟩ b').setCell ⟨p, 2, none⟩ c').setCell ⟨p, 3, none⟩ d').setCell ⟨p, 4, none⟩ e').setCell ⟨p, 5, none⟩ f').setCell ⟨p, 6, none⟩ g').setCell ⟨p, 7, none⟩ h').setCell ⟨p, 8, none⟩ i').setCell ⟨p, 9, none⟩ j').drew := Same.drew (same10 h)
theorem below10d {B : Nat} {w0 w : World} {p : Nat} {a' b' c' d' e' f' g' h' i' j' : Value} (hb : Below B w0 w) (h : B ≤ p) : Below B w0 ((((((((((w.setCell ⟨p, 0, none⟩ a').setCell ⟨p, 1, none⟩ b').setCell ⟨p, 2, none⟩ c').setCell ⟨p, 3, none⟩ d').setCell ⟨p, 4, none⟩ e').setCell ⟨p, 5, none⟩ f').setCell ⟨p, 6, none⟩ g').setCell ⟨p, 7, none⟩ h').setCell ⟨p, 8, none⟩ i').setCell ⟨p, 9, none⟩ j').drew := Below.drew (below10 hb h)
structure RpD.okl (r : RpD) : Prop where
  obj : r.obj.okl
set_option maxRecDepth 100000 in
set_option maxHeartbeats 4000000 in
theorem look_same (lo : Nat) (w : World) (p i : Nat) (f : Nat → Option RpD) (q : RqD) (r : RpD) (ov : Value) (hov : ov.oneCell' = true) (h : IsC lo w p f) (hi : i < 8) (hq : q.client = i) (hf : f i = some r) (hr : r.life = q.life ∧ r.seq = q.seq) (hok : r.obj.okl) :
    Calls Tryz.prog 23 #[.pointer (some ⟨p, 0, none⟩), rqV q ov] w fun e w' => ∃ v', e = .returned (.tuple #[.int .i64 1, v']) ∧ RpV (fun b => w.heap.size ≤ b) w' v' r ∧ Below w.heap.size w w' := by
  obtain ⟨qc, ql, qs, qk, qi, qw, qn, qo, qops⟩ := q
  have hpl := h.lt
  obtain ⟨cs, h1, h2, h3⟩ := h.ex
  obtain ⟨v, e, hv⟩ := h3 i hi
  rw [hf] at hv
  obtain ⟨rc, rl, rs, re, rn, rx, rt, ⟨od, ok, os⟩⟩ := r
  obtain ⟨dv, kv, rfl, hd, hk⟩ := hv
  obtain ⟨da, dc, rfl⟩ := hd.shape
  obtain ⟨ka, kc, rfl⟩ := hk.shape
  have HD := Lib.hid hd
  have HK := Lib.hid hk
  clear hd hk
  (try simp only [rpV] at *)
  have hta := assR_yes
  have c0 := (blk_cell h2).1.trans e
  (try simp only at hq)
  subst hq
  clear h h3 h2 e
  have hi8 : (i : Int) < 8 := by omega
  have hi0 : (0 : Int) ≤ i := by omega
  have hla : ∀ (o1 o2 o3 : Obj), (((w.alloc o1).alloc o2).alloc o3).drew.cell? ⟨p, i, none⟩ = _ := fun o1 o2 o3 => (World.cell?_alloc_lt _ _ _ (by simp; omega)).trans ((World.cell?_alloc_lt _ _ _ (by simp; omega)).trans ((World.cell?_alloc_lt _ _ _ hpl).trans c0))
  have HW : Hid (decide ((0 : Int) ≤ i ∧ (i : Int) ≤ 7) = true) := by
    show _ = true
    simp; omega
  simp only [rqV]
  (try simp only at hr)
  obtain ⟨rfl, rfl⟩ := hr
  have HOK := Lib.hid hok
  clear hok
  go_enter Tryz.func23, Tryz.ntmps23
  go_wp2_with fail
  refine (within_any _ _ _ _).mono ?_
  rintro e w1 ⟨rfl, rfl⟩
  rw [HW.out]
  go_wp2_with fail
  go_region
  all_goals
    go_wp2_with fail
    refine (objclone_any (fun b => lo ≤ b ∧ b ≠ p) (.agg #[.slice da od.length dc, .slice ka ok.length kc, .int .i64 os]) ⟨od, ok, os⟩ _ ⟨_, _, rfl, HD.out.mono ?_, HK.out.mono ?_⟩ HOK.out).mono ?_
    · exact Same.of_ext (by ((repeat' (first | exact Below.refl _ _ | refine below_drewN ?_ _ | refine Below.drew ?_ | refine Below.alloc ?_ ?_ _ | refine Below.trans ?_ (Below.mono (by assumption) ?_))); all_goals (first | exact Nat.le_refl _ | exact Below.size (by assumption) | omega | (simp; done) | (simp; omega))))
    · exact Same.of_ext (by ((repeat' (first | exact Below.refl _ _ | refine below_drewN ?_ _ | refine Below.drew ?_ | refine Below.alloc ?_ ?_ _ | refine Below.trans ?_ (Below.mono (by assumption) ?_))); all_goals (first | exact Nat.le_refl _ | exact Below.size (by assumption) | omega | (simp; done) | (simp; omega))))
    rintro e w1 ⟨v1, rfl, hv1, hb1⟩
    have T2 : w1.heap[w.heap.size + 2]? = some (.cells #[.int .i64 rc, .int .i64 rl, .int .i64 rs, .int .i64 re, .int .i64 rn, .int .i64 rx, .bool rt, .slice da od.length dc, .slice ka ok.length kc, .int .i64 os] 40 (0, 0)) := (hb1.block _ (by simp)).trans (heap3_top _ _ _ _)
    have T1 : w1.heap[w.heap.size + 1]? = some (.cells #[.int .i64 0, .int .i64 0, .int .i64 0, .int .i64 0, .int .i64 0, .int .i64 0, .bool false, .slice none 0 0, .slice none 0 0, .int .i64 0] 40 (0, 0)) := (hb1.block _ (by simp)).trans (heap3_mid _ _ _ _)
    have hbw1 : Below w.heap.size w w1 := by ((repeat' (first | exact Below.refl _ _ | refine below_drewN ?_ _ | refine Below.drew ?_ | refine Below.alloc ?_ ?_ _ | refine Below.trans ?_ (Below.mono (by assumption) ?_))); all_goals (first | exact Nat.le_refl _ | exact Below.size (by assumption) | omega | (simp; done) | (simp; omega)))
    have hs1 : w.heap.size + 3 ≤ w1.heap.size := by
      have := hb1.size
      simp at this
      omega
    have hv1' : ObV (fun b => w.heap.size + 3 ≤ b) w1 v1 ⟨od, ok, os⟩ := by
      simpa using hv1
    obtain ⟨dv1, kv1, rfl, hd1, hk1⟩ := hv1'
    obtain ⟨da1, dc1, rfl⟩ := hd1.shape
    obtain ⟨ka1, kc1, rfl⟩ := hk1.shape
    have HD1 := Lib.hid hd1
    have HK1 := Lib.hid hk1
    have HB1 := Lib.hid hbw1
    clear hv1 hb1 hd1 hk1 hbw1 c0 hla
    obtain ⟨x0, f0⟩ := blk_cell (i := 0) T2
    obtain ⟨x1, f1⟩ := blk_cell (i := 1) T2
    obtain ⟨x2, f2⟩ := blk_cell (i := 2) T2
    obtain ⟨x3, f3⟩ := blk_cell (i := 3) T2
    obtain ⟨x4, f4⟩ := blk_cell (i := 4) T2
    obtain ⟨x5, f5⟩ := blk_cell (i := 5) T2
    obtain ⟨x6, f6⟩ := blk_cell (i := 6) T2
    obtain ⟨x7, f7⟩ := blk_cell (i := 7) T2
    obtain ⟨x8, f8⟩ := blk_cell (i := 8) T2
    obtain ⟨x9, f9⟩ := blk_cell (i := 9) T2
    obtain ⟨y0, g0⟩ := blk_cell (i := 0) T1
    obtain ⟨y1, g1⟩ := blk_cell (i := 1) T1
    obtain ⟨y2, g2⟩ := blk_cell (i := 2) T1
    obtain ⟨y3, g3⟩ := blk_cell (i := 3) T1
    obtain ⟨y4, g4⟩ := blk_cell (i := 4) T1
    obtain ⟨y5, g5⟩ := blk_cell (i := 5) T1
    obtain ⟨y6, g6⟩ := blk_cell (i := 6) T1
    obtain ⟨y7, g7⟩ := blk_cell (i := 7) T1
    obtain ⟨y8, g8⟩ := blk_cell (i := 8) T1
    obtain ⟨y9, g9⟩ := blk_cell (i := 9) T1
    simp at x0 x1 x2 x3 x4 x5 x6 x7 x8 x9 y0 y1 y2 y3 y4 y5 y6 y7 y8 y9
    have HT1 := Lib.hid T1
    clear T1 T2
    go_wp2
    go_region
    go_wp2
    have hne : w.heap.size + 1 ≠ w.heap.size + 1 + 1 := by omega
    refine bodyPost_ret (results_tmp_cell_row rfl _ _ (w.heap.size + 1) 40 _ (0, 0) _ rfl (set10_blkd ((Below.heap_setCell _ _ _ _ hne).trans ((Below.heap_setCell _ _ _ _ hne).trans ((Below.heap_setCell _ _ _ _ hne).trans HT1.out)))) Tryz.underlying40 rfl (by kernel_rfl)) rfl ?_
    have hsm : ∀ A' : Nat → Prop, ¬ A' (w.heap.size + 1 + 1) → ∀ x y z, Same A' w1 (((w1.setCell ⟨w.heap.size + 1 + 1, 7, none⟩ x).setCell ⟨w.heap.size + 1 + 1, 8, none⟩ y).setCell ⟨w.heap.size + 1 + 1, 9, none⟩ z) := fun A' h x y z =>
      Same.setCell (a := ⟨w.heap.size + 1 + 1, 9, none⟩) (Same.setCell (a := ⟨w.heap.size + 1 + 1, 8, none⟩) (Same.setCell (a := ⟨w.heap.size + 1 + 1, 7, none⟩) (Same.refl _ _) h x) h y) h z
    have hn1 : ¬ (fun b => w.heap.size + 3 ≤ b) (w.heap.size + 1 + 1) := fun h => by have h : w.heap.size + 3 ≤ w.heap.size + 1 + 1 := h; omega
    have hn2 : ¬ (fun b => w.heap.size + 3 ≤ b) (w.heap.size + 1) := fun h => by have h : w.heap.size + 3 ≤ w.heap.size + 1 := h; omega
    refine ⟨_, rfl, ⟨_, _, rfl, ?_, ?_⟩, ?_⟩
    · exact ((HD1.out.mono (hsm _ hn1 _ _ _)).mono (same10d hn2)).weak fun b _ h => by omega
    · exact ((HK1.out.mono (hsm _ hn1 _ _ _)).mono (same10d hn2)).weak fun b _ h => by omega
    · refine below10d ?_ (by omega)
      exact Below.setCell (p := ⟨w.heap.size + 1 + 1, 9, none⟩) (Below.setCell (p := ⟨w.heap.size + 1 + 1, 8, none⟩) (Below.setCell (p := ⟨w.heap.size + 1 + 1, 7, none⟩) HB1.out (by show _ ≤ w.heap.size + 1 + 1; omega) _) (by show _ ≤ w.heap.size + 1 + 1; omega) _) (by show _ ≤ w.heap.size + 1 + 1; omega) _
end Go.Proofs.YtlgefkaafoidmaaGreatDoor
namespace Go.Proofs.YtlgefkaafoidmaaGreatDoor
open Go.RowKit Go.WideShapes

/-- what Look answers -/
def lookD (o : Option RpD) (life seq : Int) : RpD := if lookN o life seq = 1 then o.getD RpD.none else RpD.none
theorem rp0_is (A : Nat → Prop) (w : World) : RpV A w rp0 RpD.none := ⟨_, _, rfl, RB.nil _ _, SlE.nil _ _ _⟩
theorem look_any (lo : Nat) (w : World) (p i : Nat) (f : Nat → Option RpD) (q : RqD) (ov : Value) (hov : ov.oneCell' = true) (h : IsC lo w p f) (hi : i < 8) (hq : q.client = i) (hok : ∀ r, f i = some r → r.obj.okl) :
    Calls Tryz.prog 23 #[.pointer (some ⟨p, 0, none⟩), rqV q ov] w fun e w' => ∃ v', e = .returned (.tuple #[.int .i64 (lookN (f i) q.life q.seq : Nat), v']) ∧ RpV (fun b => w.heap.size ≤ b) w' v' (lookD (f i) q.life q.seq) ∧ Below w.heap.size w w' := by
  cases hf : f i with
  | none =>
    refine (look_none lo w p i f q ov hov h hi hq hf).mono ?_
    rintro e w' ⟨rfl, hb⟩
    exact ⟨_, rfl, rp0_is _ _, hb⟩
  | some r =>
    by_cases h1 : r.life < q.life ∨ (r.life = q.life ∧ r.seq < q.seq)
    · have e1 : lookN (some r) q.life q.seq = 0 := if_pos h1
      refine (look_old lo w p i f q r ov hov h hi hq hf h1).mono ?_
      rintro e w' ⟨rfl, hb⟩
      rw [e1]
      refine ⟨_, rfl, ?_, hb⟩
      unfold lookD
      rw [e1]
      exact rp0_is _ _
    · by_cases h2 : r.life = q.life ∧ r.seq = q.seq
      · have e1 : lookN (some r) q.life q.seq = 1 := (if_neg h1).trans (if_pos h2)
        refine (look_same lo w p i f q r ov hov h hi hq hf h2 (hok r hf)).mono ?_
        rintro e w' ⟨v', rfl, hv, hb⟩
        rw [e1]
        refine ⟨_, rfl, ?_, hb⟩
        unfold lookD
        rw [e1]
        exact hv
      · have e1 : lookN (some r) q.life q.seq = 2 := (if_neg h1).trans (if_neg h2)
        refine (look_new lo w p i f q r ov hov h hi hq hf (by omega)).mono ?_
        rintro e w' ⟨rfl, hb⟩
        rw [e1]
        refine ⟨_, rfl, ?_, hb⟩
        unfold lookD
        rw [e1]
        exact rp0_is _ _
theorem CV.cut {A : Nat → Prop} {w : World} {o : Option RpD} {v : Value} (h : CV A w o v) : CV (fun b => A b ∧ b < w.heap.size) w o v := h.weak fun b hb hA => ⟨hA, hb⟩
/-- where nothing that was there has turned -/
theorem IsC.keep {lo : Nat} {w w' : World} {p : Nat} {f : Nat → Option RpD} (h : IsC lo w p f) (hs : Same (fun b => b < w.heap.size) w w') : IsC lo w' p f := by
  obtain ⟨cs, h1, h2, h3⟩ := h.ex
  refine ⟨⟨cs, h1, (hs.block _ h.lt h.lt).trans h2, fun i hi => ?_⟩, h.lo⟩
  obtain ⟨v, e, hv⟩ := h3 i hi
  exact ⟨v, e, (hv.cut.mono (hs.weak fun b hb => hb.2)).weak fun b _ hb => hb.1⟩
theorem IsC.put {lo : Nat} {w : World} {p i : Nat} {f : Nat → Option RpD} {r : RpD} {dv kv : Value} (h : IsC lo w p f) (hi : i < 8) (hd : RB (fun b => lo ≤ b ∧ b ≠ p) w dv r.obj.data) (hk : SlE Enc.key (fun b => lo ≤ b ∧ b ≠ p) w kv r.obj.keys) :
    IsC lo (w.setCell ⟨p, i, none⟩ (.iface 40 (rpV r dv kv))) p (fun j => if j = i then some r else f j) := by
  obtain ⟨cs, h1, h2, h3⟩ := h.ex
  have hsm : Same (fun b => lo ≤ b ∧ b ≠ p) w (w.setCell ⟨p, i, none⟩ (.iface 40 (rpV r dv kv))) := Same.setCell (a := ⟨p, i, none⟩) (Same.refl _ _) (fun h => h.2 rfl) _
  refine ⟨⟨cs.setIfInBounds i (.iface 40 (rpV r dv kv)), by simpa using h1, set_blk3 h2, fun j hj => ?_⟩, h.lo⟩
  by_cases hji : j = i
  · subst hji
    refine ⟨.iface 40 (rpV r dv kv), by simp [h1, hi], ?_⟩
    rw [if_pos rfl]
    exact ⟨dv, kv, rfl, hd.mono hsm, hk.mono hsm⟩
  · obtain ⟨v, e, hv⟩ := h3 j hj
    refine ⟨v, ?_, ?_⟩
    · rw [Array.getElem?_setIfInBounds_ne (fun e => hji e.symm)]
      exact e
    · rw [if_neg hji]
      exact hv.mono hsm
end Go.Proofs.YtlgefkaafoidmaaGreatDoor
namespace Go.Proofs.YtlgefkaafoidmaaGreatDoor
open Go.RowKit Go.WideShapes
attribute [local go_sem ↓] Go.wp_at_zero Go.wp_at_succ

def qA0 : RqD := ⟨0, 0, 0, 3, 2, 0, 0, TxD.none⟩
def qA : RqD := ⟨3, 1, 1, 3, 2, 0, 0, TxD.none⟩
def pA (k : Int) : RpD := ⟨3, 1, k, 0, 0, 0, false, ObD.none⟩
def qAc (ov : Value) : Array Value := #[.int .i64 3, .int .i64 1, .int .i64 1, .int .i64 3, .int .i64 2, .int .i64 0, .int .i64 0, .string ByteArray.empty, ov]
theorem box10 {W : World} {k : Nat} {t : TypeId} (h : W.heap[k]? = some (.cells #[.int .i64 0, .int .i64 0, .int .i64 0, .int .i64 0, .int .i64 0, .int .i64 0, .bool false, .slice none 0 0, .slice none 0 0, .int .i64 0] t (0, 0))) :
    (W.cell? ⟨k, 0, none⟩ = some (.int .i64 0) ∧ W.frozen? ⟨k, 0, none⟩ = false) ∧ (W.cell? ⟨k, 1, none⟩ = some (.int .i64 0) ∧ W.frozen? ⟨k, 1, none⟩ = false) ∧ (W.cell? ⟨k, 2, none⟩ = some (.int .i64 0) ∧ W.frozen? ⟨k, 2, none⟩ = false) ∧ (W.cell? ⟨k, 3, none⟩ = some (.int .i64 0) ∧ W.frozen? ⟨k, 3, none⟩ = false) ∧ (W.cell? ⟨k, 4, none⟩ = some (.int .i64 0) ∧ W.frozen? ⟨k, 4, none⟩ = false) ∧ (W.cell? ⟨k, 5, none⟩ = some (.int .i64 0) ∧ W.frozen? ⟨k, 5, none⟩ = false) ∧ (W.cell? ⟨k, 6, none⟩ = some (.bool false) ∧ W.frozen? ⟨k, 6, none⟩ = false) ∧ (W.cell? ⟨k, 7, none⟩ = some (.slice none 0 0) ∧ W.frozen? ⟨k, 7, none⟩ = false) ∧ (W.cell? ⟨k, 8, none⟩ = some (.slice none 0 0) ∧ W.frozen? ⟨k, 8, none⟩ = false) ∧ (W.cell? ⟨k, 9, none⟩ = some (.int .i64 0) ∧ W.frozen? ⟨k, 9, none⟩ = false) ∧ k < W.heap.size := by
  refine ⟨?_, ?_, ?_, ?_, ?_, ?_, ?_, ?_, ?_, ?_, (Array.getElem?_eq_some_iff.1 h).1⟩
  all_goals exact blk_cell h
theorem box_mid {wA wB : World} {t : TypeId} (hb : Below (wA.alloc (.cells #[.int .i64 0, .int .i64 0, .int .i64 0, .int .i64 0, .int .i64 0, .int .i64 0, .bool false, .slice none 0 0, .slice none 0 0, .int .i64 0] t)).heap.size (wA.alloc (.cells #[.int .i64 0, .int .i64 0, .int .i64 0, .int .i64 0, .int .i64 0, .int .i64 0, .bool false, .slice none 0 0, .slice none 0 0, .int .i64 0] t)) wB) :
    (wB.cell? ⟨wA.heap.size, 0, none⟩ = some (.int .i64 0) ∧ wB.frozen? ⟨wA.heap.size, 0, none⟩ = false) ∧ (wB.cell? ⟨wA.heap.size, 1, none⟩ = some (.int .i64 0) ∧ wB.frozen? ⟨wA.heap.size, 1, none⟩ = false) ∧ (wB.cell? ⟨wA.heap.size, 2, none⟩ = some (.int .i64 0) ∧ wB.frozen? ⟨wA.heap.size, 2, none⟩ = false) ∧ (wB.cell? ⟨wA.heap.size, 3, none⟩ = some (.int .i64 0) ∧ wB.frozen? ⟨wA.heap.size, 3, none⟩ = false) ∧ (wB.cell? ⟨wA.heap.size, 4, none⟩ = some (.int .i64 0) ∧ wB.frozen? ⟨wA.heap.size, 4, none⟩ = false) ∧ (wB.cell? ⟨wA.heap.size, 5, none⟩ = some (.int .i64 0) ∧ wB.frozen? ⟨wA.heap.size, 5, none⟩ = false) ∧ (wB.cell? ⟨wA.heap.size, 6, none⟩ = some (.bool false) ∧ wB.frozen? ⟨wA.heap.size, 6, none⟩ = false) ∧ (wB.cell? ⟨wA.heap.size, 7, none⟩ = some (.slice none 0 0) ∧ wB.frozen? ⟨wA.heap.size, 7, none⟩ = false) ∧ (wB.cell? ⟨wA.heap.size, 8, none⟩ = some (.slice none 0 0) ∧ wB.frozen? ⟨wA.heap.size, 8, none⟩ = false) ∧ (wB.cell? ⟨wA.heap.size, 9, none⟩ = some (.int .i64 0) ∧ wB.frozen? ⟨wA.heap.size, 9, none⟩ = false) ∧ wA.heap.size < wB.heap.size :=
  box10 ((hb.block wA.heap.size (by simp)).trans (heap_alloc_new wA _))
theorem box_early9 {w9 wA wB : World} {t : TypeId} (hA : Below (w9.alloc (.cells #[.int .i64 0, .int .i64 0, .int .i64 0, .int .i64 0, .int .i64 0, .int .i64 0, .bool false, .slice none 0 0, .slice none 0 0, .int .i64 0] t)).drew.heap.size (w9.alloc (.cells #[.int .i64 0, .int .i64 0, .int .i64 0, .int .i64 0, .int .i64 0, .int .i64 0, .bool false, .slice none 0 0, .slice none 0 0, .int .i64 0] t)).drew wA) (hB : Below wA.heap.size wA wB) :
    (wB.cell? ⟨w9.heap.size, 0, none⟩ = some (.int .i64 0) ∧ wB.frozen? ⟨w9.heap.size, 0, none⟩ = false) ∧ (wB.cell? ⟨w9.heap.size, 1, none⟩ = some (.int .i64 0) ∧ wB.frozen? ⟨w9.heap.size, 1, none⟩ = false) ∧ (wB.cell? ⟨w9.heap.size, 2, none⟩ = some (.int .i64 0) ∧ wB.frozen? ⟨w9.heap.size, 2, none⟩ = false) ∧ (wB.cell? ⟨w9.heap.size, 3, none⟩ = some (.int .i64 0) ∧ wB.frozen? ⟨w9.heap.size, 3, none⟩ = false) ∧ (wB.cell? ⟨w9.heap.size, 4, none⟩ = some (.int .i64 0) ∧ wB.frozen? ⟨w9.heap.size, 4, none⟩ = false) ∧ (wB.cell? ⟨w9.heap.size, 5, none⟩ = some (.int .i64 0) ∧ wB.frozen? ⟨w9.heap.size, 5, none⟩ = false) ∧ (wB.cell? ⟨w9.heap.size, 6, none⟩ = some (.bool false) ∧ wB.frozen? ⟨w9.heap.size, 6, none⟩ = false) ∧ (wB.cell? ⟨w9.heap.size, 7, none⟩ = some (.slice none 0 0) ∧ wB.frozen? ⟨w9.heap.size, 7, none⟩ = false) ∧ (wB.cell? ⟨w9.heap.size, 8, none⟩ = some (.slice none 0 0) ∧ wB.frozen? ⟨w9.heap.size, 8, none⟩ = false) ∧ (wB.cell? ⟨w9.heap.size, 9, none⟩ = some (.int .i64 0) ∧ wB.frozen? ⟨w9.heap.size, 9, none⟩ = false) ∧ w9.heap.size < wB.heap.size := by
  have h1 : (w9.alloc (.cells #[.int .i64 0, .int .i64 0, .int .i64 0, .int .i64 0, .int .i64 0, .int .i64 0, .bool false, .slice none 0 0, .slice none 0 0, .int .i64 0] t)).drew.heap[w9.heap.size]? = some (.cells #[.int .i64 0, .int .i64 0, .int .i64 0, .int .i64 0, .int .i64 0, .int .i64 0, .bool false, .slice none 0 0, .slice none 0 0, .int .i64 0] t (0, 0)) := heap_alloc_new w9 _
  have h2 : w9.heap.size < (w9.alloc (.cells #[.int .i64 0, .int .i64 0, .int .i64 0, .int .i64 0, .int .i64 0, .int .i64 0, .bool false, .slice none 0 0, .slice none 0 0, .int .i64 0] t)).drew.heap.size := (Array.getElem?_eq_some_iff.1 h1).1
  exact box10 ((hB.block _ (Nat.lt_of_lt_of_le h2 hA.size)).trans ((hA.block _ h2).trans h1))
theorem qA_okl : RqD.okl qA := ⟨by simp [qA, TxD.none], by simp [qA, TxD.none]⟩
theorem qA0_okl : RqD.okl qA0 := ⟨by simp [qA0, TxD.none], by simp [qA0, TxD.none]⟩
theorem qA_plain : PlainQ ⟨((3 : Nat) : Int), ((1 : Nat) : Int), ((1 : Nat) : Int), ((3 : Nat) : Int), ((2 : Nat) : Int), ((0 : Nat) : Int), ((0 : Nat) : Int), TxD.none⟩ := ⟨by decide, by decide, by decide, by decide, by decide, by decide, by decide, rfl⟩
/-- the call of Ask -/
theorem ask_A (lo : Nat → Prop) (p : Nat) (w : World) (h : IsS lo w p 3 1 0 0 none) (hLo : ∀ b, w.heap.size ≤ b → lo b) : Calls Tryz.prog 19 #[.pointer (some ⟨p, 0, none⟩), .agg #[.int .i64 0, .int .i64 0, .int .i64 0, .int .i64 3, .int .i64 2, .int .i64 0, .int .i64 0, .string ByteArray.empty, .slice none 0 0], .int .i64 10] w fun e w' =>
    ∃ a c, e = .returned (.tuple #[.agg (qAc (.slice a 0 c)), .bool true]) ∧ IsS lo w' p 3 1 1 10 (some qA) ∧ Fr (fun k => k = p) w w' := by
  refine (ask_idle (fun _ => False) lo w p 3 1 0 10 0 (rqV qA0 (.slice none 0 0)) qA0 h (by omega) ⟨_, rfl, SlE.nil _ _ _⟩ qA0_okl (fun h => h) hLo).mono ?_
  rintro e w' ⟨v, rfl, ⟨ov, rfl, ho⟩, hs, hf⟩
  obtain ⟨a, c, rfl⟩ := ho.shape
  exact ⟨a, c, rfl, hs, hf⟩
theorem due_A1 (lo : Nat → Prop) (p : Nat) (w : World) (h : IsS lo w p 3 1 1 10 (some qA)) : Calls Tryz.prog 20 #[.pointer (some ⟨p, 0, none⟩), .int .i64 13] w fun e w' =>
    e = .returned (.tuple #[.agg rq0, .bool false]) ∧ Below w.heap.size w w' :=
  due_early lo w p 3 1 1 10 13 qA h (by decide) (by decide) (.inr (by decide))
theorem due_A2 (lo : Nat → Prop) (p : Nat) (w : World) (h : IsS lo w p 3 1 1 10 (some qA)) : Calls Tryz.prog 20 #[.pointer (some ⟨p, 0, none⟩), .int .i64 14] w fun e w' =>
    ∃ a c, e = .returned (.tuple #[.agg (qAc (.slice a 0 c)), .bool true]) ∧ IsS lo w' p 3 1 1 14 (some qA) ∧ Fr (fun k => k = p) w w' := by
  refine (due_yes lo w p 3 1 1 10 14 qA h qA_okl (by decide) (by decide) (by decide) (by decide)).mono ?_
  rintro e w' ⟨v, rfl, ⟨ov, rfl, ho⟩, hs, hf⟩
  obtain ⟨a, c, rfl⟩ := ho.shape
  exact ⟨a, c, rfl, hs, hf⟩
theorem pk_A (a : Option Addr) (c : Nat) (w : World) (hT : TabW w) (hg0 : 0 < w.heap.size) : Calls Tryz.prog 9 #[.agg (qAc (.slice a 0 c))] w (NewB w (frm 1 (bodyQ 3 1 1 3 2 0 0 []))) :=
  pkq_plain 3 1 1 3 2 0 0 a c w hT hg0 qA_plain
theorem un_A (A : Nat → Prop) (v : Value) (w : World) (hx : RB A w v (frm 1 (bodyQ 3 1 1 3 2 0 0 []))) (hT : TabW w) (hg0 : 0 < w.heap.size) : Calls Tryz.prog 7 #[v] w fun e w' => e = .returned (.tuple #[.agg (qAc (.slice none 0 0)), .int .i64 0]) ∧ Below w.heap.size w w' := by
  have hb : (bodyQ 3 1 1 3 2 0 0 []).length = 22 := by rw [bodyQ_length]; rfl
  exact unq_plain A v _ 3 1 1 3 2 0 0 w hx (by rw [frm_length, hb]; omega) hT hg0 (next_frm 1 _ (by omega) (by omega)) qA_plain
theorem look_A (lo p : Nat) (a : Option Addr) (c : Nat) (w : World) (h : IsC lo w p (fun _ => none)) : Calls Tryz.prog 23 #[.pointer (some ⟨p, 0, none⟩), .agg (qAc (.slice a 0 c))] w fun e w' => e = .returned (.tuple #[.int .i64 0, rp0]) ∧ Below w.heap.size w w' :=
  look_none lo w p 3 (fun _ => none) qA (.slice a 0 c) rfl h (by omega) rfl rfl
set_option maxRecDepth 100000 in
set_option maxHeartbeats 8000000 in
theorem awake_any (w : World) (hT : TabW w) (hg0 : 0 < w.heap.size) : Calls Tryz.prog 5 #[] w fun e w' => e = .returned (.bool true) ∧ Below w.heap.size w w' := by
  have HT := Lib.hid hT
  have HG := Lib.hid hg0
  clear hT hg0
  go_enter Tryz.func5, Tryz.ntmps5
  go_wp2_with fail
  refine (open_any (fun b => b ≠ w.heap.size) 3 1 _ (fun h => h rfl)).mono ?_
  rintro e w1 ⟨rfl, hs1, hb1⟩
  have H1 := Lib.hid hs1
  have HB1 := Lib.hid hb1
  have hp1 := hs1.lt
  clear hs1 hb1
  go_wp2_with fail
  refine (ask_A (fun b => b ≠ w.heap.size) w.heap.size _ H1.out (fun b hb h => by omega)).mono ?_
  rintro e w2 ⟨a2, c2, rfl, hs2, hf2⟩
  have H2 := Lib.hid hs2
  have hbw2 : Below w.heap.size w w2 := HB1.out.trans (hf2.below HB1.out.size fun j hj e => by have e : j = w.heap.size := e; omega)
  have HW2 := Lib.hid hbw2
  have hp2 := hs2.lt
  clear hs2 hf2 hbw2
  simp only [qAc]
  go_wp2_with fail
  have hA2 : Below w2.heap.size w2 (w2.alloc (.cells (qAc (.slice a2 0 c2)) 26)) := (Below.refl _ _).alloc (Nat.le_refl _) _
  refine (due_A1 (fun b => b ≠ w.heap.size) w.heap.size _ (H2.out.ext hA2)).mono ?_
  rintro e w3 ⟨rfl, hb3⟩
  simp only [World.size_alloc] at hb3
  have Q3 : w3.heap[w2.heap.size]? = some (.cells (qAc (.slice a2 0 c2)) 26 (0, 0)) := (hb3.block _ (by omega)).trans (heap_alloc_new _ _)
  have hA3 : Below w2.heap.size w2 w3 := hA2.trans (hb3.mono (by omega))
  have H3 := Lib.hid (H2.out.ext hA3)
  have HW3 : Hid (Below w.heap.size w w3) := HW2.out.trans (hA3.mono (by omega))
  have HQ3 := Lib.hid Q3
  have hs3 := hA3.size
  have hq3 := (Array.getElem?_eq_some_iff.1 Q3).1
  clear hA2 hb3 Q3 hA3
  simp only [rq0]
  go_wp2_with fail
  have hA4 : Below w3.heap.size w3 (w3.alloc (.cells rq0 26)) := (Below.refl _ _).alloc (Nat.le_refl _) _
  refine (due_A2 (fun b => b ≠ w.heap.size) w.heap.size _ (H3.out.ext hA4)).mono ?_
  rintro e w4 ⟨a4, c4, rfl, hs4, hf4⟩
  have Q4 := (hf4.block w2.heap.size (by rw [World.size_alloc]; omega) (by show ¬ (w2.heap.size = w.heap.size); omega)).trans ((hA4.block _ hq3).trans HQ3.out)
  have H4 := Lib.hid hs4
  have HW4 : Hid (Below w.heap.size w w4) := (HW3.out.trans (hA4.mono HW3.out.size)).trans (hf4.below (by rw [World.size_alloc]; omega) fun j hj e => by have e : j = w.heap.size := e; omega)
  have HQ4 := Lib.hid Q4
  have hp4 := hs4.lt
  have hq4 := (Array.getElem?_eq_some_iff.1 Q4).1
  clear hs4 hf4 Q4 hA4
  simp only [qAc]
  go_wp2_with fail
  have hA5 : Below w4.heap.size w4 (w4.alloc (.cells (qAc (.slice a4 0 c4)) 26)) := (Below.refl _ _).alloc (Nat.le_refl _) _
  refine (hear_no (fun b => b ≠ w.heap.size) _ w.heap.size 3 1 1 14 qA (pA 2) (.slice none 0 0) (.slice none 0 0) (H4.out.ext hA5) (by decide)).mono ?_
  rintro e w5 ⟨rfl, hb5⟩
  simp only [World.size_alloc] at hb5
  have hA6 : Below w4.heap.size w4 w5 := hA5.trans (hb5.mono (by omega))
  have Q5 := (hA6.block _ hq4).trans HQ4.out
  have R5 : w5.heap[w4.heap.size]? = some (.cells (qAc (.slice a4 0 c4)) 26 (0, 0)) := (hb5.block _ (by omega)).trans (heap_alloc_new _ _)
  have H5 := Lib.hid (H4.out.ext hA6)
  have HW5 : Hid (Below w.heap.size w w5) := HW4.out.trans (hA6.mono HW4.out.size)
  have HQ5 := Lib.hid Q5
  have HR5 := Lib.hid R5
  have hq5 := (Array.getElem?_eq_some_iff.1 Q5).1
  have hr5 := (Array.getElem?_eq_some_iff.1 R5).1
  clear hA5 hb5 hA6 Q5 R5
  go_wp2_with fail
  refine (hear_yes (fun b => b ≠ w.heap.size) _ w.heap.size 3 1 1 14 qA (pA 1) (.slice none 0 0) (.slice none 0 0) H5.out (by decide)).mono ?_
  rintro e w6 ⟨rfl, hs6, hf6⟩
  have Q6 := (hf6.block w2.heap.size hq5 (by show ¬ (w2.heap.size = w.heap.size); omega)).trans HQ5.out
  have R6 := (hf6.block w4.heap.size hr5 (by show ¬ (w4.heap.size = w.heap.size); omega)).trans HR5.out
  have H6 := Lib.hid hs6
  have HW6 : Hid (Below w.heap.size w w6) := HW5.out.trans (hf6.below HW5.out.size fun j hj e => by have e : j = w.heap.size := e; omega)
  have HQ6 := Lib.hid Q6
  have HR6 := Lib.hid R6
  have hq6 := (Array.getElem?_eq_some_iff.1 Q6).1
  have hr6 := (Array.getElem?_eq_some_iff.1 R6).1
  obtain ⟨x0, f0⟩ := blk_cell (i := 0) HQ6.out
  obtain ⟨x1, f1⟩ := blk_cell (i := 1) HQ6.out
  obtain ⟨x2, f2⟩ := blk_cell (i := 2) HQ6.out
  obtain ⟨x3, f3⟩ := blk_cell (i := 3) HQ6.out
  obtain ⟨x4, f4⟩ := blk_cell (i := 4) HQ6.out
  obtain ⟨x5, f5⟩ := blk_cell (i := 5) HQ6.out
  obtain ⟨x6, f6⟩ := blk_cell (i := 6) HQ6.out
  obtain ⟨x7, f7⟩ := blk_cell (i := 7) HQ6.out
  obtain ⟨x8, f8⟩ := blk_cell (i := 8) HQ6.out
  simp [qAc] at x0 x1 x2 x3 x4 x5 x6 x7 x8
  clear hs6 hf6 Q6 R6
  go_wp2_with fail
  refine (pk_A a2 c2 _ (tab_below HT.out HW6.out HG.out) (Nat.lt_of_lt_of_le HG.out HW6.out.size)).mono ?_
  rintro e w7 ⟨v7, rfl, ho7, hb7⟩
  obtain ⟨a7, n7, c7, rfl⟩ := ho7.shape3
  have HO7 := Lib.hid ho7
  have HB7 := Lib.hid hb7
  have HW7 : Hid (Below w.heap.size w w7) := HW6.out.trans (hb7.mono HW6.out.size)
  clear ho7 hb7
  go_wp2_with fail
  refine (un_A _ _ _ HO7.out.rb (tab_below HT.out HW7.out HG.out) (Nat.lt_of_lt_of_le HG.out HW7.out.size)).mono ?_
  rintro e w8 ⟨rfl, hb8⟩
  have hA8 : Below w6.heap.size w6 w8 := HB7.out.trans (hb8.mono HB7.out.size)
  have HW8 : Hid (Below w.heap.size w w8) := HW7.out.trans (hb8.mono HW7.out.size)
  have H8 := Lib.hid (H6.out.ext hA8)
  have Q8 := (hA8.block _ hq6).trans HQ6.out
  have R8 := (hA8.block _ hr6).trans HR6.out
  have HQ8 := Lib.hid Q8
  have HR8 := Lib.hid R8
  have hq8 := (Array.getElem?_eq_some_iff.1 Q8).1
  have hr8 := (Array.getElem?_eq_some_iff.1 R8).1
  clear hb8 hA8 Q8 R8 x0 x1 x2 x3 x4 x5 x6 x7 x8 f0 f1 f2 f3 f4 f5 f6 f7 f8
  obtain ⟨x0, f0⟩ := blk_cell (i := 0) HQ8.out
  obtain ⟨x1, f1⟩ := blk_cell (i := 1) HQ8.out
  obtain ⟨x2, f2⟩ := blk_cell (i := 2) HQ8.out
  obtain ⟨x3, f3⟩ := blk_cell (i := 3) HQ8.out
  obtain ⟨x4, f4⟩ := blk_cell (i := 4) HQ8.out
  obtain ⟨x5, f5⟩ := blk_cell (i := 5) HQ8.out
  obtain ⟨x6, f6⟩ := blk_cell (i := 6) HQ8.out
  obtain ⟨x7, f7⟩ := blk_cell (i := 7) HQ8.out
  obtain ⟨x8, f8⟩ := blk_cell (i := 8) HQ8.out
  obtain ⟨y4, g4⟩ := blk_cell (i := 4) HR8.out
  simp [qAc] at x0 x1 x2 x3 x4 x5 x6 x7 x8 y4
  simp only [qAc]
  go_wp2
  obtain ⟨w9, hw9⟩ : ∃ w9, w9 = w8.alloc (.cells (qAc (.slice none 0 0)) 26) := ⟨_, rfl⟩
  simp only [qAc] at hw9
  rw [← hw9]
  have hx10 : ∀ W, Below w9.heap.size w9 W → W.cell? ⟨w8.heap.size, 0, none⟩ = some (.int .i64 3) ∧ W.cell? ⟨w8.heap.size, 3, none⟩ = some (.int .i64 3) := fun W hW => by
    rw [hw9] at hW
    have h := (hW.block w8.heap.size (by simp)).trans (heap_alloc_new w8 _)
    exact ⟨(blk_cell (i := 0) h).1, (blk_cell (i := 3) h).1⟩
  have h89 : Below w8.heap.size w8 w9 := by rw [hw9]; exact (Below.refl _ w8).alloc (Nat.le_refl _) _
  have hx2 : ∀ W, Below w9.heap.size w9 W → Below w9.heap.size w9 W ∧ W.cell? ⟨w2.heap.size, 0, none⟩ = some (.int .i64 3) ∧ W.cell? ⟨w2.heap.size, 1, none⟩ = some (.int .i64 1) ∧ W.cell? ⟨w2.heap.size, 2, none⟩ = some (.int .i64 1) ∧ W.cell? ⟨w2.heap.size, 3, none⟩ = some (.int .i64 3) ∧ W.cell? ⟨w2.heap.size, 4, none⟩ = some (.int .i64 2) ∧ W.cell? ⟨w2.heap.size, 5, none⟩ = some (.int .i64 0) ∧ W.cell? ⟨w2.heap.size, 6, none⟩ = some (.int .i64 0) ∧ W.cell? ⟨w2.heap.size, 7, none⟩ = some (.string ByteArray.empty) ∧ W.cell? ⟨w2.heap.size, 8, none⟩ = some (.slice a2 0 c2) := fun W h => by
    have h' := h89.trans (h.mono h89.size)
    exact ⟨h, cellExt h' x0, cellExt h' x1, cellExt h' x2, cellExt h' x3, cellExt h' x4, cellExt h' x5, cellExt h' x6, cellExt h' x7, cellExt h' x8⟩
  have hs9 : w9.heap.size = w8.heap.size + 1 := by rw [hw9]; simp
  have HX2 := Lib.hid hx2
  have HX10 := Lib.hid hx10
  have H89 := Lib.hid h89
  have HS9 := Lib.hid hs9
  clear hx2 hx10 h89 hs9 hw9
  go_cut [12] (fun s12 wx => s12 = .int .i64 0 ∧ Below w9.heap.size w9 wx)
  case first =>
    go_region_held3 (fun W => Below w9.heap.size w9 W ∧ W.cell? ⟨w2.heap.size, 0, none⟩ = some (.int .i64 3) ∧ W.cell? ⟨w2.heap.size, 1, none⟩ = some (.int .i64 1) ∧ W.cell? ⟨w2.heap.size, 2, none⟩ = some (.int .i64 1) ∧ W.cell? ⟨w2.heap.size, 3, none⟩ = some (.int .i64 3) ∧ W.cell? ⟨w2.heap.size, 4, none⟩ = some (.int .i64 2) ∧ W.cell? ⟨w2.heap.size, 5, none⟩ = some (.int .i64 0) ∧ W.cell? ⟨w2.heap.size, 6, none⟩ = some (.int .i64 0) ∧ W.cell? ⟨w2.heap.size, 7, none⟩ = some (.string ByteArray.empty) ∧ W.cell? ⟨w2.heap.size, 8, none⟩ = some (.slice a2 0 c2))
      ((refine HX2.out _ ?_; first
        | (with_reducible exact Below.drew (Below.refl _ _))
        | (with_reducible exact Below.drew (below_new (Below.refl _ _) _))
        | (rename_i hh _ _; with_reducible exact hh.1)
        | (rename_i hh _ _; with_reducible exact below_call hh.1 hbB)
        | (rename_i hh _ _; with_reducible exact below_call hh.1 hbA)
        | (rename_i hh _ _; with_reducible exact below_new hh.1 _)
        | (rename_i hh _ _; with_reducible refine below10 hh.1 ?_; first | exact Nat.le_refl _ | omega)
        | (rename_i hh _ _; with_reducible refine Below.drew (below10 hh.1 ?_); first | exact Nat.le_refl _ | omega)))
      (first
      | (go_at_call 22; refine (cache_new _).mono ?_; rintro e wA ⟨rfl, hcA, hbA⟩; have hsA := hbA.size; simp only [World.drew, World.size_alloc] at hsA hcA)
      | (go_at_call 23; refine (look_A _ _ a2 c2 _ (hcA.ext (by ((repeat' (first | exact Below.refl _ _ | refine below_drewN ?_ _ | refine Below.drew ?_ | refine Below.alloc ?_ ?_ _ | refine Below.setCell ?_ ?_ _ | refine Below.trans ?_ (Below.mono (by assumption) ?_))); all_goals (first | exact Nat.le_refl _ | exact Below.size (by assumption) | omega | (simp; done) | (simp; omega)))))).mono ?_; rintro e wB ⟨rfl, hbB⟩; have hsB := hbB.size; (first | (have hbx := box_mid hbB; obtain ⟨⟨b0, e0⟩, ⟨b1, e1⟩, ⟨b2, e2⟩, ⟨b3, e3⟩, ⟨b4, e4⟩, ⟨b5, e5⟩, ⟨b6, e6⟩, ⟨b7, e7⟩, ⟨b8, e8⟩, ⟨b9, e9⟩, l10⟩ := hbx) | (have hbx := box_early9 hbA hbB; obtain ⟨⟨b0, e0⟩, ⟨b1, e1⟩, ⟨b2, e2⟩, ⟨b3, e3⟩, ⟨b4, e4⟩, ⟨b5, e5⟩, ⟨b6, e6⟩, ⟨b7, e7⟩, ⟨b8, e8⟩, ⟨b9, e9⟩, l10⟩ := hbx) | skip); simp only [rp0, rpV, RpD.none, ObD.none]))
    all_goals
      go_wp2_with fail
      go_meet
      refine ⟨rfl, ?_⟩
      rename_i hh
      with_reducible exact hh.1
  case rest =>
    obtain ⟨rfl, hz⟩ := hcut
    obtain ⟨t0, t3⟩ := HX10.out _ hz
    have hA9 : Below w8.heap.size w8 wc := H89.out.trans (hz.mono H89.out.size)
    have z2 := cellExt hA9 x2
    have z4 := cellExt hA9 y4
    have H9 := Lib.hid (H8.out.ext hA9)
    have HW9 : Hid (Below w.heap.size w wc) := HW8.out.trans (hA9.mono HW8.out.size)
    clear hz hA9 x0 x1 x2 x3 x4 x5 x6 x7 x8 f0 f1 f2 f3 f4 f5 f6 f7 f8 y4 g4
    go_wp2_with fail
    refine (busy_any (fun b => b ≠ w.heap.size) _ w.heap.size 3 1 1 14 none H9.out).mono ?_
    rintro e w10 ⟨rfl, rfl⟩
    go_wp2
    go_ret
    exact ⟨rfl, HW9.out⟩
end Go.Proofs.YtlgefkaafoidmaaGreatDoor
