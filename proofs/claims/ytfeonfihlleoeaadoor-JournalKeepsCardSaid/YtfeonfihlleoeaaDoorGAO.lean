/- Bytes as a text: the conversion's law. No function is named. Entries: the walks of the reference's May, Clean, Same. Small laws on blocks that a walk keeps in sight: behind calls and allocs. -/
import Derived.Test.YtfeonfihlleoeaaDoorGAB
import Derived.Laws.IdiomStrings
import Derived.Laws.Concat
import Derived.Test.YtfeonfihlleoeaaDoorEb20
namespace Go.Proofs.YtfeonfihlleoeaaDoor
open Go.RowKit Go.WideShapes

theorem conv_bs {A : Nat → Prop} {w : World} {v : Value} {l : List UInt8} (h : RB A w v l) (W : World) (hW : Below w.heap.size w W) : (Go.convert 22 9 v).run Tryd.prog W = .ok (.string ⟨l.toArray⟩) W := by
  obtain ⟨a, c, rfl⟩ := h.shape
  cases a with
  | none =>
    obtain ⟨h0, -, -⟩ := SlA.none_ h
    obtain rfl := List.eq_nil_of_length_eq_zero h0
    exact run_convert_bytes_nil W _ 5 Tryd.underlying22 Tryd.underlying5 _ _ _ Tryd.underlying9
  | some p =>
    refine run_convert_bytes_back W 22 9 5 p c l Tryd.underlying22 Tryd.underlying5 Tryd.underlying9 fun j hj => ?_
    exact cellExt hW ((SlA.src h).2.2 j _ (bv_at hj))
/-- one byte that was just laid -/
theorem conv_one (W : World) (z : Int) (b : UInt8) (h : z = (b.toNat : Int)) :
    (Go.convert 22 9 (.slice (some ⟨W.heap.size, 0, none⟩) 1 1)).run Tryd.prog (W.alloc (.cells #[.int .u8 z] 5)) = .ok (.string ⟨#[b]⟩) (W.alloc (.cells #[.int .u8 z] 5)) := by
  subst h
  refine run_convert_bytes_back _ 22 9 5 ⟨W.heap.size, 0, none⟩ 1 [b] Tryd.underlying22 Tryd.underlying5 Tryd.underlying9 fun j hj => ?_
  have hj0 : j = 0 := by simp at hj; omega
  subst hj0
  have := (blk_cell (i := 0) (heap_alloc_new W (.cells #[.int .u8 (b.toNat : Int)] 5))).1
  exact this
end Go.Proofs.YtfeonfihlleoeaaDoor
namespace Go.Proofs.YtfeonfihlleoeaaDoor
open Go.RowKit Go.WideShapes

/-- a test of a range, as the walk asks it -/
structure InR (lo hi x : Int) (b : Bool) : Prop where
  mk ::
  yes : b = true → lo ≤ x ∧ x ≤ hi
  no : b = false → x < lo ∨ hi < x
theorem inR_cases (lo hi x : Int) : (lo ≤ x ∧ x ≤ hi) ∨ x < lo ∨ (lo ≤ x ∧ hi < x) := by omega
set_option maxRecDepth 100000 in
set_option maxHeartbeats 16000000 in
theorem rmayE_any (e : EnD) (a : Option Addr) (c : Nat) (w : World) : Calls Tryd.prog 12 #[enV e (.slice a e.data.length c)] w (Says (mayE e) w) := by
  obtain ⟨s, o, k, f, n, p, d⟩ := e
  simp only [enV]
  have hme := mayE_wi ⟨s, o, k, f, n, p, d⟩
  simp only at hme
  go_enter Tryd.func12, Tryd.ntmps12
  go_upto_region 1 with fail
  obtain ⟨w0, hw0⟩ : ∃ w0, w0 = w.alloc (.cells #[.int .i64 s, .int .i64 o, .int .i64 k, .int .i64 f, .int .i64 n, .int .i64 p, .slice a d.length c] 24) := ⟨_, rfl⟩
  rw [← hw0]
  have b0 : w0.heap[w.heap.size]? = some (.cells #[.int .i64 s, .int .i64 o, .int .i64 k, .int .i64 f, .int .i64 n, .int .i64 p, .slice a d.length c] 24 (0, 0)) := by rw [hw0]; exact heap_alloc_new _ _
  have hw : Below w.heap.size w w0 := by rw [hw0]; ((repeat' (first | exact Below.refl _ _ | refine below_drewN ?_ _ | refine Below.drew ?_ | refine Below.alloc ?_ ?_ _ | refine Below.trans ?_ (Below.mono (by assumption) ?_))); all_goals (first | exact Nat.le_refl _ | exact Below.size (by assumption) | omega | (simp; done) | (simp; omega)))
  clear hw0
  obtain ⟨y0, e0⟩ := blk_cell (i := 0) (b0)
  obtain ⟨y1, e1⟩ := blk_cell (i := 1) (b0)
  obtain ⟨y2, e2⟩ := blk_cell (i := 2) (b0)
  obtain ⟨y3, e3⟩ := blk_cell (i := 3) (b0)
  obtain ⟨y4, e4⟩ := blk_cell (i := 4) (b0)
  obtain ⟨y5, e5⟩ := blk_cell (i := 5) (b0)
  obtain ⟨y6, e6⟩ := blk_cell (i := 6) (b0)
  simp at y0 y1 y2 y3 y4 y5 y6
  have hbs := (Array.getElem?_eq_some_iff.1 b0).1
  have HB := Lib.hid hw
  have HB0 := Lib.hid b0
  clear hw b0
  have HME := Lib.hid hme
  clear hme
  rcases inR_cases 1 1099511627776 s with ⟨hs1, hs2⟩ | hs | ⟨hs1, hs2⟩
  · rcases inR_cases 0 7 o with ⟨ho1, ho2⟩ | ho | ⟨ho1, ho2⟩
    · have HP : Hid (mayE ⟨s, o, k, f, n, p, d⟩ = kiB ⟨s, o, k, f, n, p, d⟩) := Lib.hid (by rw [HME.out, wiB, decide_eq_true ⟨hs1, hs2⟩, wiB, decide_eq_true ⟨ho1, ho2⟩]; rfl)
      have q1 : ¬ s < 1 := by omega
      have q2 : ¬ 1099511627776 < s := by omega
      have q3 : ¬ o < 0 := by omega
      have q4 : ¬ 7 < o := by omega
      have p1 : decide (s < 1) = false := decide_eq_false q1
      have p2 : decide (1099511627776 < s) = false := decide_eq_false q2
      have p3 : decide (o < 0) = false := decide_eq_false q3
      have p4 : decide (7 < o) = false := decide_eq_false q4
      clear HME hs1 hs2 ho1 ho2
      by_cases k1 : k = 1
      · subst k1
        rcases inR_cases 0 512 f with ⟨f1, f2⟩ | f1 | ⟨f1, f2⟩
        · rcases inR_cases 1 128 d.length with ⟨d1, d2⟩ | d1 | ⟨d1, d2⟩
          · have HM : Hid (kiB ⟨s, o, 1, f, n, p, d⟩ = true) := Lib.hid (by simp [kiB, wiB]; omega)
            have z1 : decide (1 ≤ d.length) = true := decide_eq_true (by omega)
            have z2 : decide (d.length ≤ 128) = true := decide_eq_true (by omega)
            go_wp2
            go_ret
            rw [HP.out, HM.out]
            exact ⟨rfl, HB.out⟩
          · have HM : Hid (kiB ⟨s, o, 1, f, n, p, d⟩ = false) := Lib.hid (by simp [kiB, wiB]; omega)
            have z1 : decide (1 ≤ d.length) = false := decide_eq_false (by omega)
            have z3 : decide ((1 : Int) ≤ d.length) = false := decide_eq_false (by omega)
            clear d1
            go_wp2
            go_ret
            rw [HP.out, HM.out]
            exact ⟨rfl, HB.out⟩
          · have HM : Hid (kiB ⟨s, o, 1, f, n, p, d⟩ = false) := Lib.hid (by simp [kiB, wiB]; omega)
            have z1 : decide (1 ≤ d.length) = true := decide_eq_true (by omega)
            have z2 : decide (d.length ≤ 128) = false := decide_eq_false (by omega)
            have z3 : decide ((d.length : Int) ≤ 128) = false := decide_eq_false (by omega)
            clear d2
            go_wp2
            go_ret
            rw [HP.out, HM.out]
            exact ⟨rfl, HB.out⟩
        · have HM : Hid (kiB ⟨s, o, 1, f, n, p, d⟩ = false) := Lib.hid (by simp [kiB, wiB]; omega)
          have z1 : decide (0 ≤ f) = false := decide_eq_false (by omega)
          clear f1
          go_wp2
          go_ret
          rw [HP.out, HM.out]
          exact ⟨rfl, HB.out⟩
        · have HM : Hid (kiB ⟨s, o, 1, f, n, p, d⟩ = false) := Lib.hid (by simp [kiB, wiB]; omega)
          have z1 : decide (0 ≤ f) = true := decide_eq_true (by omega)
          have z2 : decide (f ≤ 512) = false := decide_eq_false (by omega)
          clear f2
          go_wp2
          go_ret
          rw [HP.out, HM.out]
          exact ⟨rfl, HB.out⟩
      · by_cases k2 : k = 2
        · subst k2
          clear k1
          rcases inR_cases 0 512 f with ⟨f1, f2⟩ | f1 | ⟨f1, f2⟩
          · rcases inR_cases 1 512 n with ⟨d1, d2⟩ | d1 | ⟨d1, d2⟩
            · have HM : Hid (kiB ⟨s, o, 2, f, n, p, d⟩ = true) := Lib.hid (by simp [kiB, wiB]; omega)
              go_wp2
              go_ret
              rw [HP.out, HM.out]
              exact ⟨rfl, HB.out⟩
            · have HM : Hid (kiB ⟨s, o, 2, f, n, p, d⟩ = false) := Lib.hid (by simp [kiB, wiB]; omega)
              have z1 : decide (1 ≤ n) = false := decide_eq_false (by omega)
              clear d1
              go_wp2
              go_ret
              rw [HP.out, HM.out]
              exact ⟨rfl, HB.out⟩
            · have HM : Hid (kiB ⟨s, o, 2, f, n, p, d⟩ = false) := Lib.hid (by simp [kiB, wiB]; omega)
              have z2 : decide (n ≤ 512) = false := decide_eq_false (by omega)
              clear d2
              go_wp2
              go_ret
              rw [HP.out, HM.out]
              exact ⟨rfl, HB.out⟩
          · have HM : Hid (kiB ⟨s, o, 2, f, n, p, d⟩ = false) := Lib.hid (by simp [kiB, wiB]; omega)
            have z1 : decide (0 ≤ f) = false := decide_eq_false (by omega)
            clear f1
            go_wp2
            go_ret
            rw [HP.out, HM.out]
            exact ⟨rfl, HB.out⟩
          · have HM : Hid (kiB ⟨s, o, 2, f, n, p, d⟩ = false) := Lib.hid (by simp [kiB, wiB]; omega)
            have z2 : decide (f ≤ 512) = false := decide_eq_false (by omega)
            clear f2
            go_wp2
            go_ret
            rw [HP.out, HM.out]
            exact ⟨rfl, HB.out⟩
        · by_cases k3 : k = 3
          · subst k3
            clear k1 k2
            rcases inR_cases 0 512 n with ⟨d1, d2⟩ | d1 | ⟨d1, d2⟩
            · have HM : Hid (kiB ⟨s, o, 3, f, n, p, d⟩ = true) := Lib.hid (by simp [kiB, wiB]; omega)
              go_wp2
              go_ret
              rw [HP.out, HM.out]
              exact ⟨rfl, HB.out⟩
            · have HM : Hid (kiB ⟨s, o, 3, f, n, p, d⟩ = false) := Lib.hid (by simp [kiB, wiB]; omega)
              have z1 : decide (0 ≤ n) = false := decide_eq_false (by omega)
              clear d1
              go_wp2
              go_ret
              rw [HP.out, HM.out]
              exact ⟨rfl, HB.out⟩
            · have HM : Hid (kiB ⟨s, o, 3, f, n, p, d⟩ = false) := Lib.hid (by simp [kiB, wiB]; omega)
              have z2 : decide (n ≤ 512) = false := decide_eq_false (by omega)
              clear d2
              go_wp2
              go_ret
              rw [HP.out, HM.out]
              exact ⟨rfl, HB.out⟩
          · by_cases k4 : k = 4
            · subst k4
              have HM : Hid (kiB ⟨s, o, 4, f, n, p, d⟩ = true) := Lib.hid rfl
              clear k1 k2 k3
              go_wp2
              go_ret
              rw [HP.out, HM.out]
              exact ⟨rfl, HB.out⟩
            · have t1 : (k == 1) = false := by simp [k1]
              have t2 : (k == 2) = false := by simp [k2]
              have t3 : (k == 3) = false := by simp [k3]
              have t4 : (k == 4) = false := by simp [k4]
              by_cases k5 : k = 5 ∨ k = 6
              · have t5 : Hid ((k == 5) = true ∨ ((k == 5) = false ∧ (k == 6) = true)) := Lib.hid (by rcases k5 with rfl | rfl <;> simp)
                rcases inR_cases 1 100 p with ⟨d1, d2⟩ | d1 | ⟨d1, d2⟩
                · have HM : Hid (kiB ⟨s, o, k, f, n, p, d⟩ = true) := Lib.hid (by simp [kiB, wiB, k1, k2, k3, k4, k5]; omega)
                  clear k1 k2 k3 k4 k5
                  rcases t5.out with t5 | ⟨t5, t6⟩
                  all_goals
                    go_wp2
                    go_ret
                    rw [HP.out, HM.out]
                    exact ⟨rfl, HB.out⟩
                · have HM : Hid (kiB ⟨s, o, k, f, n, p, d⟩ = false) := Lib.hid (by simp [kiB, wiB, k1, k2, k3, k4, k5]; omega)
                  have z1 : decide (1 ≤ p) = false := decide_eq_false (by omega)
                  clear k1 k2 k3 k4 k5 d1
                  rcases t5.out with t5 | ⟨t5, t6⟩
                  all_goals
                    go_wp2
                    go_ret
                    rw [HP.out, HM.out]
                    exact ⟨rfl, HB.out⟩
                · have HM : Hid (kiB ⟨s, o, k, f, n, p, d⟩ = false) := Lib.hid (by simp [kiB, wiB, k1, k2, k3, k4, k5]; omega)
                  have z2 : decide (p ≤ 100) = false := decide_eq_false (by omega)
                  clear k1 k2 k3 k4 k5 d2
                  rcases t5.out with t5 | ⟨t5, t6⟩
                  all_goals
                    go_wp2
                    go_ret
                    rw [HP.out, HM.out]
                    exact ⟨rfl, HB.out⟩
              · have HM : Hid (kiB ⟨s, o, k, f, n, p, d⟩ = false) := Lib.hid (by simp [kiB, k1, k2, k3, k4, k5])
                have t5 : (k == 5) = false := by simp; exact fun h => k5 (.inl h)
                have t6 : (k == 6) = false := by simp; exact fun h => k5 (.inr h)
                clear k1 k2 k3 k4 k5
                go_wp2
                go_ret
                rw [HP.out, HM.out]
                exact ⟨rfl, HB.out⟩
    · have HP : Hid (mayE ⟨s, o, k, f, n, p, d⟩ = false) := Lib.hid (by rw [HME.out, wiB, wiB, decide_eq_false (show ¬ (0 ≤ o ∧ o ≤ 7) by omega)]; simp)
      have q1 : ¬ s < 1 := by omega
      have q2 : ¬ 1099511627776 < s := by omega
      have p1 : decide (s < 1) = false := decide_eq_false q1
      have p2 : decide (1099511627776 < s) = false := decide_eq_false q2
      have p3 : decide (o < 0) = true := decide_eq_true ho
      go_wp2
      go_ret
      rw [HP.out]
      exact ⟨rfl, HB.out⟩
    · have HP : Hid (mayE ⟨s, o, k, f, n, p, d⟩ = false) := Lib.hid (by rw [HME.out, wiB, wiB, decide_eq_false (show ¬ (0 ≤ o ∧ o ≤ 7) by omega)]; simp)
      have q1 : ¬ s < 1 := by omega
      have q2 : ¬ 1099511627776 < s := by omega
      have q3 : ¬ o < 0 := by omega
      have p1 : decide (s < 1) = false := decide_eq_false q1
      have p2 : decide (1099511627776 < s) = false := decide_eq_false q2
      have p3 : decide (o < 0) = false := decide_eq_false q3
      have p4 : decide (7 < o) = true := decide_eq_true ho2
      go_wp2
      go_ret
      rw [HP.out]
      exact ⟨rfl, HB.out⟩
  · have HP : Hid (mayE ⟨s, o, k, f, n, p, d⟩ = false) := Lib.hid (by rw [HME.out, wiB, wiB, decide_eq_false (show ¬ (1 ≤ s ∧ s ≤ 1099511627776) by omega)]; simp)
    have p1 : decide (s < 1) = true := decide_eq_true hs
    go_wp2
    go_ret
    rw [HP.out]
    exact ⟨rfl, HB.out⟩
  · have HP : Hid (mayE ⟨s, o, k, f, n, p, d⟩ = false) := Lib.hid (by rw [HME.out, wiB, wiB, decide_eq_false (show ¬ (1 ≤ s ∧ s ≤ 1099511627776) by omega)]; simp)
    have q1 : ¬ s < 1 := by omega
    have p1 : decide (s < 1) = false := decide_eq_false q1
    have p2 : decide (1099511627776 < s) = true := decide_eq_true hs2
    go_wp2
    go_ret
    rw [HP.out]
    exact ⟨rfl, HB.out⟩
/-- what the reference's Clean leaves: its data lie where they lay -/
def RClnO (A : Nat → Prop) (e : EnD) (w : World) (x : Ending) (w' : World) : Prop := ∃ a' c', x = .returned (enV (clE e) (.slice a' (clE e).data.length c')) ∧ RB A w' (.slice a' (clE e).data.length c') (clE e).data ∧ Below w.heap.size w w'
set_option maxRecDepth 100000 in
set_option maxHeartbeats 8000000 in
theorem rclnE_any (A : Nat → Prop) (e : EnD) (a : Option Addr) (c : Nat) (w : World) (hv : RB A w (.slice a e.data.length c) e.data) : Calls Tryd.prog 17 #[enV e (.slice a e.data.length c)] w (RClnO A e w) := by
  obtain ⟨s, o, k, f, n, p, d⟩ := e
  simp only [enV] at *
  have HVD := Lib.hid hv
  clear hv
  by_cases k1 : k = 1
  · subst k1
    go_enter Tryd.func17, Tryd.ntmps17
    go_wp2
    refine bodyPost_ret (results_cell_row rfl _ _ (w.heap.size + 1) 24 _ (0, 0) _ rfl (dnew (heap_alloc2_new _ _ _) _) Tryd.underlying24 rfl (by kernel_rfl)) rfl ?_
    exact ⟨a, c, rfl, HVD.out.ext (by ((repeat' (first | exact Below.refl _ _ | refine below_drewN ?_ _ | refine Below.drew ?_ | refine Below.alloc ?_ ?_ _ | refine Below.trans ?_ (Below.mono (by assumption) ?_))); all_goals (first | exact Nat.le_refl _ | exact Below.size (by assumption) | omega | (simp; done) | (simp; omega)))), by ((repeat' (first | exact Below.refl _ _ | refine below_drewN ?_ _ | refine Below.drew ?_ | refine Below.alloc ?_ ?_ _ | refine Below.trans ?_ (Below.mono (by assumption) ?_))); all_goals (first | exact Nat.le_refl _ | exact Below.size (by assumption) | omega | (simp; done) | (simp; omega)))⟩
  · by_cases k2 : k = 2
    · subst k2
      clear k1
      go_enter Tryd.func17, Tryd.ntmps17
      go_wp2
      refine bodyPost_ret (results_cell_row rfl _ _ (w.heap.size + 1) 24 _ (0, 0) _ rfl (dnew (heap_alloc2_new _ _ _) _) Tryd.underlying24 rfl (by kernel_rfl)) rfl ?_
      exact ⟨none, 0, rfl, RB.nil _ _, by ((repeat' (first | exact Below.refl _ _ | refine below_drewN ?_ _ | refine Below.drew ?_ | refine Below.alloc ?_ ?_ _ | refine Below.trans ?_ (Below.mono (by assumption) ?_))); all_goals (first | exact Nat.le_refl _ | exact Below.size (by assumption) | omega | (simp; done) | (simp; omega)))⟩
    · by_cases k3 : k = 3
      · subst k3
        clear k1 k2
        go_enter Tryd.func17, Tryd.ntmps17
        go_wp2
        refine bodyPost_ret (results_cell_row rfl _ _ (w.heap.size + 1) 24 _ (0, 0) _ rfl (dnew (heap_alloc2_new _ _ _) _) Tryd.underlying24 rfl (by kernel_rfl)) rfl ?_
        exact ⟨none, 0, rfl, RB.nil _ _, by ((repeat' (first | exact Below.refl _ _ | refine below_drewN ?_ _ | refine Below.drew ?_ | refine Below.alloc ?_ ?_ _ | refine Below.trans ?_ (Below.mono (by assumption) ?_))); all_goals (first | exact Nat.le_refl _ | exact Below.size (by assumption) | omega | (simp; done) | (simp; omega)))⟩
      · by_cases k5 : k = 5
        · subst k5
          clear k1 k2 k3
          go_enter Tryd.func17, Tryd.ntmps17
          go_wp2
          refine bodyPost_ret (results_cell_row rfl _ _ (w.heap.size + 1) 24 _ (0, 0) _ rfl (dnew (heap_alloc2_new _ _ _) _) Tryd.underlying24 rfl (by kernel_rfl)) rfl ?_
          exact ⟨none, 0, rfl, RB.nil _ _, by ((repeat' (first | exact Below.refl _ _ | refine below_drewN ?_ _ | refine Below.drew ?_ | refine Below.alloc ?_ ?_ _ | refine Below.trans ?_ (Below.mono (by assumption) ?_))); all_goals (first | exact Nat.le_refl _ | exact Below.size (by assumption) | omega | (simp; done) | (simp; omega)))⟩
        · by_cases k6 : k = 6
          · subst k6
            clear k1 k2 k3 k5
            go_enter Tryd.func17, Tryd.ntmps17
            go_wp2
            refine bodyPost_ret (results_cell_row rfl _ _ (w.heap.size + 1) 24 _ (0, 0) _ rfl (dnew (heap_alloc2_new _ _ _) _) Tryd.underlying24 rfl (by kernel_rfl)) rfl ?_
            exact ⟨none, 0, rfl, RB.nil _ _, by ((repeat' (first | exact Below.refl _ _ | refine below_drewN ?_ _ | refine Below.drew ?_ | refine Below.alloc ?_ ?_ _ | refine Below.trans ?_ (Below.mono (by assumption) ?_))); all_goals (first | exact Nat.le_refl _ | exact Below.size (by assumption) | omega | (simp; done) | (simp; omega)))⟩
          · have HCL : Hid (clE ⟨s, o, k, f, n, p, d⟩ = ⟨s, o, k, 0, 0, 0, []⟩) := Lib.hid (by simp [clE, k1, k2, k3, k5, k6])
            have t1 : (k == 1) = false := by simp [k1]
            have t2 : (k == 2) = false := by simp [k2]
            have t3 : (k == 3) = false := by simp [k3]
            have t5 : (k == 5) = false := by simp [k5]
            have t6 : (k == 6) = false := by simp [k6]
            clear k1 k2 k3 k5 k6
            go_enter Tryd.func17, Tryd.ntmps17
            go_wp2
            refine bodyPost_ret (results_cell_row rfl _ _ (w.heap.size + 1) 24 _ (0, 0) _ rfl (dnew (heap_alloc2_new _ _ _) _) Tryd.underlying24 rfl (by kernel_rfl)) rfl ?_
            exact ⟨none, 0, by rw [HCL.out]; rfl, by rw [HCL.out]; exact RB.nil _ _, by ((repeat' (first | exact Below.refl _ _ | refine below_drewN ?_ _ | refine Below.drew ?_ | refine Below.alloc ?_ ?_ _ | refine Below.trans ?_ (Below.mono (by assumption) ?_))); all_goals (first | exact Nat.le_refl _ | exact Below.size (by assumption) | omega | (simp; done) | (simp; omega)))⟩
set_option maxRecDepth 100000 in
set_option maxHeartbeats 4000000 in
theorem rsameE_yes (A B : Nat → Prop) (e : EnD) (a b : Option Addr) (c q : Nat) (w : World) (hv : RB A w (.slice a e.data.length c) e.data) (hu : RB B w (.slice b e.data.length q) e.data) :
    Calls Tryd.prog 16 #[enV e (.slice a e.data.length c), enV e (.slice b e.data.length q)] w (Says true w) := by
  obtain ⟨s, o, k, f, n, p, d⟩ := e
  simp only [enV] at *
  have hc1 := fun W h => conv_bs hv W h
  have hc2 := fun W h => conv_bs hu W h
  have HC1 := Lib.hid hc1
  have HC2 := Lib.hid hc2
  clear hc1 hc2 hv hu
  have hw : Below w.heap.size w ((w.alloc (.cells #[.int .i64 s, .int .i64 o, .int .i64 k, .int .i64 f, .int .i64 n, .int .i64 p, .slice a d.length c] 24)).alloc (.cells #[.int .i64 s, .int .i64 o, .int .i64 k, .int .i64 f, .int .i64 n, .int .i64 p, .slice b d.length q] 24)) := by ((repeat' (first | exact Below.refl _ _ | refine below_drewN ?_ _ | refine Below.drew ?_ | refine Below.alloc ?_ ?_ _ | refine Below.trans ?_ (Below.mono (by assumption) ?_))); all_goals (first | exact Nat.le_refl _ | exact Below.size (by assumption) | omega | (simp; done) | (simp; omega)))
  have r1 := HC1.out _ hw
  have r2 := HC2.out _ hw
  have HW := Lib.hid hw
  clear hw
  go_enter Tryd.func16, Tryd.ntmps16
  go_wp2
  go_ret
  exact ⟨rfl, HW.out⟩
end Go.Proofs.YtfeonfihlleoeaaDoor
namespace Go.Proofs.YtfeonfihlleoeaaDoor
open Go.RowKit Go.WideShapes

theorem OB.shape3 {base : Nat} {w : World} {v : Value} {l : List UInt8} (h : OB base w v l) : ∃ a n c, v = .slice a n c := by
  obtain ⟨a, c, rfl⟩ := h.rb.shape
  exact ⟨_, _, _, rfl⟩
theorem below_call {w W W' : World} (h : Below w.heap.size w W) (hb : Below W.heap.size W W') : Below w.heap.size w W' := h.trans (hb.mono h.size)
theorem below_new {w W : World} (h : Below w.heap.size w W) (o : Obj) : Below w.heap.size w (W.alloc o) := h.alloc h.size o
theorem blkk {W W' : World} {k : Nat} {o : Obj} (hb : Below W.heap.size W W') (h : W.heap[k]? = some o) : W'.heap[k]? = some o := (hb.block k (Array.getElem?_eq_some_iff.1 h).1).trans h
theorem blka {W : World} {k : Nat} {o : Obj} (h : W.heap[k]? = some o) (o' : Obj) : (W.alloc o').heap[k]? = some o := (Below.heap_alloc _ _ _ (Array.getElem?_eq_some_iff.1 h).1).trans h
end Go.Proofs.YtfeonfihlleoeaaDoor
