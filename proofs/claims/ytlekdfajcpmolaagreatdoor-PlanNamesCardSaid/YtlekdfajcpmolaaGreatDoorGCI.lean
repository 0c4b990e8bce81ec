/- The walks of head.sized, terrazzoref06.sized, head.Newest, terrazzoref06.Newest. The walks of head.Check, terrazzoref06.May. -/
import Derived.Test.YtlekdfajcpmolaaGreatDoorGAF
import Derived.Test.YtlekdfajcpmolaaGreatDoorOt19
import Derived.Test.YtlekdfajcpmolaaGreatDoorGCA
import Derived.Test.YtlekdfajcpmolaaGreatDoorGCD
import Derived.WalkMore
import Derived.ScopeJumps
namespace Go.Proofs.YtlekdfajcpmolaaGreatDoor
open Go.RowKit Go.WideShapes

abbrev sizedD (u c o size : Int) (m : List Int) : Bool := sizedH ObNum u c o size m
abbrev snapsD (u c o last a : Int) (l : List SnD) : Bool := snapsH ObNum u c o last a l
theorem sizedD_no {u c o size : Int} {m : List Int} (h : size < 0 ∨ 512 < size ∨ mMay m = false) : sizedD u c o size m = false := by
  unfold sizedD sizedH
  rcases h with h | h | h
  · rw [decide_eq_false (show ¬ 0 ≤ size by omega)]; rfl
  · rw [decide_eq_false (show ¬ size ≤ 512 by omega), Bool.and_false]; rfl
  · rw [h, Bool.and_false]; rfl
theorem sizedD_yes {u c o size : Int} {m : List Int} (h1 : 0 ≤ size) (h2 : size ≤ 512) (h3 : mMay m = true) : sizedD u c o size m = decide ((m.length : Int) ≤ ObNum u c o size) := by
  unfold sizedD sizedH
  rw [decide_eq_true h1, decide_eq_true h2, h3]
  rfl
set_option maxRecDepth 100000 in
set_option maxHeartbeats 1600000 in
theorem psized_any (A : Nat → Prop) (u c o size : Int) (a : Option Addr) (q : Nat) (m : List Int) (w : World) (hv : IntsA A w (.slice a m.length q) m) (hl : m.length ≤ 1000000) :
    Calls Tryz.prog 94 #[lay u c o, .int .i64 size, .slice a m.length q] w fun e w' => e = .returned (.bool (sizedD u c o size m)) ∧ Below w.heap.size w w' := by
  by_cases h0 : size < 0
  · have HX := Lib.hid (sizedD_no (u := u) (c := c) (o := o) (m := m) (.inl h0))
    clear hv
    go_enter Tryz.func94, Tryz.ntmps94
    go_wp2
    go_ret
    exact ⟨(by first | (rw [HX.out]; done) | (rw [HX.out]; rfl)), by ((repeat' (first | exact Below.refl _ _ | refine below_drewN ?_ _ | refine Below.drew ?_ | refine Below.alloc ?_ ?_ _ | refine Below.trans ?_ (Below.mono (by assumption) ?_))); all_goals (first | exact Nat.le_refl _ | exact Below.size (by assumption) | omega | (simp; done) | (simp; omega)))⟩
  have h0' : 0 ≤ size := by omega
  clear h0
  by_cases h5 : 512 < size
  · have HX := Lib.hid (sizedD_no (u := u) (c := c) (o := o) (m := m) (.inr (.inl h5)))
    clear hv
    go_enter Tryz.func94, Tryz.ntmps94
    go_wp2
    go_ret
    exact ⟨(by first | (rw [HX.out]; done) | (rw [HX.out]; rfl)), by ((repeat' (first | exact Below.refl _ _ | refine below_drewN ?_ _ | refine Below.drew ?_ | refine Below.alloc ?_ ?_ _ | refine Below.trans ?_ (Below.mono (by assumption) ?_))); all_goals (first | exact Nat.le_refl _ | exact Below.size (by assumption) | omega | (simp; done) | (simp; omega)))⟩
  have h5' : size ≤ 512 := by omega
  clear h5
  cases hm : mMay m
  · have HX := Lib.hid (sizedD_no (u := u) (c := c) (o := o) (size := size) (.inr (.inr hm)))
    have HM := Lib.hid hm
    have HC := Lib.hid (pcheck_any A a q m _ (SlE.ext hv ((Below.refl _ w).alloc (Nat.le_refl _) (.cells #[.int .i64 u, .int .i64 c, .int .i64 o] 23))) hl)
    clear hm hv
    go_enter Tryz.func94, Tryz.ntmps94
    go_wp2_with fail
    refine HC.out.mono ?_
    rw [HM.out]
    rintro e w1 ⟨rfl, rfl⟩
    go_wp2
    go_ret
    exact ⟨(by first | (rw [HX.out]; done) | (rw [HX.out]; rfl)), by ((repeat' (first | exact Below.refl _ _ | refine below_drewN ?_ _ | refine Below.drew ?_ | refine Below.alloc ?_ ?_ _ | refine Below.trans ?_ (Below.mono (by assumption) ?_))); all_goals (first | exact Nat.le_refl _ | exact Below.size (by assumption) | omega | (simp; done) | (simp; omega)))⟩
  · have HX := Lib.hid (sizedD_yes (u := u) (c := c) (o := o) h0' h5' hm)
    have HM := Lib.hid hm
    have HC := Lib.hid (pcheck_any A a q m _ (SlE.ext hv ((Below.refl _ w).alloc (Nat.le_refl _) (.cells #[.int .i64 u, .int .i64 c, .int .i64 o] 23))) hl)
    clear hm hv
    obtain ⟨K, hK⟩ : ∃ K, ObNum u c o size = K := ⟨_, rfl⟩
    have HO : Hid (∀ W, Calls Tryz.prog 156 #[lay u c o, .int .i64 size] W fun e w' => e = .returned (.int .i64 K) ∧ Below W.heap.size W w') := Lib.hid fun W => hK ▸ objects_any u c o size W
    rw [hK] at HX
    clear hK
    go_enter Tryz.func94, Tryz.ntmps94
    go_wp2_with fail
    refine HC.out.mono ?_
    rw [HM.out]
    rintro e w1 ⟨rfl, rfl⟩
    go_wp2_with fail
    refine (HO.out _).mono ?_
    rintro e w1 ⟨rfl, hb⟩
    have HB := Lib.hid hb
    clear hb
    go_wp2
    go_ret
    exact ⟨(by first | (rw [HX.out]; done) | (rw [HX.out]; rfl)), (by ((repeat' (first | exact Below.refl _ _ | refine below_drewN ?_ _ | refine Below.drew ?_ | refine Below.alloc ?_ ?_ _ | refine Below.trans ?_ (Below.mono (by assumption) ?_))); all_goals (first | exact Nat.le_refl _ | exact Below.size (by assumption) | omega | (simp; done) | (simp; omega))) : Below w.heap.size w _).trans (HB.out.mono (by simp))⟩
set_option maxRecDepth 100000 in
set_option maxHeartbeats 1600000 in
theorem rsized_any (A : Nat → Prop) (u c o size : Int) (a : Option Addr) (q : Nat) (m : List Int) (w : World) (hv : IntsA A w (.slice a m.length q) m) (hl : m.length ≤ 1000000) :
    Calls Tryz.prog 63 #[lay u c o, .int .i64 size, .slice a m.length q] w fun e w' => e = .returned (.bool (sizedD u c o size m)) ∧ Below w.heap.size w w' := by
  have HC := Lib.hid (rmapMay_any A a q m _ (SlE.ext hv ((Below.refl _ w).alloc (Nat.le_refl _) (.cells #[.int .i64 u, .int .i64 c, .int .i64 o] 23))) hl)
  clear hv
  by_cases h0 : size < 0
  · have HX := Lib.hid (sizedD_no (u := u) (c := c) (o := o) (m := m) (.inl h0))
    go_enter Tryz.func63, Tryz.ntmps63
    go_wp2_with fail
    refine HC.out.mono ?_
    rintro e w1 ⟨rfl, rfl⟩
    go_wp2
    go_ret
    exact ⟨(by first | (rw [HX.out]; done) | (rw [HX.out]; rfl)), by ((repeat' (first | exact Below.refl _ _ | refine below_drewN ?_ _ | refine Below.drew ?_ | refine Below.alloc ?_ ?_ _ | refine Below.trans ?_ (Below.mono (by assumption) ?_))); all_goals (first | exact Nat.le_refl _ | exact Below.size (by assumption) | omega | (simp; done) | (simp; omega)))⟩
  have h0' : 0 ≤ size := by omega
  clear h0
  by_cases h5 : 512 < size
  · have HX := Lib.hid (sizedD_no (u := u) (c := c) (o := o) (m := m) (.inr (.inl h5)))
    go_enter Tryz.func63, Tryz.ntmps63
    go_wp2_with fail
    refine HC.out.mono ?_
    rintro e w1 ⟨rfl, rfl⟩
    go_wp2
    go_ret
    exact ⟨(by first | (rw [HX.out]; done) | (rw [HX.out]; rfl)), by ((repeat' (first | exact Below.refl _ _ | refine below_drewN ?_ _ | refine Below.drew ?_ | refine Below.alloc ?_ ?_ _ | refine Below.trans ?_ (Below.mono (by assumption) ?_))); all_goals (first | exact Nat.le_refl _ | exact Below.size (by assumption) | omega | (simp; done) | (simp; omega)))⟩
  have h5' : size ≤ 512 := by omega
  clear h5
  cases hm : mMay m
  · have HX := Lib.hid (sizedD_no (u := u) (c := c) (o := o) (size := size) (.inr (.inr hm)))
    have HM := Lib.hid hm
    clear hm
    go_enter Tryz.func63, Tryz.ntmps63
    go_wp2_with fail
    refine HC.out.mono ?_
    rw [HM.out]
    rintro e w1 ⟨rfl, rfl⟩
    go_wp2
    go_ret
    exact ⟨(by first | (rw [HX.out]; done) | (rw [HX.out]; rfl)), by ((repeat' (first | exact Below.refl _ _ | refine below_drewN ?_ _ | refine Below.drew ?_ | refine Below.alloc ?_ ?_ _ | refine Below.trans ?_ (Below.mono (by assumption) ?_))); all_goals (first | exact Nat.le_refl _ | exact Below.size (by assumption) | omega | (simp; done) | (simp; omega)))⟩
  · have HX := Lib.hid (sizedD_yes (u := u) (c := c) (o := o) h0' h5' hm)
    have HM := Lib.hid hm
    clear hm
    obtain ⟨K, hK⟩ : ∃ K, ObNum u c o size = K := ⟨_, rfl⟩
    have HO : Hid (∀ W, Calls Tryz.prog 124 #[lay u c o, .int .i64 size] W fun e w' => e = .returned (.int .i64 K) ∧ Below W.heap.size W w') := Lib.hid fun W => hK ▸ refObjects_any u c o size W
    rw [hK] at HX
    clear hK
    go_enter Tryz.func63, Tryz.ntmps63
    go_wp2_with fail
    refine HC.out.mono ?_
    rw [HM.out]
    rintro e w1 ⟨rfl, rfl⟩
    go_wp2_with fail
    refine (HO.out _).mono ?_
    rintro e w1 ⟨rfl, hb⟩
    have HB := Lib.hid hb
    clear hb
    go_wp2
    go_ret
    exact ⟨(by first | (rw [HX.out]; done) | (rw [HX.out]; rfl)), (by ((repeat' (first | exact Below.refl _ _ | refine below_drewN ?_ _ | refine Below.drew ?_ | refine Below.alloc ?_ ?_ _ | refine Below.trans ?_ (Below.mono (by assumption) ?_))); all_goals (first | exact Nat.le_refl _ | exact Below.size (by assumption) | omega | (simp; done) | (simp; omega))) : Below w.heap.size w _).trans (HB.out.mono (by simp))⟩
theorem newest_nil {h : HeD} (e : h.snaps = []) : newestH h = 0 := by unfold newestH; rw [e]; rfl
theorem newest_at {h : HeD} (e : 0 < h.snaps.length) : newestH h = (h.snaps[h.snaps.length - 1]'(by omega)).id := by
  unfold newestH
  rw [List.getLast?_eq_getElem?, List.getElem?_eq_getElem (by omega)]
set_option maxRecDepth 100000 in
theorem pnewest_any (A : Nat → Prop) (h : HeD) (v : Value) (w : World) (hv : HeV A w v h) (hl : h.snaps.length ≤ 100000) : Calls Tryz.prog 96 #[v] w fun e w' => e = .returned (.int .i64 (newestH h)) ∧ Below w.heap.size w w' := by
  obtain ⟨mv, sv, rfl, h1, h2⟩ := hv
  obtain ⟨ma, mc, rfl⟩ := h1.shape
  obtain ⟨sa, sc, rfl⟩ := h2.shape
  unfold hdV
  by_cases h0 : h.snaps.length = 0
  · have HX := Lib.hid (newest_nil (List.eq_nil_of_length_eq_zero h0))
    have hb : ((h.snaps.length : Int) == 0) = true := by simp [h0]
    clear h0 h1 h2
    go_enter Tryz.func96, Tryz.ntmps96
    go_wp2
    go_ret
    exact ⟨(by first | (rw [HX.out]; done) | (rw [HX.out]; rfl)), by ((repeat' (first | exact Below.refl _ _ | refine below_drewN ?_ _ | refine Below.drew ?_ | refine Below.alloc ?_ ?_ _ | refine Below.trans ?_ (Below.mono (by assumption) ?_))); all_goals (first | exact Nat.le_refl _ | exact Below.size (by assumption) | omega | (simp; done) | (simp; omega)))⟩
  · have HX := Lib.hid (newest_at (h := h) (by omega))
    obtain ⟨b, off, v, rfl, hb, -, c0, -⟩ := Snaps.at (SlE.ext h2 ((Below.refl _ w).alloc (Nat.le_refl _) (.cells #[.int .i64 h.u, .int .i64 h.c, .int .i64 h.o, .int .i64 h.size, .slice ma h.map.length mc, .slice sa h.snaps.length sc, .int .i64 h.last, .int .i64 h.seq] 27))) (i := h.snaps.length - 1) (by omega)
    have hbb : ((h.snaps.length : Int) == 0) = false := beq_eq_false_iff_ne.2 (by omega)
    have hw1 : IntKind.i64.wrap ((h.snaps.length : Int) - 1) = ((h.snaps.length - 1 : Nat) : Int) := by rw [IntKind.wrap_i64]; omega
    have hw2 : (h.snaps.length : Int) - 1 = ((h.snaps.length - 1 : Nat) : Int) := by omega
    have hj2 : ((h.snaps.length - 1 : Nat) : Int) < 100000 := by omega
    have hj1 : ((h.snaps.length - 1 : Nat) : Int) < h.snaps.length := by omega
    generalize (h.snaps[h.snaps.length - 1]'(by omega)).id = x at *
    generalize h.snaps.length - 1 = j at *
    clear h0 h1 h2
    go_enter Tryz.func96, Tryz.ntmps96
    go_wp2
    go_ret
    exact ⟨(by first | (rw [HX.out]; done) | (rw [HX.out]; rfl)), by ((repeat' (first | exact Below.refl _ _ | refine below_drewN ?_ _ | refine Below.drew ?_ | refine Below.alloc ?_ ?_ _ | refine Below.trans ?_ (Below.mono (by assumption) ?_))); all_goals (first | exact Nat.le_refl _ | exact Below.size (by assumption) | omega | (simp; done) | (simp; omega)))⟩
end Go.Proofs.YtlekdfajcpmolaaGreatDoor
namespace Go.Proofs.YtlekdfajcpmolaaGreatDoor
open Go.RowKit Go.WideShapes

def mayD (h : HeD) : Bool := mayH okB ObNum h
def chkH (h : HeD) : Int := if mayD h then 0 else 60
theorem chkH_no {h : HeD} (e : mayD h = false) : chkH h = 60 := by unfold chkH; rw [e]; rfl
theorem chkH_yes {h : HeD} (e : mayD h = true) : chkH h = 0 := by unfold chkH; rw [e]; rfl
theorem mayD_no {h : HeD} (e : okB h.u h.c h.o = false ∨ sizedD h.u h.c h.o h.size h.map = false ∨ 4 < h.snaps.length ∨ h.last < 0 ∨ 100 < h.last ∨ h.seq < 0 ∨ 1099511627776 < h.seq) : mayD h = false := by
  cases hm : mayD h with
  | false => rfl
  | true =>
    unfold mayD mayH at hm
    simp only [Bool.and_eq_true, decide_eq_true_eq] at hm
    obtain ⟨⟨⟨⟨⟨h1, h2⟩, h3⟩, h4⟩, h5⟩, h6⟩ := hm
    rcases e with e | e | e
    · rw [e] at h1; cases h1
    · unfold sizedD at e; rw [e] at h2; cases h2
    · omega
theorem mayD_is {h : HeD} (h1 : okB h.u h.c h.o = true) (h2 : sizedD h.u h.c h.o h.size h.map = true) (h3 : h.snaps.length ≤ 4) (h4 : 0 ≤ h.last ∧ h.last ≤ 100) (h5 : 0 ≤ h.seq ∧ h.seq ≤ 1099511627776) : mayD h = snapsD h.u h.c h.o h.last 0 h.snaps := by
  unfold mayD mayH
  rw [h1, decide_eq_true h3, decide_eq_true h4, decide_eq_true h5]
  unfold sizedD at h2
  rw [h2]
  simp
theorem snapsD_at (u c o last a : Int) {l : List SnD} {k : Nat} (hk : k < l.length) : snapsD u c o last a (l.drop k) = (decide (a < l[k].id) && decide (l[k].id ≤ last) && sizedD u c o l[k].size l[k].map && snapsD u c o last l[k].id (l.drop (k + 1))) := by
  rw [List.drop_eq_getElem_cons hk]
  rfl
theorem snapsD_end (u c o last a : Int) {l : List SnD} {k : Nat} (hk : l.length ≤ k) : snapsD u c o last a (l.drop k) = true := by
  rw [List.drop_of_length_le hk]
  rfl
theorem anB {a b c d : Bool} (h : a = false ∨ b = false ∨ c = false) : (a && b && c && d) = false := by rcases h with rfl | rfl | rfl <;> simp
set_option maxRecDepth 100000 in
set_option maxHeartbeats 4000000 in
theorem hcheck_any (A : Nat → Prop) (h : HeD) (v : Value) (w : World) (hv : HeV A w v h) (hl : h.okl) : Calls Tryz.prog 43 #[v] w fun e w' => e = .returned (.int .i64 (chkH h)) ∧ Below w.heap.size w w' := by
  obtain ⟨mv, sv, rfl, h1, h2⟩ := hv
  obtain ⟨ma, mc, rfl⟩ := h1.shape
  obtain ⟨sa, sc, rfl⟩ := h2.shape
  have hm := hl.map
  have hsn := hl.snaps
  have HMS := Lib.hid hl.maps
  obtain ⟨u, c, o, sz, m, ss, la, sq⟩ := h
  simp only at *
  unfold hdV
  simp only
  obtain ⟨W1, hW1⟩ : ∃ W1, W1 = w.alloc (.cells #[.int .i64 u, .int .i64 c, .int .i64 o, .int .i64 sz, .slice ma m.length mc, .slice sa ss.length sc, .int .i64 la, .int .i64 sq] 27) := ⟨_, rfl⟩
  have hb1 : Below w.heap.size w W1 := by rw [hW1]; exact (Below.refl _ w).alloc (Nat.le_refl _) _
  have HB := Lib.hid (by rw [hW1]; exact heap_alloc_new w _ : W1.heap[w.heap.size]? = some (.cells #[.int .i64 u, .int .i64 c, .int .i64 o, .int .i64 sz, .slice ma m.length mc, .slice sa ss.length sc, .int .i64 la, .int .i64 sq] 27 (0, 0)))
  have HM := Lib.hid (SlE.ext h1 hb1)
  have HS := Lib.hid (SlE.ext h2 hb1)
  have HB1 := Lib.hid hb1
  have HW1 := Lib.hid hW1
  have hs1 : w.heap.size < W1.heap.size := by rw [hW1]; simp
  clear h1 h2 hb1 hW1 hl
  go_enter Tryz.func43, Tryz.ntmps43
  go_wp2
  rw [← HW1.out]
  obtain ⟨x0, -⟩ := blk_cell (i := 0) HB.out
  obtain ⟨x1, -⟩ := blk_cell (i := 1) HB.out
  obtain ⟨x2, -⟩ := blk_cell (i := 2) HB.out
  obtain ⟨x3, -⟩ := blk_cell (i := 3) HB.out
  obtain ⟨x4, -⟩ := blk_cell (i := 4) HB.out
  obtain ⟨x5, -⟩ := blk_cell (i := 5) HB.out
  obtain ⟨x6, -⟩ := blk_cell (i := 6) HB.out
  obtain ⟨x7, -⟩ := blk_cell (i := 7) HB.out
  simp at x0 x1 x2 x3 x4 x5 x6 x7
  refine wp_scope_jumps 0 (fun a' w' => a'.tmps.size = 75 ∧ a'.defers = [] ∧ Below w.heap.size w w' ∧ mayD ⟨u, c, o, sz, m, ss, la, sq⟩ = false) (fun _ _ => 0) rfl ?_ ?_
  · cases hok : okB u c o
    · have HX := Lib.hid (mayD_no (h := ⟨u, c, o, sz, m, ss, la, sq⟩) (.inl hok))
      have HC := Lib.hid (check_no u c o W1 hok)
      clear hok
      go_wp2_with fail
      refine HC.out.mono ?_
      rintro e w2 ⟨rfl, hb2⟩
      have HB2 := Lib.hid hb2
      clear hb2
      go_wp2
      go_step3
      exact ⟨rfl, rfl, rfl, HB1.out.trans (HB2.out.mono (by omega)), HX.out⟩
    · have HC := Lib.hid (check_ok u c o W1 hok)
      cases hsz : sizedD u c o sz m
      · have HX := Lib.hid (mayD_no (h := ⟨u, c, o, sz, m, ss, la, sq⟩) (.inr (.inl hsz)))
        have HZ := Lib.hid hsz
        clear hok hsz
        go_wp2_with fail
        refine HC.out.mono ?_
        rintro e w2 ⟨rfl, hb2⟩
        replace x0 := cellExt hb2 x0
        replace x1 := cellExt hb2 x1
        replace x2 := cellExt hb2 x2
        replace x3 := cellExt hb2 x3
        replace x4 := cellExt hb2 x4
        replace x5 := cellExt hb2 x5
        replace x6 := cellExt hb2 x6
        replace x7 := cellExt hb2 x7
        have HB2 := Lib.hid hb2
        clear hb2
        go_wp2_with fail
        refine (psized_any A u c o sz ma mc m _ (SlE.ext HM.out HB2.out) (by omega)).mono ?_
        rw [HZ.out]
        rintro e w3 ⟨rfl, hb3⟩
        have HB3 := Lib.hid (HB2.out.trans (hb3.mono HB2.out.size))
        clear hb3
        go_wp2
        go_step3
        exact ⟨rfl, rfl, rfl, HB1.out.trans (HB3.out.mono (by omega)), HX.out⟩
      · have HZ := Lib.hid hsz
        by_cases h4 : 4 < ss.length
        · have HX := Lib.hid (mayD_no (h := ⟨u, c, o, sz, m, ss, la, sq⟩) (.inr (.inr (.inl h4))))
          have h4i : (4 : Int) < ss.length := by omega
          clear hok hsz h4
          go_wp2_with fail
          refine HC.out.mono ?_
          rintro e w2 ⟨rfl, hb2⟩
          replace x0 := cellExt hb2 x0
          replace x1 := cellExt hb2 x1
          replace x2 := cellExt hb2 x2
          replace x3 := cellExt hb2 x3
          replace x4 := cellExt hb2 x4
          replace x5 := cellExt hb2 x5
          replace x6 := cellExt hb2 x6
          replace x7 := cellExt hb2 x7
          have HB2 := Lib.hid hb2
          clear hb2
          go_wp2_with fail
          refine (psized_any A u c o sz ma mc m _ (SlE.ext HM.out HB2.out) (by omega)).mono ?_
          rw [HZ.out]
          rintro e w3 ⟨rfl, hb3⟩
          replace x0 := cellExt hb3 x0
          replace x1 := cellExt hb3 x1
          replace x2 := cellExt hb3 x2
          replace x3 := cellExt hb3 x3
          replace x4 := cellExt hb3 x4
          replace x5 := cellExt hb3 x5
          replace x6 := cellExt hb3 x6
          replace x7 := cellExt hb3 x7
          have HB3 := Lib.hid (HB2.out.trans (hb3.mono HB2.out.size))
          clear hb3
          go_wp2
          go_step3
          exact ⟨rfl, rfl, rfl, HB1.out.trans (HB3.out.mono (by omega)), HX.out⟩
        · have h4i : (ss.length : Int) ≤ 4 := by omega
          have h4' : ss.length ≤ 4 := by omega
          clear h4
          have hways : (la < 0 ∨ (0 ≤ la ∧ 100 < la) ∨ (0 ≤ la ∧ la ≤ 100 ∧ sq < 0) ∨ (0 ≤ la ∧ la ≤ 100 ∧ 0 ≤ sq ∧ 1099511627776 < sq)) ∨ (0 ≤ la ∧ la ≤ 100 ∧ 0 ≤ sq ∧ sq ≤ 1099511627776) := by omega
          rcases hways with hways | ⟨l0, l1, s0, s1⟩
          · have HX := Lib.hid (mayD_no (h := ⟨u, c, o, sz, m, ss, la, sq⟩) (show okB u c o = false ∨ sizedD u c o sz m = false ∨ 4 < ss.length ∨ la < 0 ∨ 100 < la ∨ sq < 0 ∨ 1099511627776 < sq from .inr (.inr (.inr (by omega)))))
            clear hok hsz
            rcases hways with l0 | ⟨l0, l1⟩ | ⟨l0, l1, s0⟩ | ⟨l0, l1, s0, s1⟩
            all_goals
              go_wp2_with fail
              refine HC.out.mono ?_
              rintro e w2 ⟨rfl, hb2⟩
              replace x0 := cellExt hb2 x0
              replace x1 := cellExt hb2 x1
              replace x2 := cellExt hb2 x2
              replace x3 := cellExt hb2 x3
              replace x4 := cellExt hb2 x4
              replace x5 := cellExt hb2 x5
              replace x6 := cellExt hb2 x6
              replace x7 := cellExt hb2 x7
              have HB2 := Lib.hid hb2
              clear hb2
              go_wp2_with fail
              refine (psized_any A u c o sz ma mc m _ (SlE.ext HM.out HB2.out) (by omega)).mono ?_
              rw [HZ.out]
              rintro e w3 ⟨rfl, hb3⟩
              replace x0 := cellExt hb3 x0
              replace x1 := cellExt hb3 x1
              replace x2 := cellExt hb3 x2
              replace x3 := cellExt hb3 x3
              replace x4 := cellExt hb3 x4
              replace x5 := cellExt hb3 x5
              replace x6 := cellExt hb3 x6
              replace x7 := cellExt hb3 x7
              have HB3 := Lib.hid (HB2.out.trans (hb3.mono HB2.out.size))
              clear hb3
              go_wp2
              go_step3
              exact ⟨rfl, rfl, rfl, HB1.out.trans (HB3.out.mono (by omega)), HX.out⟩
          · have HI := Lib.hid (mayD_is (h := ⟨u, c, o, sz, m, ss, la, sq⟩) hok hsz h4' ⟨l0, l1⟩ ⟨s0, s1⟩)
            clear hok hsz
            go_wp2_with fail
            refine HC.out.mono ?_
            rintro e w2 ⟨rfl, hb2⟩
            replace x0 := cellExt hb2 x0
            replace x1 := cellExt hb2 x1
            replace x2 := cellExt hb2 x2
            replace x3 := cellExt hb2 x3
            replace x4 := cellExt hb2 x4
            replace x5 := cellExt hb2 x5
            replace x6 := cellExt hb2 x6
            replace x7 := cellExt hb2 x7
            have HB2 := Lib.hid hb2
            clear hb2
            go_wp2_with fail
            refine (psized_any A u c o sz ma mc m _ (SlE.ext HM.out HB2.out) (by omega)).mono ?_
            rw [HZ.out]
            rintro e w3 ⟨rfl, hb3⟩
            replace x0 := cellExt hb3 x0
            replace x1 := cellExt hb3 x1
            replace x2 := cellExt hb3 x2
            replace x3 := cellExt hb3 x3
            replace x4 := cellExt hb3 x4
            replace x5 := cellExt hb3 x5
            replace x6 := cellExt hb3 x6
            replace x7 := cellExt hb3 x7
            have HB3 := Lib.hid (HB2.out.trans (hb3.mono HB2.out.size))
            clear hb3
            go_wp2
            clear x0 x1 x2 x3 x4 x5 x6 x7
            have HB3B := Lib.hid ((HB3.out.block _ hs1).trans HB.out)
            have hs3 : w.heap.size < w3.heap.size := Nat.lt_of_lt_of_le hs1 HB3.out.size
            go_loopw [3, 47] (fun ah q wr => ∃ (k : Nat) (x : Int), k ≤ ss.length ∧ q = .int .i64 k ∧ ah = .int .i64 x ∧ mayD ⟨u, c, o, sz, m, ss, la, sq⟩ = snapsD u c o la x (ss.drop k) ∧ Below w3.heap.size w3 wr) (fun _ q _ => ss.length - (intOf q).toNat)
            case atStart => exact ⟨0, 0, Nat.zero_le _, rfl, rfl, HI.out, Below.refl _ _⟩
            case round =>
              obtain ⟨k, x, hk, rfl, rfl, hmay, hbr⟩ := hrel
              have HMAY := Lib.hid hmay
              have HBR := Lib.hid hbr
              have HBLK := (hbr.block _ hs3).trans HB3B.out
              obtain ⟨x0, -⟩ := blk_cell (i := 0) HBLK
              obtain ⟨x1, -⟩ := blk_cell (i := 1) HBLK
              obtain ⟨x2, -⟩ := blk_cell (i := 2) HBLK
              obtain ⟨x6, -⟩ := blk_cell (i := 6) HBLK
              simp at x0 x1 x2 x6
              have hsr : w.heap.size < wr.heap.size := Nat.lt_of_lt_of_le hs3 hbr.size
              by_cases hlt : k < ss.length
              · have hki : (k : Int) < ss.length := by omega
                obtain ⟨b, off, v, rfl, hb, -, c0, c1, c2, hv⟩ := Snaps.at (SlE.ext HS.out (HB3.out.trans (hbr.mono HB3.out.size))) hlt
                obtain ⟨va, vc, rfl⟩ := hv.shape
                have HV := Lib.hid hv
                have hml : (ss[k]).map.length ≤ 100000 := HMS.out _ (List.getElem_mem hlt)
                have HAT := Lib.hid (snapsD_at u c o la x hlt)
                clear hv hmay hbr HBLK
                generalize ss[k] = s at *
                obtain ⟨si, sz', sm⟩ := s
                simp only at *
                by_cases g1 : si ≤ x
                · have HX : Hid (mayD ⟨u, c, o, sz, m, ss, la, sq⟩ = false) := Lib.hid (by rw [HMAY.out, HAT.out]; exact anB (.inl (by simpa using g1)))
                  go_wp2
                  go_step3
                  exact ⟨rfl, rfl, rfl, (HB1.out.trans ((HB3.out.trans (HBR.out.mono HB3.out.size)).mono (by omega))).alloc (by omega) _, HX.out⟩
                · have g1' : x < si := by omega
                  clear g1
                  by_cases g2 : la < si
                  · have HX : Hid (mayD ⟨u, c, o, sz, m, ss, la, sq⟩ = false) := Lib.hid (by rw [HMAY.out, HAT.out]; exact anB (.inr (.inl (by simpa using g2))))
                    go_wp2
                    go_step3
                    exact ⟨rfl, rfl, rfl, (HB1.out.trans ((HB3.out.trans (HBR.out.mono HB3.out.size)).mono (by omega))).alloc (by omega) _, HX.out⟩
                  · have g2' : si ≤ la := by omega
                    clear g2
                    have hal : Below wr.heap.size wr (wr.alloc (.cells #[.int .i64 si, .int .i64 sz', .slice va sm.length vc] 102)) := (Below.refl _ wr).alloc (Nat.le_refl _) _
                    have HP := Lib.hid (psized_any A u c o sz' va vc sm _ (SlE.ext HV.out hal) (by omega))
                    have HAL := Lib.hid hal
                    have hal' := hal
                    replace x0 := cellExt hal' x0
                    replace x1 := cellExt hal' x1
                    replace x2 := cellExt hal' x2
                    replace x6 := cellExt hal' x6
                    clear hal hal'
                    cases hz : sizedD u c o sz' sm
                    · have HX : Hid (mayD ⟨u, c, o, sz, m, ss, la, sq⟩ = false) := Lib.hid (by rw [HMAY.out, HAT.out]; exact anB (.inr (.inr hz)))
                      have HZ2 := Lib.hid hz
                      clear hz
                      go_wp2_with fail
                      refine HP.out.mono ?_
                      rw [HZ2.out]
                      rintro e w5 ⟨rfl, hb5⟩
                      have HB5 := Lib.hid (HAL.out.trans (hb5.mono HAL.out.size))
                      clear hb5
                      go_wp2
                      go_step3
                      exact ⟨rfl, rfl, rfl, (HB1.out.trans ((HB3.out.trans ((HBR.out.trans (HB5.out.mono HBR.out.size)).mono HB3.out.size)).mono (by omega))), HX.out⟩
                    · have HN : Hid (mayD ⟨u, c, o, sz, m, ss, la, sq⟩ = snapsD u c o la si (ss.drop (k + 1))) := Lib.hid (by rw [HMAY.out, HAT.out, hz, decide_eq_true g1', decide_eq_true g2']; rfl)
                      have HZ2 := Lib.hid hz
                      clear hz
                      have y0 : (wr.alloc (.cells #[.int .i64 si, .int .i64 sz', .slice va sm.length vc] 102)).cell? ⟨wr.heap.size, 0, none⟩ = some (.int .i64 si) := by simp
                      go_wp2_with fail
                      refine HP.out.mono ?_
                      rw [HZ2.out]
                      rintro e w5 ⟨rfl, hb5⟩
                      replace y0 := cellExt hb5 y0
                      have HB5 := Lib.hid (HAL.out.trans (hb5.mono HAL.out.size))
                      clear hb5
                      go_wp2
                      go_roundw
                      case rel => exact ⟨k + 1, si, by omega, by go_num, rfl, HN.out, HBR.out.trans (HB5.out.mono HBR.out.size)⟩
                      case measure => simp [intOf]; omega
              · have HX : Hid (mayD ⟨u, c, o, sz, m, ss, la, sq⟩ = true) := Lib.hid (by rw [HMAY.out]; exact snapsD_end _ _ _ _ _ (by omega))
                clear hmay hbr HBLK
                go_wp2
                refine (show bodyPost Tryz.prog Tryz.f43 (fun e w' => e = .returned (.int .i64 (chkH ⟨u, c, o, sz, m, ss, la, sq⟩)) ∧ Below w.heap.size w w') Exit.ret _ _ from ?_)
                go_ret
                exact ⟨by rw [chkH_yes HX.out]; rfl, HB1.out.trans ((HB3.out.trans (HBR.out.mono HB3.out.size)).mono (by omega))⟩
  · rintro ⟨tm, df⟩ w' ⟨h1, h2, h3, h4⟩
    simp only at h1 h2
    subst h2
    have H3 := Lib.hid h3
    have H4 := Lib.hid h4
    clear h3 h4 x0 x1 x2 x3 x4 x5 x6 x7
    go_wp2
    refine (show bodyPost Tryz.prog Tryz.f43 (fun e w' => e = .returned (.int .i64 (chkH ⟨u, c, o, sz, m, ss, la, sq⟩)) ∧ Below w.heap.size w w') Exit.ret ⟨tm.setIfInBounds 2 (.int .i64 60), []⟩ w' from ?_)
    refine bodyPost_ret (results_tmp rfl _ _ _) rfl ?_
    refine ⟨?_, H3.out⟩
    rw [chkH_no H4.out]
    simp [h1]
end Go.Proofs.YtlekdfajcpmolaaGreatDoor
