/- The walks of bytes.Equal, slices.EqualFunc at keys, object.Same. The walk of object.guard. -/
import Derived.Test.YtohfckkgmijlnaaGreatDoorPC
import Derived.Laws.IdiomStrings
import Derived.Test.YtohfckkgmijlnaaGreatDoorKey8
namespace Go.Proofs.YtohfckkgmijlnaaGreatDoor
open Go.RowKit Go.WideShapes

theorem cnv_bytes {A : Nat → Prop} {w : World} {v : Value} {l : List UInt8} (h : RB A w v l) (W : World) (hW : Below w.heap.size w W) : (Go.convert 38 9 v).run Tryz.prog W = .ok (.string ⟨l.toArray⟩) W := by
  obtain ⟨a, c, rfl⟩ := h.shape
  cases a with
  | none =>
    obtain ⟨h0, -, -⟩ := SlA.none_ h
    obtain rfl := List.eq_nil_of_length_eq_zero h0
    exact run_convert_bytes_nil W _ 5 Tryz.underlying38 Tryz.underlying5 _ _ _ Tryz.underlying9
  | some p =>
    refine run_convert_bytes_back W 38 9 5 p c l Tryz.underlying38 Tryz.underlying5 Tryz.underlying9 fun j hj => ?_
    exact cellExt hW ((SlA.src h).2.2 j _ (bv_at hj))
theorem eqBL (l m : List UInt8) : ((⟨l.toArray⟩ : ByteArray).toList == (⟨m.toArray⟩ : ByteArray).toList) = decide (l = m) := by
  rw [Lib.toList_data, Lib.toList_data, Bool.eq_iff_iff, beq_iff_eq, decide_eq_true_eq]
set_option maxHeartbeats 800000 in
theorem bequal_any (A B : Nat → Prop) (va vb : Value) (l m : List UInt8) (w : World) (ha : RB A w va l) (hb : RB B w vb m) :
    Calls Tryz.prog 82 #[va, vb] w fun e w' => e = .returned (.bool (decide (l = m))) ∧ w = w' := by
  have s1 := cnv_bytes ha w (Below.refl _ _)
  have s2 := cnv_bytes hb w (Below.refl _ _)
  clear ha hb
  go_enter Tryz.func82, Tryz.ntmps82
  go_wp2
  go_ret
  exact ⟨ret_bool (by first | exact eqBL l m | (rw [Bool.eq_iff_iff]; simp)), rfl⟩
def keyEq (a b : KyD) : Bool := decide (a.name = b.name) && decide (a.value = b.value)
theorem keyEq_iff (a b : KyD) : keyEq a b = true ↔ a = b := by
  cases a; cases b
  simp [keyEq]
def eqAt (xs ys : List KyD) (i : Nat) : Bool := match xs[i]?, ys[i]? with
  | some a, some b => keyEq a b
  | _, _ => true
def eqTo (xs ys : List KyD) : Nat → Bool
  | 0 => true
  | k + 1 => eqTo xs ys k && eqAt xs ys k
def sameK (xs ys : List KyD) : Bool := decide (xs.length = ys.length) && eqTo xs ys xs.length
theorem eqTo_not {xs ys : List KyD} {n i : Nat} (hi : i < n) (h : eqAt xs ys i = false) : eqTo xs ys n = false := by
  induction n with
  | zero => omega
  | succ n ih =>
    by_cases e : i = n
    · subst e; simp [eqTo, h]
    · simp [eqTo, ih (by omega)]
theorem eqTo_all {xs ys : List KyD} {n : Nat} (h : eqTo xs ys n = true) : ∀ i, i < n → eqAt xs ys i = true := by
  intro i hi
  cases hx : eqAt xs ys i with
  | true => rfl
  | false => rw [eqTo_not hi hx] at h; cases h
theorem sameK_iff (xs ys : List KyD) : sameK xs ys = true ↔ xs = ys := by
  unfold sameK
  rw [Bool.and_eq_true, decide_eq_true_eq]
  constructor
  · rintro ⟨hl, h⟩
    apply List.ext_getElem hl
    intro i h1 h2
    have := eqTo_all h i h1
    simp only [eqAt, List.getElem?_eq_getElem h1, List.getElem?_eq_getElem h2] at this
    exact (keyEq_iff _ _).1 this
  · rintro rfl
    refine ⟨rfl, ?_⟩
    have : ∀ n, eqTo xs xs n = true := by
      intro n
      induction n with
      | zero => rfl
      | succ n ih =>
        simp only [eqTo, ih, Bool.true_and, eqAt]
        cases xs[n]? with
        | none => rfl
        | some k => exact (keyEq_iff k k).2 rfl
    exact this _
def sameB (a b : ObD) : Bool := decide (a.data = b.data) && decide (a.seq = b.seq) && sameK a.keys b.keys
theorem sameB_iff (a b : ObD) : sameB a b = true ↔ a = b := by
  cases a; cases b
  simp only [sameB, Bool.and_eq_true, decide_eq_true_eq, sameK_iff, ObD.mk.injEq]
  exact ⟨fun ⟨⟨a, b⟩, c⟩ => ⟨a, c, b⟩, fun ⟨a, c, b⟩ => ⟨⟨a, b⟩, c⟩⟩
/-- a call that answers so and makes nothing but memory -/
def Says (b : Bool) (w : World) (e : Ending) (w' : World) : Prop := e = .returned (.bool b) ∧ Below w.heap.size w w'
end Go.Proofs.YtohfckkgmijlnaaGreatDoor
namespace Go.Proofs.YtohfckkgmijlnaaGreatDoor
open Go.RowKit Go.WideShapes

/-- what a guard answers -/
def GrdR (k : Int) (x : Int × Bool) (w : World) (r : Ending) (w' : World) : Prop := r = .returned (.tuple #[.bool x.2, if x.1 = 0 then .nilIface else refE k x.1]) ∧ Below w.heap.size w w'
theorem GrdR.ok {k : Int} {x : Int × Bool} {b : Bool} {w w' : World} (hx : x = (0, b)) (h : Below w.heap.size w w') : GrdR k x w (.returned (.tuple #[.bool b, .nilIface])) w' := by
  subst hx; exact ⟨rfl, h⟩
theorem GrdR.no {k e : Int} {x : Int × Bool} {w w' : World} (he : e ≠ 0) (hx : x = (e, false)) (h : Below w.heap.size w w') : GrdR k x w (.returned (.tuple #[.bool false, refE k e])) w' := by
  subst hx
  refine ⟨?_, h⟩
  simp only
  rw [if_neg he]
/-- a kind that is none of those asked for -/
theorem kne {k j : Int} (h : ¬ k = j) : Hid ((k == j) = false ∧ decide (k = j) = false) := ⟨by simp [h], by simp [h]⟩
set_option maxRecDepth 100000 in
set_option maxHeartbeats 8000000 in
theorem guard_any (A B : Nat → Prop) (v : Value) (o : ObD) (th : Bool) (k off n : Int) (nm : ByteArray) (oa : Option Addr) (oc : Nat) (d : List UInt8) (w : World) (hv : ObV A w v o) (ho : o.okl) (hd : RB B w (.slice oa d.length oc) d) :
    Calls Tryz.prog 66 #[v, .bool th, opV k off n nm oa d.length oc] w (GrdR k (guardB o th ⟨k, off, n, nm, d⟩) w) := by
  obtain ⟨dv, kv, rfl, hdd, hkk⟩ := hv
  obtain ⟨da, dc, rfl⟩ := hdd.shape
  obtain ⟨ka, kc, rfl⟩ := hkk.shape
  have HOV : Hid (ObV A w _ o) := Lib.hid ⟨_, _, rfl, hdd, hkk⟩
  have hr := fun e W => refuse_any k off n nm oa d.length oc e W
  have HD := Lib.hid hd
  have HL := Lib.hid ho
  unfold opV at hr ⊢
  clear hdd hkk hd ho
  by_cases h1 : k = 1
  · subst h1
    cases th with
    | true =>
      go_enter Tryz.func66, Tryz.ntmps66
      go_wp2
      go_ret2
      exact GrdR.ok rfl (by ((repeat' (first | exact Below.refl _ _ | refine below_drewN ?_ _ | refine Below.drew ?_ | refine Below.alloc ?_ ?_ _ | refine Below.trans ?_ (Below.mono (by assumption) ?_))); all_goals (first | exact Nat.le_refl _ | exact Below.size (by assumption) | omega | (simp; done) | (simp; omega))))
    | false =>
      go_enter Tryz.func66, Tryz.ntmps66
      go_wp2_with fail
      refine (hr _ _).mono ?_
      rintro e w1 ⟨rfl, hb1⟩
      have HB : Hid (Below w.heap.size w w1) := Lib.hid (Below.trans (by ((repeat' (first | exact Below.refl _ _ | refine below_drewN ?_ _ | refine Below.drew ?_ | refine Below.alloc ?_ ?_ _ | refine Below.trans ?_ (Below.mono (by assumption) ?_))); all_goals (first | exact Nat.le_refl _ | exact Below.size (by assumption) | omega | (simp; done) | (simp; omega)))) (hb1.mono (by simp; try omega)))
      clear hb1
      go_wp2
      go_ret2
      exact GrdR.no (by decide) rfl HB.out
  · obtain ⟨a1, b1⟩ := (kne h1).out
    by_cases h2 : k = 2
    · subst h2
      clear h1 a1 b1
      cases th with
      | false =>
        go_enter Tryz.func66, Tryz.ntmps66
        go_wp2
        go_ret2
        exact GrdR.ok rfl (by ((repeat' (first | exact Below.refl _ _ | refine below_drewN ?_ _ | refine Below.drew ?_ | refine Below.alloc ?_ ?_ _ | refine Below.trans ?_ (Below.mono (by assumption) ?_))); all_goals (first | exact Nat.le_refl _ | exact Below.size (by assumption) | omega | (simp; done) | (simp; omega))))
      | true =>
        go_enter Tryz.func66, Tryz.ntmps66
        go_wp2_with fail
        refine (hr _ _).mono ?_
        rintro e w1 ⟨rfl, hb1⟩
        have HB : Hid (Below w.heap.size w w1) := Lib.hid (Below.trans (by ((repeat' (first | exact Below.refl _ _ | refine below_drewN ?_ _ | refine Below.drew ?_ | refine Below.alloc ?_ ?_ _ | refine Below.trans ?_ (Below.mono (by assumption) ?_))); all_goals (first | exact Nat.le_refl _ | exact Below.size (by assumption) | omega | (simp; done) | (simp; omega)))) (hb1.mono (by simp; try omega)))
        clear hb1
        go_wp2
        go_ret2
        exact GrdR.no (by decide) rfl HB.out
    · obtain ⟨a2, b2⟩ := (kne h2).out
      by_cases h3 : k = 3
      · subst h3
        clear h1 h2 a1 b1 a2 b2
        cases hg : getD o.keys nm with
        | none =>
          have HX : Hid (guardB o th ⟨3, off, n, nm, d⟩ = (92, false)) := by show guardB _ _ _ = _; simp [guardB, hg]
          go_enter Tryz.func66, Tryz.ntmps66
          go_wp2_with fail
          refine (get_any A _ o nm _ (HOV.out.ext (by ((repeat' (first | exact Below.refl _ _ | refine below_drewN ?_ _ | refine Below.drew ?_ | refine Below.alloc ?_ ?_ _ | refine Below.trans ?_ (Below.mono (by assumption) ?_))); all_goals (first | exact Nat.le_refl _ | exact Below.size (by assumption) | omega | (simp; done) | (simp; omega))))) HL.out).mono ?_
          rintro e w1 ⟨v1, rfl, h1, hb1⟩
          have K1 : w1.heap[w.heap.size + 1]? = some (.cells #[.int .i64 3, .int .i64 off, .int .i64 n, .string nm, .slice oa d.length oc] 57 (0, 0)) := (hb1.block _ (by simp)).trans (heap_alloc2_new _ _ _)
          have HB : Hid (Below w.heap.size w w1) := Lib.hid (Below.trans (by ((repeat' (first | exact Below.refl _ _ | refine below_drewN ?_ _ | refine Below.drew ?_ | refine Below.alloc ?_ ?_ _ | refine Below.trans ?_ (Below.mono (by assumption) ?_))); all_goals (first | exact Nat.le_refl _ | exact Below.size (by assumption) | omega | (simp; done) | (simp; omega)))) (hb1.mono (by simp; try omega)))
          obtain ⟨z0, g0⟩ := blk_cell (i := 0) K1
          obtain ⟨z1, g1⟩ := blk_cell (i := 1) K1
          obtain ⟨z2, g2⟩ := blk_cell (i := 2) K1
          obtain ⟨z3, g3⟩ := blk_cell (i := 3) K1
          obtain ⟨z4, g4⟩ := blk_cell (i := 4) K1
          simp at z0 z1 z2 z3 z4
          rw [hg]
          clear hb1 K1 h1 hg
          go_wp2_with fail
          refine (hr _ _).mono ?_
          rintro e w2 ⟨rfl, hb2⟩
          have HB2 := Lib.hid (HB.out.trans (hb2.mono HB.out.size))
          clear hb2
          go_wp2
          go_ret2
          exact GrdR.no (by decide) HX.out HB2.out
        | some x =>
          have HX : Hid (guardB o th ⟨3, off, n, nm, d⟩ = if x = d then (0, true) else (92, false)) := by show guardB _ _ _ = _; simp [guardB, hg]
          go_enter Tryz.func66, Tryz.ntmps66
          go_wp2_with fail
          refine (get_any A _ o nm _ (HOV.out.ext (by ((repeat' (first | exact Below.refl _ _ | refine below_drewN ?_ _ | refine Below.drew ?_ | refine Below.alloc ?_ ?_ _ | refine Below.trans ?_ (Below.mono (by assumption) ?_))); all_goals (first | exact Nat.le_refl _ | exact Below.size (by assumption) | omega | (simp; done) | (simp; omega))))) HL.out).mono ?_
          rintro e w1 ⟨v1, rfl, h1, hb1⟩
          rw [hg] at h1
          rw [hg]
          have h1 : OB _ w1 v1 x := h1
          have K1 : w1.heap[w.heap.size + 1]? = some (.cells #[.int .i64 3, .int .i64 off, .int .i64 n, .string nm, .slice oa d.length oc] 57 (0, 0)) := (hb1.block _ (by simp)).trans (heap_alloc2_new _ _ _)
          have HB : Hid (Below w.heap.size w w1) := Lib.hid (Below.trans (by ((repeat' (first | exact Below.refl _ _ | refine below_drewN ?_ _ | refine Below.drew ?_ | refine Below.alloc ?_ ?_ _ | refine Below.trans ?_ (Below.mono (by assumption) ?_))); all_goals (first | exact Nat.le_refl _ | exact Below.size (by assumption) | omega | (simp; done) | (simp; omega)))) (hb1.mono (by simp; try omega)))
          obtain ⟨z0, g0⟩ := blk_cell (i := 0) K1
          obtain ⟨z1, g1⟩ := blk_cell (i := 1) K1
          obtain ⟨z2, g2⟩ := blk_cell (i := 2) K1
          obtain ⟨z3, g3⟩ := blk_cell (i := 3) K1
          obtain ⟨z4, g4⟩ := blk_cell (i := 4) K1
          simp at z0 z1 z2 z3 z4
          obtain ⟨a1, c1, rfl⟩ := h1.rb.shape
          have H1 := Lib.hid h1.rb
          clear hb1 K1 h1 hg
          by_cases hx : x = d
          · have HXX := Lib.hid hx
            clear hx
            go_wp2_with fail
            refine (bequal_any _ B _ _ x d _ H1.out (HD.out.ext HB.out)).mono ?_
            rintro e w2 ⟨rfl, rfl⟩
            rw [show decide (x = d) = true by simp [HXX.out]]
            go_wp2
            go_ret2
            exact GrdR.ok (by rw [HX.out, if_pos HXX.out]) HB.out
          · have HXX := Lib.hid hx
            clear hx
            go_wp2_with fail
            refine (bequal_any _ B _ _ x d _ H1.out (HD.out.ext HB.out)).mono ?_
            rintro e w2 ⟨rfl, rfl⟩
            rw [show decide (x = d) = false by simp [HXX.out]]
            go_wp2_with fail
            refine (hr _ _).mono ?_
            rintro e w3 ⟨rfl, hb3⟩
            have HB3 := Lib.hid (HB.out.trans (hb3.mono HB.out.size))
            clear hb3
            go_wp2
            go_ret2
            exact GrdR.no (by decide) (by rw [HX.out, if_neg HXX.out]) HB3.out
      · obtain ⟨a3, b3⟩ := (kne h3).out
        by_cases h4 : k = 4
        · subst h4
          clear h1 h2 h3 a1 b1 a2 b2 a3 b3
          go_enter Tryz.func66, Tryz.ntmps66
          go_wp2
          go_ret2
          exact GrdR.ok rfl (by ((repeat' (first | exact Below.refl _ _ | refine below_drewN ?_ _ | refine Below.drew ?_ | refine Below.alloc ?_ ?_ _ | refine Below.trans ?_ (Below.mono (by assumption) ?_))); all_goals (first | exact Nat.le_refl _ | exact Below.size (by assumption) | omega | (simp; done) | (simp; omega))))
        · obtain ⟨a4, b4⟩ := (kne h4).out
          have HX : Hid (guardB o th ⟨k, off, n, nm, d⟩ = (0, true)) := by show guardB _ _ _ = _; simp [guardB, h1, h2, h3, h4]
          clear h1 h2 h3 h4
          go_enter Tryz.func66, Tryz.ntmps66
          go_wp2
          go_ret2
          exact GrdR.ok HX.out (by ((repeat' (first | exact Below.refl _ _ | refine below_drewN ?_ _ | refine Below.drew ?_ | refine Below.alloc ?_ ?_ _ | refine Below.trans ?_ (Below.mono (by assumption) ?_))); all_goals (first | exact Nat.le_refl _ | exact Below.size (by assumption) | omega | (simp; done) | (simp; omega))))
end Go.Proofs.YtohfckkgmijlnaaGreatDoor
