/- The walk of object.guard. -/
import Derived.Test.YtgdilkhaopnhaaaGreatDoorKey8
import Derived.Test.YtgdilkhaopnhaaaGreatDoorSam8
namespace Go.Proofs.YtgdilkhaopnhaaaGreatDoor
open Go.RowKit Go.WideShapes

/-- what a guard answers -/
def GrdR (k : Int) (x : Int × Bool) (w : World) (r : Ending) (w' : World) : Prop := r = .returned (.tuple #[.bool x.2, if x.1 = 0 then .nilIface else refE k x.1]) ∧ Below w.heap.size w w'
theorem GrdR.ok {k : Int} {x : Int × Bool} {b : Bool} {w w' : World} (hx : x = (0, b)) (h : Below w.heap.size w w') : GrdR k x w (.returned (.tuple #[.bool b, .nilIface])) w' := by
  subst hx; exact ⟨rfl, h⟩
theorem GrdR.no {k e : Int} {x : Int × Bool} {w w' : World} (he : e ≠ 0) (hx : x = (e, false)) (h : Below w.heap.size w w') : GrdR k x w (.returned (.tuple #[.bool false, refE k e])) w' := by
  subst hx
  refine ⟨?_, h⟩
  simp only
  rw [if_neg he]
/-- a kind that is none of those asked for -/
theorem kne {k j : Int} (h : ¬ k = j) : Hid ((k == j) = false ∧ decide (k = j) = false) := ⟨by simp [h], by simp [h]⟩
set_option maxRecDepth 100000 in
set_option maxHeartbeats 8000000 in
theorem guard_any (A B : Nat → Prop) (v : Value) (o : ObD) (th : Bool) (k off n : Int) (nm : ByteArray) (oa : Option Addr) (oc : Nat) (d : List UInt8) (w : World) (hv : ObV A w v o) (ho : o.okl) (hd : RB B w (.slice oa d.length oc) d) :
    Calls Tryz.prog 70 #[v, .bool th, opV k off n nm oa d.length oc] w (GrdR k (guardB o th ⟨k, off, n, nm, d⟩) w) := by
  obtain ⟨dv, kv, rfl, hdd, hkk⟩ := hv
  obtain ⟨da, dc, rfl⟩ := hdd.shape
  obtain ⟨ka, kc, rfl⟩ := hkk.shape
  have HOV : Hid (ObV A w _ o) := Lib.hid ⟨_, _, rfl, hdd, hkk⟩
  have hr := fun e W => refuse_any k off n nm oa d.length oc e W
  have HD := Lib.hid hd
  have HL := Lib.hid ho
  unfold opV at hr ⊢
  clear hdd hkk hd ho
  by_cases h1 : k = 1
  · subst h1
    cases th with
    | true =>
      go_enter Tryz.func70, Tryz.ntmps70
      go_wp2
      go_ret2
      exact GrdR.ok rfl (by ((repeat' (first | exact Below.refl _ _ | refine below_drewN ?_ _ | refine Below.drew ?_ | refine Below.alloc ?_ ?_ _ | refine Below.trans ?_ (Below.mono (by assumption) ?_))); all_goals (first | exact Nat.le_refl _ | exact Below.size (by assumption) | omega | (simp; done) | (simp; omega))))
    | false =>
      go_enter Tryz.func70, Tryz.ntmps70
      go_wp2_with fail
      refine (hr _ _).mono ?_
      rintro e w1 ⟨rfl, hb1⟩
      have HB : Hid (Below w.heap.size w w1) := Lib.hid (Below.trans (by ((repeat' (first | exact Below.refl _ _ | refine below_drewN ?_ _ | refine Below.drew ?_ | refine Below.alloc ?_ ?_ _ | refine Below.trans ?_ (Below.mono (by assumption) ?_))); all_goals (first | exact Nat.le_refl _ | exact Below.size (by assumption) | omega | (simp; done) | (simp; omega)))) (hb1.mono (by simp; try omega)))
      clear hb1
      go_wp2
      go_ret2
      exact GrdR.no (by decide) rfl HB.out
  · obtain ⟨a1, b1⟩ := (kne h1).out
    by_cases h2 : k = 2
    · subst h2
      clear h1 a1 b1
      cases th with
      | false =>
        go_enter Tryz.func70, Tryz.ntmps70
        go_wp2
        go_ret2
        exact GrdR.ok rfl (by ((repeat' (first | exact Below.refl _ _ | refine below_drewN ?_ _ | refine Below.drew ?_ | refine Below.alloc ?_ ?_ _ | refine Below.trans ?_ (Below.mono (by assumption) ?_))); all_goals (first | exact Nat.le_refl _ | exact Below.size (by assumption) | omega | (simp; done) | (simp; omega))))
      | true =>
        go_enter Tryz.func70, Tryz.ntmps70
        go_wp2_with fail
        refine (hr _ _).mono ?_
        rintro e w1 ⟨rfl, hb1⟩
        have HB : Hid (Below w.heap.size w w1) := Lib.hid (Below.trans (by ((repeat' (first | exact Below.refl _ _ | refine below_drewN ?_ _ | refine Below.drew ?_ | refine Below.alloc ?_ ?_ _ | refine Below.trans ?_ (Below.mono (by assumption) ?_))); all_goals (first | exact Nat.le_refl _ | exact Below.size (by assumption) | omega | (simp; done) | (simp; omega)))) (hb1.mono (by simp; try omega)))
        clear hb1
        go_wp2
        go_ret2
        exact GrdR.no (by decide) rfl HB.out
    · obtain ⟨a2, b2⟩ := (kne h2).out
      by_cases h3 : k = 3
      · subst h3
        clear h1 h2 a1 b1 a2 b2
        cases hg : getD o.keys nm with
        | none =>
          have HX : Hid (guardB o th ⟨3, off, n, nm, d⟩ = (92, false)) := by show guardB _ _ _ = _; simp [guardB, hg]
          go_enter Tryz.func70, Tryz.ntmps70
          go_wp2_with fail
          refine (get_any A _ o nm _ (HOV.out.ext (by ((repeat' (first | exact Below.refl _ _ | refine below_drewN ?_ _ | refine Below.drew ?_ | refine Below.alloc ?_ ?_ _ | refine Below.trans ?_ (Below.mono (by assumption) ?_))); all_goals (first | exact Nat.le_refl _ | exact Below.size (by assumption) | omega | (simp; done) | (simp; omega))))) HL.out).mono ?_
          rintro e w1 ⟨v1, rfl, h1, hb1⟩
          have K1 : w1.heap[w.heap.size + 1]? = some (.cells #[.int .i64 3, .int .i64 off, .int .i64 n, .string nm, .slice oa d.length oc] 43 (0, 0)) := (hb1.block _ (by simp)).trans (heap_alloc2_new _ _ _)
          have HB : Hid (Below w.heap.size w w1) := Lib.hid (Below.trans (by ((repeat' (first | exact Below.refl _ _ | refine below_drewN ?_ _ | refine Below.drew ?_ | refine Below.alloc ?_ ?_ _ | refine Below.trans ?_ (Below.mono (by assumption) ?_))); all_goals (first | exact Nat.le_refl _ | exact Below.size (by assumption) | omega | (simp; done) | (simp; omega)))) (hb1.mono (by simp; try omega)))
          obtain ⟨z0, g0⟩ := blk_cell (i := 0) K1
          obtain ⟨z1, g1⟩ := blk_cell (i := 1) K1
          obtain ⟨z2, g2⟩ := blk_cell (i := 2) K1
          obtain ⟨z3, g3⟩ := blk_cell (i := 3) K1
          obtain ⟨z4, g4⟩ := blk_cell (i := 4) K1
          simp at z0 z1 z2 z3 z4
          rw [hg]
          clear hb1 K1 h1 hg
          go_wp2_with fail
          refine (hr _ _).mono ?_
          rintro e w2 ⟨rfl, hb2⟩
          have HB2 := Lib.hid (HB.out.trans (hb2.mono HB.out.size))
          clear hb2
          go_wp2
          go_ret2
          exact GrdR.no (by decide) HX.out HB2.out
        | some x =>
          have HX : Hid (guardB o th ⟨3, off, n, nm, d⟩ = if x = d then (0, true) else (92, false)) := by show guardB _ _ _ = _; simp [guardB, hg]
          go_enter Tryz.func70, Tryz.ntmps70
          go_wp2_with fail
          refine (get_any A _ o nm _ (HOV.out.ext (by ((repeat' (first | exact Below.refl _ _ | refine below_drewN ?_ _ | refine Below.drew ?_ | refine Below.alloc ?_ ?_ _ | refine Below.trans ?_ (Below.mono (by assumption) ?_))); all_goals (first | exact Nat.le_refl _ | exact Below.size (by assumption) | omega | (simp; done) | (simp; omega))))) HL.out).mono ?_
          rintro e w1 ⟨v1, rfl, h1, hb1⟩
          rw [hg] at h1
          rw [hg]
          have h1 : OB _ w1 v1 x := h1
          have K1 : w1.heap[w.heap.size + 1]? = some (.cells #[.int .i64 3, .int .i64 off, .int .i64 n, .string nm, .slice oa d.length oc] 43 (0, 0)) := (hb1.block _ (by simp)).trans (heap_alloc2_new _ _ _)
          have HB : Hid (Below w.heap.size w w1) := Lib.hid (Below.trans (by ((repeat' (first | exact Below.refl _ _ | refine below_drewN ?_ _ | refine Below.drew ?_ | refine Below.alloc ?_ ?_ _ | refine Below.trans ?_ (Below.mono (by assumption) ?_))); all_goals (first | exact Nat.le_refl _ | exact Below.size (by assumption) | omega | (simp; done) | (simp; omega)))) (hb1.mono (by simp; try omega)))
          obtain ⟨z0, g0⟩ := blk_cell (i := 0) K1
          obtain ⟨z1, g1⟩ := blk_cell (i := 1) K1
          obtain ⟨z2, g2⟩ := blk_cell (i := 2) K1
          obtain ⟨z3, g3⟩ := blk_cell (i := 3) K1
          obtain ⟨z4, g4⟩ := blk_cell (i := 4) K1
          simp at z0 z1 z2 z3 z4
          obtain ⟨a1, c1, rfl⟩ := h1.rb.shape
          have H1 := Lib.hid h1.rb
          clear hb1 K1 h1 hg
          by_cases hx : x = d
          · have HXX := Lib.hid hx
            clear hx
            go_wp2_with fail
            refine (bequal_any _ B _ _ x d _ H1.out (HD.out.ext HB.out)).mono ?_
            rintro e w2 ⟨rfl, rfl⟩
            rw [show decide (x = d) = true by simp [HXX.out]]
            go_wp2
            go_ret2
            exact GrdR.ok (by rw [HX.out, if_pos HXX.out]) HB.out
          · have HXX := Lib.hid hx
            clear hx
            go_wp2_with fail
            refine (bequal_any _ B _ _ x d _ H1.out (HD.out.ext HB.out)).mono ?_
            rintro e w2 ⟨rfl, rfl⟩
            rw [show decide (x = d) = false by simp [HXX.out]]
            go_wp2_with fail
            refine (hr _ _).mono ?_
            rintro e w3 ⟨rfl, hb3⟩
            have HB3 := Lib.hid (HB.out.trans (hb3.mono HB.out.size))
            clear hb3
            go_wp2
            go_ret2
            exact GrdR.no (by decide) (by rw [HX.out, if_neg HXX.out]) HB3.out
      · obtain ⟨a3, b3⟩ := (kne h3).out
        by_cases h4 : k = 4
        · subst h4
          clear h1 h2 h3 a1 b1 a2 b2 a3 b3
          go_enter Tryz.func70, Tryz.ntmps70
          go_wp2
          go_ret2
          exact GrdR.ok rfl (by ((repeat' (first | exact Below.refl _ _ | refine below_drewN ?_ _ | refine Below.drew ?_ | refine Below.alloc ?_ ?_ _ | refine Below.trans ?_ (Below.mono (by assumption) ?_))); all_goals (first | exact Nat.le_refl _ | exact Below.size (by assumption) | omega | (simp; done) | (simp; omega))))
        · obtain ⟨a4, b4⟩ := (kne h4).out
          have HX : Hid (guardB o th ⟨k, off, n, nm, d⟩ = (0, true)) := by show guardB _ _ _ = _; simp [guardB, h1, h2, h3, h4]
          clear h1 h2 h3 h4
          go_enter Tryz.func70, Tryz.ntmps70
          go_wp2
          go_ret2
          exact GrdR.ok HX.out (by ((repeat' (first | exact Below.refl _ _ | refine below_drewN ?_ _ | refine Below.drew ?_ | refine Below.alloc ?_ ?_ _ | refine Below.trans ?_ (Below.mono (by assumption) ?_))); all_goals (first | exact Nat.le_refl _ | exact Below.size (by assumption) | omega | (simp; done) | (simp; omega))))
end Go.Proofs.YtgdilkhaopnhaaaGreatDoor
