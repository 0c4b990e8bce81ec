/- The walks of terrazzoref08.guard and key. -/
import Derived.Test.YtgdilkhaopnhaaaGreatDoorRefE8
import Derived.Test.YtgdilkhaopnhaaaGreatDoorRefB8
import Derived.Test.YtgdilkhaopnhaaaGreatDoorRefG8
namespace Go.Proofs.YtgdilkhaopnhaaaGreatDoor
open Go.RowKit Go.WideShapes

def GrdRR (x : Int × Bool) (w : World) (e : Ending) (w' : World) : Prop := e = .returned (.tuple #[.bool x.2, .int .i64 x.1]) ∧ Below w.heap.size w w'
theorem GrdRR.mk {x : Int × Bool} {b : Bool} {e : Int} {w w' : World} (hx : x = (e, b)) (h : Below w.heap.size w w') : GrdRR x w (.returned (.tuple #[.bool b, .int .i64 e])) w' := by
  subst hx; exact ⟨rfl, h⟩
set_option maxRecDepth 100000 in
set_option maxHeartbeats 8000000 in
theorem rguard_any (A B : Nat → Prop) (v : Value) (o : ObD) (th : Bool) (k off n : Int) (nm : ByteArray) (oa : Option Addr) (oc : Nat) (d : List UInt8) (w : World) (hv : ObV A w v o) (ho : o.okl) (hd : RB B w (.slice oa d.length oc) d) (hk1 : 1 ≤ k) (hk2 : k ≤ 4) :
    Calls Tryz.prog 56 #[v, .bool th, opV k off n nm oa d.length oc] w (GrdRR (guardB o th ⟨k, off, n, nm, d⟩) w) := by
  obtain ⟨dv, kv, rfl, hdd, hkk⟩ := hv
  obtain ⟨da, dc, rfl⟩ := hdd.shape
  obtain ⟨ka, kc, rfl⟩ := hkk.shape
  have HOV : Hid (ObV A w _ o) := Lib.hid ⟨_, _, rfl, hdd, hkk⟩
  have HD := Lib.hid hd
  have hkl := ho.keys
  have HL := Lib.hid ho
  unfold opV
  clear hdd hkk hd ho
  obtain rfl | rfl | rfl | rfl : k = 1 ∨ k = 2 ∨ k = 3 ∨ k = 4 := by omega
  · clear hk1 hk2
    cases th with
    | true =>
      go_enter Tryz.func56, Tryz.ntmps56
      go_wp2
      go_ret2
      exact GrdRR.mk rfl (by ((repeat' (first | exact Below.refl _ _ | refine below_drewN ?_ _ | refine Below.drew ?_ | refine Below.alloc ?_ ?_ _ | refine Below.trans ?_ (Below.mono (by assumption) ?_))); all_goals (first | exact Nat.le_refl _ | exact Below.size (by assumption) | omega | (simp; done) | (simp; omega))))
    | false =>
      go_enter Tryz.func56, Tryz.ntmps56
      go_wp2
      go_ret2
      exact GrdRR.mk rfl (by ((repeat' (first | exact Below.refl _ _ | refine below_drewN ?_ _ | refine Below.drew ?_ | refine Below.alloc ?_ ?_ _ | refine Below.trans ?_ (Below.mono (by assumption) ?_))); all_goals (first | exact Nat.le_refl _ | exact Below.size (by assumption) | omega | (simp; done) | (simp; omega))))
  · clear hk1 hk2
    cases th with
    | true =>
      go_enter Tryz.func56, Tryz.ntmps56
      go_wp2
      go_ret2
      exact GrdRR.mk rfl (by ((repeat' (first | exact Below.refl _ _ | refine below_drewN ?_ _ | refine Below.drew ?_ | refine Below.alloc ?_ ?_ _ | refine Below.trans ?_ (Below.mono (by assumption) ?_))); all_goals (first | exact Nat.le_refl _ | exact Below.size (by assumption) | omega | (simp; done) | (simp; omega))))
    | false =>
      go_enter Tryz.func56, Tryz.ntmps56
      go_wp2
      go_ret2
      exact GrdRR.mk rfl (by ((repeat' (first | exact Below.refl _ _ | refine below_drewN ?_ _ | refine Below.drew ?_ | refine Below.alloc ?_ ?_ _ | refine Below.trans ?_ (Below.mono (by assumption) ?_))); all_goals (first | exact Nat.le_refl _ | exact Below.size (by assumption) | omega | (simp; done) | (simp; omega))))
  · clear hk1 hk2
    go_enter Tryz.func56, Tryz.ntmps56
    go_wp2_with fail
    refine (rget_any A _ o nm _ (HOV.out.ext (by ((repeat' (first | exact Below.refl _ _ | refine below_drewN ?_ _ | refine Below.drew ?_ | refine Below.alloc ?_ ?_ _ | refine Below.trans ?_ (Below.mono (by assumption) ?_))); all_goals (first | exact Nat.le_refl _ | exact Below.size (by assumption) | omega | (simp; done) | (simp; omega))))) (by omega)).mono ?_
    rintro e w1 ⟨a1, n1, c1, rfl, h1, hn1, hb1⟩
    have K1 : w1.heap[w.heap.size + 1]? = some (.cells #[.int .i64 3, .int .i64 off, .int .i64 n, .string nm, .slice oa d.length oc] 43 (0, 0)) := (hb1.block _ (by simp)).trans (heap_alloc2_new _ _ _)
    have HB : Hid (Below w.heap.size w w1) := Lib.hid (Below.trans (by ((repeat' (first | exact Below.refl _ _ | refine below_drewN ?_ _ | refine Below.drew ?_ | refine Below.alloc ?_ ?_ _ | refine Below.trans ?_ (Below.mono (by assumption) ?_))); all_goals (first | exact Nat.le_refl _ | exact Below.size (by assumption) | omega | (simp; done) | (simp; omega)))) (hb1.mono (by simp; try omega)))
    obtain ⟨z0, z1, z2, z3, z4⟩ := five_cells K1
    cases hg : getD o.keys nm with
    | none =>
      have HX : Hid (guardB o th ⟨3, off, n, nm, d⟩ = (92, false)) := by show guardB _ _ _ = _; simp [guardB, hg]
      rw [hg] at h1 hn1
      clear hb1 K1 hg h1 hn1
      simp only [Option.isSome]
      go_wp2
      go_ret2
      exact GrdRR.mk HX.out HB.out
    | some x =>
      have HX : Hid (guardB o th ⟨3, off, n, nm, d⟩ = if x = d then (0, true) else (92, false)) := by show guardB _ _ _ = _; simp [guardB, hg]
      rw [hg] at h1 hn1
      replace hn1 : n1 = x.length := hn1
      subst hn1
      replace h1 : RB (UpA A _) w1 (.slice a1 x.length c1) x := h1
      have s1 : (Go.convert 22 9 (.slice a1 x.length c1)).run Tryz.prog w1 = .ok (.string ⟨x.toArray⟩) w1 := cnv_bytes h1 _ (Below.refl _ _)
      have s2 : (Go.convert 22 9 (.slice oa d.length oc)).run Tryz.prog w1 = .ok (.string ⟨d.toArray⟩) w1 := cnv_bytes HD.out _ HB.out
      clear hb1 K1 hg h1
      simp only [Option.isSome]
      by_cases hx : x = d
      · have HXX := Lib.hid hx
        have q1 := eqBL x d
        rw [decide_eq_true hx] at q1
        have q2 : (x == d) = true := by simpa using hx
        clear hx
        go_wp2
        go_ret2
        exact GrdRR.mk (by rw [HX.out, if_pos HXX.out]) HB.out
      · have HXX := Lib.hid hx
        have q1 := eqBL x d
        rw [decide_eq_false hx] at q1
        have q2 : (x == d) = false := by simpa using hx
        clear hx
        go_wp2
        go_ret2
        exact GrdRR.mk (by rw [HX.out, if_neg HXX.out]) HB.out
  · clear hk1 hk2
    go_enter Tryz.func56, Tryz.ntmps56
    go_wp2
    go_ret2
    exact GrdRR.mk rfl (by ((repeat' (first | exact Below.refl _ _ | refine below_drewN ?_ _ | refine Below.drew ?_ | refine Below.alloc ?_ ?_ _ | refine Below.trans ?_ (Below.mono (by assumption) ?_))); all_goals (first | exact Nat.le_refl _ | exact Below.size (by assumption) | omega | (simp; done) | (simp; omega))))
/-- what a call that gives a key a value answers -/
def RKeyR (A : Nat → Prop) (o : ObD) (x : Option ObD) (w : World) (e : Ending) (w' : World) : Prop := ∃ dv kv, e = .returned (.tuple #[.agg #[dv, kv, .int .i64 (x.getD o).seq], .int .i64 (if x.isSome then 0 else 2)]) ∧ ObV (UpA A w) w' (.agg #[dv, kv, .int .i64 (x.getD o).seq]) (x.getD o) ∧ Below w.heap.size w w'
theorem ObV.cut {A : Nat → Prop} {w : World} {v : Value} {o : ObD} (h : ObV A w v o) : ObV (fun b => A b ∧ b < w.heap.size) w v o := h.weak fun _b hb h => ⟨h, hb⟩
theorem ObV.mono {A : Nat → Prop} {w w' : World} {v : Value} {o : ObD} (h : ObV A w v o) (hs : Same A w w') : ObV A w' v o := by
  obtain ⟨dv, kv, rfl, hd, hk⟩ := h
  exact ⟨dv, kv, rfl, hd.mono hs, hk.mono hs⟩
/-- what a callee handed back stays readable where a box of one's own is written -/
theorem ob_keep {A : Nat → Prop} {w wc w' : World} {r : Nat} {v : Value} {o : ObD} (h : ObV (UpA (fun b => A b ∧ b < w.heap.size) wc) w' v o) (hr1 : w.heap.size ≤ r) (hr2 : r < wc.heap.size) (x y z : Value) :
    ObV (UpA A w) (((w'.setCell ⟨r, 0, none⟩ x).setCell ⟨r, 1, none⟩ y).setCell ⟨r, 2, none⟩ z) v o := by
  refine ((h.weak (A' := fun b => UpA A w b ∧ b ≠ r) fun b _ hb => ?_).mono ⟨by simp [World.setCell], fun b hb _ => set3_ne _ _ _ _ _ hb.2⟩).weak fun b _ hb => hb.1
  rcases hb with hb | hb
  · exact ⟨.inl hb.1, by omega⟩
  · exact ⟨.inr (by omega), by omega⟩
theorem getD_has (ks : List KyD) (nm : ByteArray) : (getD ks nm).isSome = hasK ks nm := by
  unfold getD hasK
  rw [Option.isSome_map, List.isSome_find?]
theorem RKeyR.no {A : Nat → Prop} {o : ObD} {dv kv : Value} {x : Option ObD} {w w' : World} (hx : x = none) (h : ObV (UpA A w) w' (.agg #[dv, kv, .int .i64 o.seq]) o) (hb : Below w.heap.size w w') : RKeyR A o x w (.returned (.tuple #[.agg #[dv, kv, .int .i64 o.seq], .int .i64 2])) w' := by
  subst hx
  exact ⟨_, _, rfl, h, hb⟩
theorem RKeyR.ok {A : Nat → Prop} {o o' : ObD} {dv kv : Value} {x : Option ObD} {w w' : World} (hx : x = some o') (h : ObV (UpA A w) w' (.agg #[dv, kv, .int .i64 o'.seq]) o') (hb : Below w.heap.size w w') : RKeyR A o x w (.returned (.tuple #[.agg #[dv, kv, .int .i64 o'.seq], .int .i64 0])) w' := by
  subst hx
  exact ⟨_, _, rfl, h, hb⟩
theorem obv_shape {A : Nat → Prop} {w : World} {dv kv s : Value} {o : ObD} (h : ObV A w (.agg #[dv, kv, s]) o) : (∃ a c, dv = .slice a o.data.length c) ∧ (∃ a c, kv = .slice a o.keys.length c) := by
  obtain ⟨d, k, e, hd, hk⟩ := h
  simp at e
  obtain ⟨rfl, rfl, -⟩ := e
  exact ⟨hd.shape, hk.shape⟩
theorem results_cell2 {P : Program} {fn : Func} {p u1 : Tmp} {ty : TypeId} (h : fn.results = #[.cell p ty, .tmp u1]) (tmps : Array Value) (w : World) (g : Nat) (t : TypeId) (cs : Array Value) (fr : Nat × Nat) (d : TypeDesc)
    (hp : tmps.getD p undef = .pointer (some ⟨g, 0, none⟩)) (hg : w.heap[g]? = some (.cells cs t fr))
    (hu : P.underlying ty = some d) (hd : (match d with | .struct _ | .array _ _ => true | _ => false) = true) (hi : (P.info? ty).map (·.size) = some cs.size) :
    (results fn tmps).run P w = .ok (.tuple #[.agg cs, tmps.getD u1 undef]) w := by
  have hp' : tmps[p]?.getD undef = .pointer (some ⟨g, 0, none⟩) := by simpa using hp
  simp [results, h, hp', asAddr, run_loadVar_row w g t ty cs fr d hg hu hd hi]
end Go.Proofs.YtgdilkhaopnhaaaGreatDoor
