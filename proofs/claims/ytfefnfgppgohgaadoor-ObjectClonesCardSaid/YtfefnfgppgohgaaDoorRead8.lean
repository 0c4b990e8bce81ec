/- The walk of object.Read. -/
import Derived.Test.YtfefnfgppgohgaaDoorRd8
import Derived.Test.YtfefnfgppgohgaaDoorMA
namespace Go.Proofs.YtfefnfgppgohgaaDoor
open Go.RowKit Go.WideShapes

theorem pad_map (d : List UInt8) (f m : Nat) (h : m ≤ 64) : ((d.drop f).take m).map bv ++ List.replicate (m - (((d.drop f).take m).map bv).length) (Value.int .u8 0) = (padD d f m).map bv := by
  unfold padD
  rw [List.map_append, List.map_replicate]
  congr 2
  simp
  omega
theorem spot_nat {off n : Int} (h : spotB off n = true) : ∃ f m : Nat, off = f ∧ n = m ∧ f + m ≤ 64 := by
  simp only [spotB, Bool.and_eq_true, decide_eq_true_eq] at h
  exact ⟨off.toNat, n.toNat, by omega, by omega, by omega⟩
set_option maxRecDepth 100000 in
set_option maxHeartbeats 1600000 in
theorem read_any (A : Nat → Prop) (v : Value) (o : ObD) (off n : Int) (w : World) (hv : ObV A w v o) (hl : o.data.length ≤ 1000000) :
    Calls Tryd.prog 17 #[v, .int .i64 off, .int .i64 n] w (NewB w (readD o off n)) := by
  obtain ⟨dv, kv, rfl, hd, hk⟩ := hv
  obtain ⟨da, dc, rfl⟩ := hd.shape
  obtain ⟨ka, kc, rfl⟩ := hk.shape
  obtain ⟨od, ks, os⟩ := o
  simp only at *
  have HD := Lib.hid hd
  have hdc := hd.capl
  clear hk hd
  cases hs : spotB off n with
  | false =>
    have HG : Hid (readD ⟨od, ks, os⟩ off n = []) := by show readD _ _ _ = _; simp [readD, hs]
    have HS := Lib.hid hs
    go_enter Tryd.func17, Tryd.ntmps17
    go_wp2_with fail
    refine (spot_any off n _).mono ?_
    rintro e w1 ⟨rfl, rfl⟩
    rw [hs]
    clear hs
    go_wp2
    go_ret
    show NewB w (readD _ off n) _ _
    rw [HG.out]
    exact ⟨_, rfl, OB.nil _ _, by ((repeat' (first | exact Below.refl _ _ | refine below_drewN ?_ _ | refine Below.drew ?_ | refine Below.alloc ?_ ?_ _ | refine Below.trans ?_ (Below.mono (by assumption) ?_))); all_goals (first | exact Nat.le_refl _ | exact Below.size (by assumption) | omega | (simp; done) | (simp; omega)))⟩
  | true =>
    obtain ⟨f, m, rfl, rfl, hfm⟩ := spot_nat hs
    have HG : Hid (readD ⟨od, ks, os⟩ f m = padD od f m) := by show readD _ _ _ = _; simp [readD, hs]
    have HM := Lib.hid (pad_map od f m (by omega))
    have hmk := fun W => mk_bytes m (by omega) W
    rcases Nat.lt_or_ge f od.length with hlt | hge
    · obtain ⟨b, ofs, rfl, hbl, -, -, hcell⟩ := HD.out.lie (by omega)
      have hcf : ¬ dc = f := by omega
      obtain ⟨X, hX⟩ : ∃ X, X = ((od.drop f).take m).map bv := ⟨_, rfl⟩
      have hXl : X.length = min m (od.length - f) := by rw [hX]; simp
      have hX1 : Hid (∀ u ∈ X, u.oneCell' = true) := by show ∀ u ∈ X, _; rw [hX]; exact one_bytes _
      have hXc : Hid (∀ j u, X[j]? = some u → w.cell? ⟨b, ofs + f + j, none⟩ = some u) := by
        show ∀ j u, _
        intro j u hj
        have hjl := (List.getElem?_eq_some_iff.1 hj).1
        rw [Nat.add_assoc, hcell _ (by omega), ← hj, hX, List.getElem?_map, List.getElem?_map, List.getElem?_take, if_pos (by omega), List.getElem?_drop]
      rw [← hX] at HM
      have HXl := Lib.hid hXl
      have hn8x : (Tryd.prog.info? 5).map (·.size) = some 1 := by kernel_rfl
      have hn8 := Lib.hid hn8x
      clear hcell hX hXl hn8x
      go_enter Tryd.func17, Tryd.ntmps17
      go_wp2_with fail
      refine (spot_any f m _).mono ?_
      rintro e w1 ⟨rfl, rfl⟩
      rw [hs]
      clear hs
      obtain ⟨w0, hw0⟩ : ∃ w0, w0 = w.alloc (.cells #[.slice (some ⟨b, ofs, none⟩) od.length dc, .slice ka ks.length kc, .int .i64 os] 25) := ⟨_, rfl⟩
      rw [← hw0]
      have hw : Below w.heap.size w w0 := by rw [hw0]; ((repeat' (first | exact Below.refl _ _ | refine below_drewN ?_ _ | refine Below.drew ?_ | refine Below.alloc ?_ ?_ _ | refine Below.trans ?_ (Below.mono (by assumption) ?_))); all_goals (first | exact Nat.le_refl _ | exact Below.size (by assumption) | omega | (simp; done) | (simp; omega)))
      have x0 : w0.cell? ⟨w.heap.size, 0, none⟩ = some (.slice (some ⟨b, ofs, none⟩) od.length dc) := by rw [hw0]; simp
      have hl0 : w.heap.size < w0.heap.size := by rw [hw0]; simp
      have hb0 : b < w0.heap.size := by omega
      have HW := Lib.hid hw
      clear hw hw0
      go_wp2_with (with_reducible refine wpList_copy_splice rfl (.tmp 19) (.tmp 23) 22 22 rfl 5 Tryd.underlying22 hn8.out _ _ _ _ _ _ rfl rfl w0.heap.size 0 (List.replicate m (.int .u8 0)) 5 (heap_alloc_new w0 _) X ?k1 ?k2 ?k3 hX1.out w0.heap.size w0 ?k4 (Nat.le_refl _) ?_)
      case k1 => rw [HXl.out]; simp only [Nat.min_def]; split <;> split <;> omega
      case k2 =>
        intro hp
        exact fun j u hj => cellExt HW.out (hXc.out j u hj)
      case k3 => rw [HXl.out]; simp; omega
      case k4 => exact (Below.refl _ _).alloc (Nat.le_refl _) _
      intro w1 hg1 hb1
      have hg := hg1.out
      rw [splice0, HM.out] at hg
      have HGG := Lib.hid hg
      have HB1 := Lib.hid hb1
      clear hg hg1 hb1
      go_wp2
      go_ret
      show NewB w (readD _ f m) _ _
      rw [HG.out]
      refine ⟨_, rfl, OB.of_blk (t := []) (by simpa using HGG.out) HW.out.size (by simp [padD]; omega) (by simp) (by omega), HW.out.trans (HB1.out.mono HW.out.size)⟩
    · have HP : Hid (padD od f m = List.replicate m 0) := by
        show padD _ _ _ = _
        unfold padD
        rw [List.drop_of_length_le hge, List.take_nil, List.nil_append]
        congr 1
        omega
      go_enter Tryd.func17, Tryd.ntmps17
      go_wp2_with fail
      refine (spot_any f m _).mono ?_
      rintro e w1 ⟨rfl, rfl⟩
      rw [hs]
      clear hs
      go_wp2
      go_ret
      show NewB w (readD _ f m) _ _
      rw [HG.out, HP.out]
      refine ⟨_, rfl, OB.of_blk (t := []) (l := List.replicate m 0) (by have h := heap_alloc2_new w (.cells #[.slice da od.length dc, .slice ka ks.length kc, .int .i64 os] 25) (.cells (List.replicate m (Value.int .u8 0)).toArray 5); simpa [bv] using h) (by simp) (by simp) (by simp) (by omega), by ((repeat' (first | exact Below.refl _ _ | refine below_drewN ?_ _ | refine Below.drew ?_ | refine Below.alloc ?_ ?_ _ | refine Below.trans ?_ (Below.mono (by assumption) ?_))); all_goals (first | exact Nat.le_refl _ | exact Below.size (by assumption) | omega | (simp; done) | (simp; omega)))⟩
end Go.Proofs.YtfefnfgppgohgaaDoor
