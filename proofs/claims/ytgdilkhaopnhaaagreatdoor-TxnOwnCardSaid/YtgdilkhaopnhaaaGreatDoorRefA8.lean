/- The walks of terrazzoref08.Name, May, Get, At: what the reference asks and reads. -/
import Derived.Test.YtgdilkhaopnhaaaGreatDoorRefP8
import Derived.Test.YtgdilkhaopnhaaaGreatDoorSam8
import Derived.Test.YtgdilkhaopnhaaaGreatDoorMF
namespace Go.Proofs.YtgdilkhaopnhaaaGreatDoor
open Go.RowKit Go.WideShapes

set_option maxRecDepth 100000 in
set_option maxHeartbeats 1600000 in
theorem rname_any (s : ByteArray) (w : World) : Calls Tryz.prog 31 #[.string s] w fun e w' => e = .returned (.bool (nameB s)) ∧ w = w' := by
  by_cases h1 : 1 ≤ s.size
  · by_cases h2 : s.size ≤ 12
    · have h1' : ¬ (s.size : Int) < 1 := by omega
      have h2' : ¬ (12 : Int) < s.size := by omega
      have HN : Hid (nmTo s s.size = true → nameB s = true) := by show _ → _; intro h; rw [nameB_to, h]; simp [h1, h2]
      go_enter Tryz.func31, Tryz.ntmps31
      go_wp2
      go_loop [3] (fun i => ∃ k : Nat, k ≤ s.size ∧ i = .int .i64 k ∧ nmTo s k = true) (fun i => s.size - (intOf i).toNat)
      case atStart => exact ⟨0, Nat.zero_le _, rfl, rfl⟩
      case round =>
        obtain ⟨k, hk, rfl, hto⟩ := hrel
        have HTO := Lib.hid hto
        clear hto
        by_cases hlt : k < s.size
        · have HS : Hid (nmI s[k].toNat = true → nmTo s (k + 1) = true) := by show _ → _; intro h; rw [nmTo_succ s k hlt, HTO.out, h]; rfl
          have HF : Hid (nmI s[k].toNat = false → nameB s = false) := by show _ → _; exact nmTo_no hlt
          go_wp2
          all_goals
            first
              | (go_round
                 case rel => exact ⟨k + 1, by omega, by go_num, HS.out (by (try simp only [bne_eq_false_iff_eq] at *); simp [nmI]; omega)⟩
                 case measure => simp [intOf]; omega)
              | (go_ret
                 exact ⟨ret_bool (HF.out (by (try simp only [bne_eq_false_iff_eq] at *); simp [nmI]; omega)).symm, rfl⟩)
        · obtain rfl : k = s.size := by omega
          go_wp2
          go_ret
          exact ⟨ret_bool (HN.out HTO.out).symm, rfl⟩
    · have h1' : ¬ (s.size : Int) < 1 := by omega
      have h2' : (12 : Int) < s.size := by omega
      have HN : Hid (nameB s = false) := by show nameB s = _; simp [nameB, h2]
      go_enter Tryz.func31, Tryz.ntmps31
      go_wp2
      go_ret
      exact ⟨ret_bool HN.out.symm, rfl⟩
  · have h1' : (s.size : Int) < 1 := by omega
    have HN : Hid (nameB s = false) := by show nameB s = _; simp [nameB, h1]
    go_enter Tryz.func31, Tryz.ntmps31
    go_wp2
    go_ret
    exact ⟨ret_bool HN.out.symm, rfl⟩
/-- what a call that finds a row of bytes answers: the row lies anywhere -/
def GetRR (A : Nat → Prop) (x : Option (List UInt8)) (w : World) (e : Ending) (w' : World) : Prop := ∃ a n c, e = .returned (.tuple #[.slice a n c, .bool x.isSome]) ∧ RB (UpA A w) w' (.slice a n c) (x.getD []) ∧ n = (x.getD []).length ∧ Below w.heap.size w w'
set_option maxRecDepth 100000 in
set_option maxHeartbeats 1600000 in
theorem rget_any (A : Nat → Prop) (v : Value) (o : ObD) (nm : ByteArray) (w : World) (hv : ObV A w v o) (hl : o.keys.length ≤ 100000) :
    Calls Tryz.prog 74 #[v, .string nm] w (GetRR A (getD o.keys nm) w) := by
  obtain ⟨dv, kv, rfl, hd, hk⟩ := hv
  obtain ⟨da, dc, rfl⟩ := hd.shape
  obtain ⟨ka, kc, rfl⟩ := hk.shape
  obtain ⟨od, ks, os⟩ := o
  simp only at *
  have HK := Lib.hid hk
  clear hd hk
  go_enter Tryz.func74, Tryz.ntmps74
  go_wp2
  obtain ⟨w0, hw0⟩ : ∃ w0, w0 = w.alloc (.cells #[.slice da od.length dc, .slice ka ks.length kc, .int .i64 os] 25) := ⟨_, rfl⟩
  rw [← hw0]
  have B0 : w0.heap[w.heap.size]? = some (.cells #[.slice da od.length dc, .slice ka ks.length kc, .int .i64 os] 25 (0, 0)) := by rw [hw0]; exact heap_alloc_new _ _
  have hw : Below w.heap.size w w0 := by rw [hw0]; ((repeat' (first | exact Below.refl _ _ | refine below_drewN ?_ _ | refine Below.drew ?_ | refine Below.alloc ?_ ?_ _ | refine Below.trans ?_ (Below.mono (by assumption) ?_))); all_goals (first | exact Nat.le_refl _ | exact Below.size (by assumption) | omega | (simp; done) | (simp; omega)))
  have HK0 := Lib.hid (HK.out.ext hw)
  have HW := Lib.hid hw
  obtain ⟨x1, f1⟩ := blk_cell (i := 1) B0
  simp at x1
  clear hw0 hw B0
  go_loop [6] (fun i => ∃ k : Nat, k ≤ ks.length ∧ i = .int .i64 k ∧ k ≤ ixN (fun k => decide (k.name = nm)) ks) (fun i => ks.length - (intOf i).toNat)
  case atStart => exact ⟨0, Nat.zero_le _, rfl, Nat.zero_le _⟩
  case round =>
    obtain ⟨k, hk, rfl, hix⟩ := hrel
    have HIX := Lib.hid hix
    clear hix
    by_cases hlt : k < ks.length
    · obtain ⟨b, off, v, rfl, hb, -, c3, c4, hv⟩ := Keys.at HK0.out hlt
      obtain ⟨va, vc, rfl⟩ := hv.shape
      have HV : Hid (RB (UpA A w) w0 (.slice va (ks[k]).value.length vc) (ks[k]).value) := Lib.hid (hv.weak fun _ _ h => .inl h)
      clear hv
      by_cases hx : (ks[k]).name = nm
      · have HX : Hid (getD ks nm = some (ks[k]).value) := by
          show getD ks nm = _
          rcases ix_ways (fun k => decide (k.name = nm)) ks with ⟨e1, e2⟩ | ⟨j, hj, e1, e2⟩
          · have := List.find?_eq_none.1 e2 _ (List.getElem_mem hlt)
            simp [hx] at this
          · have h1 := ixR_hit HIX.out hlt (by simp [hx])
            obtain rfl : j = k := by rw [h1] at e1; omega
            unfold getD
            rw [e2]
            rfl
        have hxe := eqL (ks[k]).name nm
        have hxt : decide ((ks[k]).name = nm) = true := by simp [hx]
        rw [hxt] at hxe
        clear hx hxt
        go_wp2
        go_ret2
        show GetRR _ _ _ _ _
        rw [HX.out]
        exact ⟨_, _, _, rfl, HV.out, rfl, HW.out⟩
      · have HI : Hid (k + 1 ≤ ixN (fun k => decide (k.name = nm)) ks) := ixN_miss HIX.out hlt (by simp [hx])
        have hxe := eqL (ks[k]).name nm
        have hxt : decide ((ks[k]).name = nm) = false := by simp [hx]
        rw [hxt] at hxe
        clear hx hxt
        go_wp2
        go_round
        case rel => exact ⟨k + 1, by omega, by go_num, HI.out⟩
        case measure => simp [intOf]; omega
    · have HX : Hid (getD ks nm = none) := by
        show getD ks nm = _
        have h1 := ixR_none (ks := ks) (p := fun k => decide (k.name = nm)) (by have := HIX.out; omega)
        rcases ix_ways (fun k => decide (k.name = nm)) ks with ⟨e1, e2⟩ | ⟨j, hj, e1, e2⟩
        · unfold getD
          rw [e2]
          rfl
        · rw [h1] at e1; omega
      go_wp2
      go_ret2
      show GetRR _ _ _ _ _
      rw [HX.out]
      exact ⟨_, _, _, rfl, RB.nil _ _, rfl, HW.out⟩
end Go.Proofs.YtgdilkhaopnhaaaGreatDoor
