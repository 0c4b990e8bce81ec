/- The walks of object.right and of what asks whether a name may be. -/
import Derived.Test.YtidikciankcopaaDoorLaid16
import Derived.Test.YtidikciankcopaaDoorSesB
import Derived.Deep.DeepCutAuto
namespace Go.Proofs.YtidikciankcopaaDoor
open Go.RowKit Go.WideShapes

/-- the signs of a name -/
def nameSigns : List UInt8 := [97, 98, 99, 100, 101, 102, 103, 104, 105, 106, 107, 108, 109, 110, 111, 112, 113, 114, 115, 116, 117, 118, 119, 120, 121, 122, 48, 49, 50, 51, 52, 53, 54, 55, 56, 57, 46]
def nameB (s : ByteArray) : Bool := decide (1 ≤ s.size) && decide (s.size ≤ 12) && decide (Lib.trimS s.data.toList nameSigns = [])
theorem trim_any (s : ByteArray) (w : World) (hs : s.size ≤ 9223372036854775807) :
    Calls Tryd.prog 70 #[.string s, .string ⟨#[97, 98, 99, 100, 101, 102, 103, 104, 105, 106, 107, 108, 109, 110, 111, 112, 113, 114, 115, 116, 117, 118, 119, 120, 121, 122, 48, 49, 50, 51, 52, 53, 54, 55, 56, 57, 46]⟩] w fun e w' => e = .returned (.string ⟨(Lib.trimS s.data.toList nameSigns).toArray⟩) ∧ Below w.heap.size w w' :=
  Any.strings_Trim_laid Tryd.trimL (by kernel_rfl) s _ w hs (by decide) (ascii_of_all (by decide))
set_option maxRecDepth 100000 in
set_option maxHeartbeats 1600000 in
theorem oright_any (s : ByteArray) (w : World) : Calls Tryd.prog 69 #[.string s] w fun e w' => e = .returned (.bool (nameB s)) ∧ Below w.heap.size w w' := by
  by_cases h1 : 1 ≤ s.size
  · by_cases h2 : s.size ≤ 12
    · have h1' : (1 : Int) ≤ s.size := by omega
      have h2' : (s.size : Int) ≤ 12 := by omega
      have HN : Hid (nameB s = decide (Lib.trimS s.data.toList nameSigns = [])) := by show nameB s = _; simp [nameB, h1, h2]
      have hsz : s.size ≤ 9223372036854775807 := by omega
      go_enter Tryd.func69, Tryd.ntmps69
      go_wp2_with fail
      refine (trim_any s _ hsz).mono ?_
      rintro e w1 ⟨rfl, hb1⟩
      have HB := Lib.hid hb1
      clear hb1
      by_cases ht : Lib.trimS s.data.toList nameSigns = []
      · have HT := Lib.hid ht
        rw [ht]
        clear ht
        go_wp2
        go_ret
        exact ⟨by rw [HN.out, HT.out]; rfl, HB.out⟩
      · have HT := Lib.hid ht
        have hd : decide ((⟨(Lib.trimS s.data.toList nameSigns).toArray⟩ : ByteArray) = ⟨#[]⟩) = false := by
          have : ¬ ((⟨(Lib.trimS s.data.toList nameSigns).toArray⟩ : ByteArray) = ⟨#[]⟩) := fun e => ht (by
            have := congrArg (fun b : ByteArray => b.data.toList) e
            simpa using this)
          simpa using this
        clear ht
        generalize Lib.trimS s.data.toList nameSigns = L at *
        go_wp2
        go_ret
        exact ⟨by rw [HN.out]; have := HT.out; simp [this], HB.out⟩
    · have h1' : (1 : Int) ≤ s.size := by omega
      have h2' : ¬ (s.size : Int) ≤ 12 := by omega
      have HN : Hid (nameB s = false) := by show nameB s = _; simp [nameB, h2]
      go_enter Tryd.func69, Tryd.ntmps69
      go_wp2
      go_ret
      exact ⟨by rw [HN.out]; rfl, Below.refl _ _⟩
  · have h1' : ¬ (1 : Int) ≤ s.size := by omega
    have HN : Hid (nameB s = false) := by show nameB s = _; simp [nameB, h1]
    go_enter Tryd.func69, Tryd.ntmps69
    go_wp2
    go_ret
    exact ⟨by rw [HN.out]; rfl, Below.refl _ _⟩
set_option maxRecDepth 100000 in
set_option maxHeartbeats 4000000 in
theorem ocheck_one (s : ByteArray) (b : Nat) (w : World) (h0 : w.cell? ⟨b, 0, none⟩ = some (.string s)) (h1 : w.cell? ⟨b, 1, none⟩ = some (.slice none 0 0)) :
    Calls Tryd.prog 66 #[.agg #[.slice none 0 0, .slice (some ⟨b, 0, none⟩) 1 1, .int .i64 0]] w fun e w' => e = .returned (.int .i64 (if nameB s then 0 else 1)) ∧ Below w.heap.size w w' := by
  have hb := World.block_lt_of_cell? w _ h0
  simp only at hb
  obtain ⟨B, hB⟩ : ∃ B, nameB s = B := ⟨_, rfl⟩
  have HR : Hid (∀ W, Calls Tryd.prog 69 #[.string s] W fun e w' => e = .returned (.bool B) ∧ Below W.heap.size W w') := fun W => by rw [← hB]; exact oright_any s W
  rw [hB]
  clear hB
  go_enter Tryd.func66, Tryd.ntmps66
  go_wp2
  obtain ⟨w0, hw0⟩ : ∃ w0, w0 = w.alloc (.cells #[.slice none 0 0, .slice (some ⟨b, 0, none⟩) 1 1, .int .i64 0] 37) := ⟨_, rfl⟩
  rw [← hw0]
  have hw : Below w.heap.size w w0 := by rw [hw0]; ((repeat' (first | exact Below.refl _ _ | refine below_drewN ?_ _ | refine Below.drew ?_ | refine Below.alloc ?_ ?_ _ | refine Below.trans ?_ (Below.mono (by assumption) ?_))); all_goals (first | exact Nat.le_refl _ | exact Below.size (by assumption) | omega | (simp; done) | (simp; omega)))
  have HW := Lib.hid hw
  have z0 := cellExt hw h0
  have z1 := cellExt hw h1
  clear hw hw0 h0 h1
  go_loopw [3, 29] (fun q3 q29 wr => ∃ k : Nat, k ≤ 1 ∧ q29 = .int .i64 k ∧ ((k = 0 ∧ q3 = .bool true) ∨ (k = 1 ∧ q3 = .bool B)) ∧ Below w0.heap.size w0 wr) (fun _ q29 _ => 1 - (intOf q29).toNat)
  case atStart => exact ⟨0, by omega, rfl, .inl ⟨rfl, rfl⟩, Below.refl _ _⟩
  case round =>
    obtain ⟨k, hk, rfl, hor, hbr⟩ := hrel
    have HBR := Lib.hid hbr
    have y0 := cellExt hbr z0
    have y1 := cellExt hbr z1
    have hsr := hbr.size
    clear hbr z0 z1
    rcases hor with ⟨rfl, rfl⟩ | ⟨rfl, rfl⟩
    · cases B with
      | false =>
        go_upto_region 5 with fail
        obtain ⟨wk, hwk⟩ : ∃ wk, wk = wr.alloc (.cells #[.string s, .slice none 0 0] 102) := ⟨_, rfl⟩
        rw [← hwk]
        have K := heap_alloc_new wr (.cells #[.string s, .slice none 0 0] 102)
        rw [← hwk] at K
        have hbk : Below wr.heap.size wr wk := by rw [hwk]; exact (Below.refl _ _).alloc (Nat.le_refl _) _
        have HBK := Lib.hid (HBR.out.trans (hbk.mono hsr))
        have x0 : ∀ n : After wk, n.w.cell? ⟨wr.heap.size, 0, none⟩ = some (.string s) := after_cell (blk_cell (i := 0) K).1
        have x1 : ∀ n : After wk, n.w.cell? ⟨wr.heap.size, 1, none⟩ = some (.slice none 0 0) := after_cell (blk_cell (i := 1) K).1
        clear hwk K hbk y0 y1
        (refine wp_region_after (by kernel_rfl) (by kernel_rfl) ?_
         repeat (first | go_big_quiet_skip | (go_big_quiet_want; go_big_quiet_op; (first | go_big_quiet_on | (apply Exists.intro; refine ⟨fun _ => ?_, ?_⟩; (focus ((go_at_call 69; exact calls_after (HR.out _)))); go_big_quiet_on))))
         refine wpQuiet_nil ?_
         intro _ hw'
         obtain ⟨nq, hw''⟩ := hw'
         subst hw''
         have hq := nq.h)
        have HQ := Lib.hid hq
        clear hq
        go_wp2
        go_roundw
        case rel => exact ⟨1, by omega, rfl, .inr ⟨rfl, rfl⟩, HBK.out.trans (HQ.out.mono HBK.out.size)⟩
        case measure => simp [intOf]
      | true =>
        go_upto_region 5 with fail
        obtain ⟨wk, hwk⟩ : ∃ wk, wk = wr.alloc (.cells #[.string s, .slice none 0 0] 102) := ⟨_, rfl⟩
        rw [← hwk]
        have K := heap_alloc_new wr (.cells #[.string s, .slice none 0 0] 102)
        rw [← hwk] at K
        have hbk : Below wr.heap.size wr wk := by rw [hwk]; exact (Below.refl _ _).alloc (Nat.le_refl _) _
        have HBK := Lib.hid (HBR.out.trans (hbk.mono hsr))
        have x0 : ∀ n : After wk, n.w.cell? ⟨wr.heap.size, 0, none⟩ = some (.string s) := after_cell (blk_cell (i := 0) K).1
        have x1 : ∀ n : After wk, n.w.cell? ⟨wr.heap.size, 1, none⟩ = some (.slice none 0 0) := after_cell (blk_cell (i := 1) K).1
        clear hwk K hbk y0 y1
        (refine wp_region_after (by kernel_rfl) (by kernel_rfl) ?_
         repeat (first | go_big_quiet_skip | (go_big_quiet_want; go_big_quiet_op; (first | go_big_quiet_on | (apply Exists.intro; refine ⟨fun _ => ?_, ?_⟩; (focus ((go_at_call 69; exact calls_after (HR.out _)))); go_big_quiet_on))))
         refine wpQuiet_nil ?_
         intro _ hw'
         obtain ⟨nq, hw''⟩ := hw'
         subst hw''
         have hq := nq.h)
        have HQ := Lib.hid hq
        clear hq
        go_wp2
        go_roundw
        case rel => exact ⟨1, by omega, rfl, .inr ⟨rfl, rfl⟩, HBK.out.trans (HQ.out.mono HBK.out.size)⟩
        case measure => simp [intOf]
    · cases B with
      | false =>
        go_wp2
        go_ret
        exact ⟨rfl, HW.out.trans (HBR.out.mono HW.out.size)⟩
      | true =>
        go_wp2
        go_ret
        exact ⟨rfl, HW.out.trans (HBR.out.mono HW.out.size)⟩
set_option maxRecDepth 100000 in
set_option maxHeartbeats 1600000 in
theorem named_any (s : ByteArray) (w : World) : Calls Tryd.prog 60 #[.string s] w fun e w' => e = .returned (.bool (nameB s)) ∧ Below w.heap.size w w' := by
  go_enter Tryd.func60, Tryd.ntmps60
  go_wp2_with fail
  refine (ocheck_one s w.heap.size _ (by simp) (by simp)).mono ?_
  rintro e w1 ⟨rfl, hb1⟩
  have HB := Lib.hid (((Below.refl _ w).alloc (Nat.le_refl _) _).trans (hb1.mono (by simp)))
  clear hb1
  cases hn : nameB s with
  | false =>
    have HNB := Lib.hid hn
    simp only [hn]
    clear hn
    go_wp2
    go_ret
    exact ⟨by rw [HNB.out]; rfl, HB.out⟩
  | true =>
    have HNB := Lib.hid hn
    simp only [hn]
    clear hn
    go_wp2
    go_ret
    exact ⟨by rw [HNB.out]; rfl, HB.out⟩
end Go.Proofs.YtidikciankcopaaDoor
