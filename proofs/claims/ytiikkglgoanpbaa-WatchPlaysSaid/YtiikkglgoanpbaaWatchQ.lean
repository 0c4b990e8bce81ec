/- Walks of the board's methods Watchers, Open, Missing, Ack. -/
import Derived.Test.YtiikkglgoanpbaaWatchP
namespace Go.Proofs.Ytiikkglgoanpbaa
open Go.RowKit Go.Maps Go.WideShapes

theorem watch_any (B : Brd) (at_ who : Int) (w : World) (hB : IsB w B) (hl : ∀ i, i < 4 → (B.wl i).length ≤ 100000) :
    Calls Try.prog 10 #[.pointer (some ⟨B.pb, 0, none⟩), .int .i64 at_, .int .i64 who] w fun e w' => e = .returned (.bool (mayW at_ who)) ∧ IsB w' (B.add at_ who) ∧ Fr (· ∈ B.fp) w w' := by
  cases h : mayW at_ who
  · refine (watch_no B at_ who w h _).mono ?_
    rintro e w' ⟨rfl, rfl⟩
    exact ⟨rfl, by unfold Brd.add; rw [h]; exact hB, Fr.refl _ _⟩
  · have h' := h
    simp [mayW, mayI] at h'
    obtain ⟨i, rfl⟩ := Int.eq_ofNat_of_zero_le h'.1.1.1
    have hi : i < 4 := by omega
    refine (watch_yes B i who w hB hi h'.1.2 h'.2 (hl i hi)).mono ?_
    rintro e w' ⟨rfl, h1, h2⟩
    refine ⟨rfl, by unfold Brd.add; rw [h]; exact h1, (turned_fr h2).weaken ?_⟩
    rintro k _ rfl
    obtain rfl | rfl | rfl | rfl : i = 0 ∨ i = 1 ∨ i = 2 ∨ i = 3 := by omega
    all_goals simp [Brd.fp]

theorem open_nil (w : World) : Calls Try.prog 16 #[.pointer none] w fun e w' => e = .returned (.int .i64 0) ∧ w = w' := by
  go_enter Try.func16, Try.ntmps16
  go_wp2
  go_ret
  exact ⟨rfl, rfl⟩
theorem open_any (B : Brd) (w : World) (hB : IsB w B) :
    Calls Try.prog 16 #[.pointer (some ⟨B.pb, 0, none⟩)] w fun e w' => e = .returned (.int .i64 B.ns.length) ∧ w = w' := by
  have hlen := fun ty => hB.nots.len Try.underlying53 ty
  simp only [ntV, List.length_map] at hlen
  obtain ⟨c0, c1, c2, c3, c4, c5⟩ := self_cells hB
  clear hB
  go_enter Try.func16, Try.ntmps16
  go_wp2
  go_ret
  exact ⟨rfl, rfl⟩

/-- what a call that hands back a fresh list of numbers leaves -/
def Fresh (w : World) (l : List Int) (e : Ending) (w' : World) : Prop := ∃ v : Value, e = .returned v ∧ w'.ownsRow w.heap.size 3 1 v l.length (l.map (Value.int .i64)) ∧ (v = .slice none 0 0 ↔ l = []) ∧ Below w.heap.size w w'
theorem Fresh.none (w : World) : Fresh w [] (.returned (.slice none 0 0)) w := ⟨_, rfl, World.ownsRow_nil _ _ _ _, by simp, Below.refl _ _⟩

theorem rising_set (b : Nat) (l : List Int) (w : World) (hm : MI w b (setV l)) (hmax : l.length ≤ 100000) : Calls Try.prog 29 #[.map (some b)] w (Fresh w l) := by
  have := risingA b (setV l) w hm (by rw [setV_length]; exact hmax)
  rw [setV_length, setV_keys] at this
  refine this.mono ?_
  rintro e w' ⟨v, h1, h2, h3, h4⟩
  exact ⟨v, h1, h2, by rw [h3]; simp [setV], h4⟩

set_option maxHeartbeats 1600000 in
theorem watchers_no (at_ : Int) (w : World) (hno : mayI at_ = false) (p : Option Addr) :
    Calls Try.prog 24 #[.pointer p, .int .i64 at_] w (Fresh w []) := by
  cases p with
  | none =>
    go_enter Try.func24, Try.ntmps24
    go_wp2
    go_ret
    exact Fresh.none _
  | some a =>
    by_cases h : at_ < 0
    · clear hno
      go_enter Try.func24, Try.ntmps24
      go_wp2
      go_ret
      exact Fresh.none _
    · have h4 : 4 ≤ at_ := by simp [mayI] at hno; omega
      have h0 : 0 ≤ at_ := by omega
      have hd : decide (at_ < 4) = false := by simp; omega
      clear hno h
      go_enter Try.func24, Try.ntmps24
      go_wp2
      go_ret
      exact Fresh.none _
set_option maxRecDepth 100000 in
set_option maxHeartbeats 1600000 in
theorem watchers_yes (B : Brd) (i : Nat) (w : World) (hB : IsB w B) (hi : i < 4) (hl : (B.wl i).length ≤ 100000) :
    Calls Try.prog 24 #[.pointer (some ⟨B.pb, 0, none⟩), .int .i64 i] w (Fresh w (B.wl i)) := by
  have hr := rising_set (B.wm i) (B.wl i) w (hB.watch i hi) hl
  obtain ⟨c0, c1, c2, c3, c4, c5⟩ := self_cells hB
  have HR := Lib.hid hr
  clear hr hB hl
  obtain rfl | rfl | rfl | rfl : i = 0 ∨ i = 1 ∨ i = 2 ∨ i = 3 := by omega
  all_goals
    go_enter Try.func24, Try.ntmps24
    go_wp2_with (first | (go_at_call 29; refine HR.out.mono ?_; rintro e w' ⟨v, rfl, hf⟩) | go_in)
    have HF := Lib.hid hf
    clear hf
    obtain ⟨a3, c3', rfl⟩ := owns_shape HF.out.1
    go_wp2
    go_ret
    exact ⟨_, rfl, HF.out⟩

/-! The notices -/
def findN (id : Int) (ns : List Nt) : Option Nt := ns.find? fun n => n.id == id
theorem ntV_get (id : Int) (ns : List Nt) : getI id (ntV ns) = (findN id ns).map fun n => .pointer (some ⟨n.blk, 0, none⟩) := by
  simp only [getI, ntV, findN, List.find?_map, Option.map_map]
  rfl
theorem findN_mem {id : Int} {ns : List Nt} {n : Nt} (h : findN id ns = some n) : n ∈ ns ∧ n.id = id := by
  refine ⟨List.mem_of_find?_eq_some h, ?_⟩
  have := List.find?_some h
  simpa using this
theorem zero_notice (w : World) : (zeroValue 59).run Try.prog w = .ok (.pointer none) w := by kernel_rfl
theorem zero_bool (w : World) : (zeroValue 4).run Try.prog w = .ok (.bool false) w := by kernel_rfl
def Brd.missL (B : Brd) (id : Int) : List Int := match findN id B.ns with
  | some n => n.miss
  | none => []
theorem note_cells {w : World} {B : Brd} (h : IsB w B) {n : Nt} (hn : n ∈ B.ns) : w.cell? ⟨n.blk, 0, none⟩ = some (.int .i64 n.at_) ∧ w.cell? ⟨n.blk, 1, none⟩ = some (.map (some n.mb)) := by
  have := (h.each n hn).1
  simp [World.cell?, this]

set_option maxRecDepth 100000 in
set_option maxHeartbeats 1600000 in
theorem missing_nil (id : Int) (w : World) : Calls Try.prog 13 #[.pointer none, .int .i64 id] w (Fresh w []) := by
  go_enter Try.func13, Try.ntmps13
  go_wp2
  go_ret
  exact Fresh.none _
set_option maxRecDepth 100000 in
set_option maxHeartbeats 1600000 in
theorem missing_any (B : Brd) (id : Int) (w : World) (hB : IsB w B) (hok : okI id) (hl : ∀ n ∈ B.ns, n.miss.length ≤ 100000) :
    Calls Try.prog 13 #[.pointer (some ⟨B.pb, 0, none⟩), .int .i64 id] w (Fresh w (B.missL id)) := by
  obtain ⟨c0, c1, c2, c3, c4, c5⟩ := self_cells hB
  have hlook := hB.nots.look Try.underlying3 Try.underlying53 (zero_notice w) hok
  rw [ntV_get] at hlook
  have HM : Hid (B.missL id = match findN id B.ns with | some n => n.miss | none => []) := rfl
  cases hf : findN id B.ns with
  | none =>
    rw [hf] at hlook HM
    simp only [Option.map_none, Option.getD_none] at hlook
    rw [show B.missL id = [] from HM.out]
    clear hB hf hl HM
    go_enter Try.func13, Try.ntmps13
    go_wp2
    go_ret
    exact Fresh.none _
  | some n =>
    rw [hf] at hlook HM
    obtain ⟨hn, hid⟩ := findN_mem hf
    simp only [Option.map_some, Option.getD_some] at hlook
    have hr := rising_set n.mb n.miss w (hB.each n hn).2 (hl n hn)
    obtain ⟨n0, n1⟩ := note_cells hB hn
    rw [show B.missL id = n.miss from HM.out]
    have HR := Lib.hid hr
    clear hr hB hf hl HM hn hid
    go_enter Try.func13, Try.ntmps13
    go_wp2_with (first | (go_at_call 29; refine HR.out.mono ?_; rintro e w' ⟨v, rfl, hf⟩) | go_in)
    have HF := Lib.hid hf
    clear hf
    obtain ⟨a3, c3', rfl⟩ := owns_shape HF.out.1
    go_wp2
    go_ret
    exact ⟨_, rfl, HF.out⟩
end Go.Proofs.Ytiikkglgoanpbaa
