/- Walks of the board's methods that touch no notice: Watch, Watchers, Open. -/
import Derived.Test.YtiikkglgoanpbaaRising
namespace Go.Proofs.Ytiikkglgoanpbaa
open Go.RowKit Go.Maps Go.WideShapes

theorem okI_of {k : Int} (h0 : -9223372036854775808 ≤ k) (h1 : k ≤ 9223372036854775807) : okI k := by
  exact WalkArith.wf_i64 ⟨h0, h1⟩

def insL (k : Int) : List Int → List Int
  | [] => [k]
  | q :: r => if k < q then k :: q :: r else q :: insL k r
def remS (k : Int) (l : List Int) : List Int := l.filter fun x => !(x == k)
def insS (k : Int) (l : List Int) : List Int := insL k (remS k l)
theorem setV_ins (k : Int) (l : List Int) : insI (k, .bool true) (setV l) = setV (insL k l) := by
  induction l with
  | nil => rfl
  | cons q r ih =>
    simp only [setV, List.map_cons, insI, insL]
    split
    · rfl
    · simp only [List.map_cons]; exact congrArg _ ih
theorem setV_rem (k : Int) (l : List Int) : delI k (setV l) = setV (remS k l) := by
  simp only [delI, setV, remS, List.filter_map]
  rfl
theorem setV_put (k : Int) (l : List Int) : putI k (.bool true) (setV l) = setV (insS k l) := by
  rw [putI, setV_rem, setV_ins]; rfl
theorem setV_get (k : Int) (l : List Int) : getI k (setV l) = if k ∈ l then some (.bool true) else none := by
  simp only [getI, setV, List.find?_map]
  induction l with
  | nil => rfl
  | cons q r ih =>
    simp only [List.find?_cons, Function.comp]
    by_cases h : q = k
    · simp [h]
    · have h1 : (q == k) = false := by simp [h]
      have h2 : k ≠ q := fun e => h e.symm
      simp only [h1, List.mem_cons, h2, false_or]
      exact ih
theorem setV_length (l : List Int) : (setV l).length = l.length := by simp [setV]
theorem setV_keys (l : List Int) : (setV l).map (·.1) = l := by simp [setV, Function.comp_def]

def mayI (at_ : Int) : Bool := decide (0 ≤ at_) && decide (at_ < 4)
def mayW (at_ who : Int) : Bool := mayI at_ && decide (0 ≤ who) && decide (who < 8)
def Brd.put (B : Brd) (i : Nat) (l : List Int) : Brd := { B with wl := fun j => if j = i then l else B.wl j }
def Brd.add (B : Brd) (at_ who : Int) : Brd := if mayW at_ who then B.put at_.toNat (insS who (B.wl at_.toNat)) else B

theorem IsB.wm_ne {w : World} {B : Brd} (h : IsB w B) : (∀ i, i < 4 → ∀ j, j < 4 → i ≠ j → B.wm i ≠ B.wm j) ∧ (∀ i, i < 4 → B.wm i ≠ B.pb ∧ B.wm i ≠ B.nb ∧ ∀ n ∈ B.ns, B.wm i ≠ n.blk ∧ B.wm i ≠ n.mb) := by
  have hn := h.nodup
  simp only [Brd.fp, List.nodup_cons, List.mem_cons, List.mem_flatMap, not_or] at hn
  obtain ⟨⟨a1, a2, a3, a4, a5, a6⟩, ⟨b1, b2, b3, b4, b5⟩, ⟨c1, c2, c3, c4⟩, ⟨d1, d2, d3⟩, ⟨e1, e2⟩, f1, _⟩ := hn
  refine ⟨?_, ?_⟩
  · intro i hi j hj hij
    obtain rfl | rfl | rfl | rfl : i = 0 ∨ i = 1 ∨ i = 2 ∨ i = 3 := by omega
    all_goals
      obtain rfl | rfl | rfl | rfl : j = 0 ∨ j = 1 ∨ j = 2 ∨ j = 3 := by omega
      all_goals first | exact absurd rfl hij | assumption | exact Ne.symm (by assumption)
  · have key : ∀ x, (¬∃ n, n ∈ B.ns ∧ (x = n.blk ∨ x = n.mb ∨ x ∈ [])) → ∀ n ∈ B.ns, x ≠ n.blk ∧ x ≠ n.mb := by
      intro x hx n hn
      refine ⟨fun e => hx ⟨n, hn, by simp [e]⟩, fun e => hx ⟨n, hn, by simp [e]⟩⟩
    intro i hi
    obtain rfl | rfl | rfl | rfl : i = 0 ∨ i = 1 ∨ i = 2 ∨ i = 3 := by omega
    · exact ⟨Ne.symm a2, Ne.symm b1, key _ c4⟩
    · exact ⟨Ne.symm a3, Ne.symm b2, key _ d3⟩
    · exact ⟨Ne.symm a4, Ne.symm b3, key _ e2⟩
    · exact ⟨Ne.symm a5, Ne.symm b4, key _ f1⟩

/-- one image's watchers turn -/
theorem IsB.putW {w w' : World} {B : Brd} (h : IsB w B) {i : Nat} (hi : i < 4) {l : List Int} (hm : MI w' (B.wm i) (setV l)) (ht : w.mapTurned w' (B.wm i)) : IsB w' (B.put i l) := by
  obtain ⟨h1, h2⟩ := h.wm_ne
  obtain ⟨h3, h4, h5⟩ := h2 i hi
  refine ⟨(turned_block ht (Ne.symm h3)).trans h.self, ?_, h.nots.block (turned_block ht (Ne.symm h4)), ?_, h.nodup⟩
  · intro j hj
    show MI w' (B.wm j) (setV (if j = i then l else B.wl j))
    by_cases e : j = i
    · subst e; rw [if_pos rfl]; exact hm
    · rw [if_neg e]
      exact (h.watch j hj).block (turned_block ht (h1 j hj i hi e))
  · intro n hn
    have := h.each n hn
    obtain ⟨g1, g2⟩ := h5 n hn
    exact ⟨(turned_block ht (Ne.symm g1)).trans this.1, this.2.block (turned_block ht (Ne.symm g2))⟩

theorem self_cells {w : World} {B : Brd} (h : IsB w B) : w.cell? ⟨B.pb, 0, none⟩ = some (.map (some (B.wm 0))) ∧ w.cell? ⟨B.pb, 1, none⟩ = some (.map (some (B.wm 1))) ∧ w.cell? ⟨B.pb, 2, none⟩ = some (.map (some (B.wm 2))) ∧ w.cell? ⟨B.pb, 3, none⟩ = some (.map (some (B.wm 3))) ∧ w.cell? ⟨B.pb, 4, none⟩ = some (.map (some B.nb)) ∧ w.cell? ⟨B.pb, 5, none⟩ = some (.int .i64 B.last) := by
  have := h.self
  simp [World.cell?, this]

set_option maxHeartbeats 1600000 in
theorem watch_no (B : Brd) (at_ who : Int) (w : World) (hno : mayW at_ who = false) (p : Option Addr) :
    Calls Try.prog 10 #[.pointer p, .int .i64 at_, .int .i64 who] w fun e w' => e = .returned (.bool false) ∧ w = w' := by
  cases p with
  | none =>
    go_enter Try.func10, Try.ntmps10
    go_wp2
    go_ret
    exact ⟨rfl, rfl⟩
  | some a =>
    have fin : ∀ P : Prop, (at_ < 0 → P) → (0 ≤ at_ → 4 ≤ at_ → P) → (0 ≤ at_ → at_ < 4 → who < 0 → P) → (0 ≤ at_ → at_ < 4 → 0 ≤ who → 8 ≤ who → P) → P := by
      intro P h1 h2 h3 h4
      simp [mayW, mayI] at hno
      rcases Int.lt_or_le at_ 0 with g | g
      · exact h1 g
      rcases Int.lt_or_le at_ 4 with g2 | g2
      · rcases Int.lt_or_le who 0 with g3 | g3
        · exact h3 g g2 g3
        · exact h4 g g2 g3 (by omega)
      · exact h2 g g2
    clear hno
    refine fin _ ?_ ?_ ?_ ?_ <;> clear fin
    all_goals
      intros
      go_enter Try.func10, Try.ntmps10
      go_wp2
      go_ret
      exact ⟨rfl, rfl⟩

set_option maxRecDepth 100000 in
set_option maxHeartbeats 1600000 in
theorem watch_yes (B : Brd) (i : Nat) (who : Int) (w : World) (hB : IsB w B) (hi : i < 4) (h0 : 0 ≤ who) (h1 : who < 8) (hl : (B.wl i).length ≤ 100000) :
    Calls Try.prog 10 #[.pointer (some ⟨B.pb, 0, none⟩), .int .i64 i, .int .i64 who] w fun e w' => e = .returned (.bool true) ∧ IsB w' (B.put i (insS who (B.wl i))) ∧ w.mapTurned w' (B.wm i) := by
  obtain ⟨w', hrun, hm, ht⟩ := (hB.watch i hi).put Try.underlying3 Try.underlying54 (by rw [setV_length]; unfold maxLen; omega) (okI_of (k := who) (by omega) (by omega)) (.bool true)
  rw [setV_put] at hm
  have HF := Lib.hid (And.intro (hB.putW hi hm ht) ht)
  obtain ⟨c0, c1, c2, c3, c4, c5⟩ := self_cells hB
  clear hm ht hB hl
  obtain rfl | rfl | rfl | rfl : i = 0 ∨ i = 1 ∨ i = 2 ∨ i = 3 := by omega
  all_goals
    go_enter Try.func10, Try.ntmps10
    go_wp2
    go_ret
    exact ⟨rfl, HF.out⟩
end Go.Proofs.Ytiikkglgoanpbaa
