/- The walk of Add of terrazzoref14. -/
import Derived.Test.YtiikkglgoanpbaaRefB14
namespace Go.Proofs.Ytiikkglgoanpbaa
open Go.RowKit Go.Maps Go.WideShapes

section
variable {A A' : Nat → Prop} {w w' : World} {size n : Nat} {v : Value} {xs : List Value} {l : List Int} {ns : List Nt} {f : Nat → List Int} {B : Brd}
/-- what is read lies in the heap -/
theorem SlA.cut (h : SlA A w size v n xs) : SlA (fun b => A b ∧ b < w.heap.size) w size v n xs := by
  obtain ⟨h1, h2⟩ := h
  refine ⟨h1, h2.imp id ?_⟩
  rintro ⟨b, off, cap, rfl, hl, hA, hc, hx⟩
  exact ⟨b, off, cap, rfl, hl, ⟨hA, hl⟩, hc, hx⟩
theorem RL.cut (h : RL A w v l) : RL (fun b => A b ∧ b < w.heap.size) w v l := SlA.cut h
theorem RN.cut (h : RN A w v ns) : RN (fun b => A b ∧ b < w.heap.size) w v ns := by
  obtain ⟨cs, h1, h2, h3⟩ := h
  exact ⟨cs, h1, fun i hi hi' => (h2 i hi hi').cut, h3.cut⟩
theorem RW.cut (h : RW A w v f) : RW (fun b => A b ∧ b < w.heap.size) w v f := by
  obtain ⟨cs, h1, h2, h3⟩ := h
  exact ⟨cs, h1, fun i hi => (h2 i hi).cut, h3.cut⟩
end
/-- old blocks of A, and new ones from k behind the old heap's end on -/
def Far (A : Nat → Prop) (w : World) (k : Nat) (b : Nat) : Prop := A b ∧ b < w.heap.size ∨ w.heap.size + k ≤ b
theorem Far.up (A : Nat → Prop) (w : World) (k : Nat) : ∀ b, Far A w k b → UpA A w b := fun b h => h.imp (·.1) (by omega)
theorem not_far {A : Nat → Prop} {w : World} {k j : Nat} (hj : j < k) : ¬ Far A w k (w.heap.size + j) := by unfold Far; omega
theorem not_far0 {A : Nat → Prop} {w : World} {k : Nat} (hj : 0 < k) : ¬ Far A w k w.heap.size := by unfold Far; omega
set_option maxRecDepth 100000 in
set_option maxHeartbeats 1600000 in
theorem radd_no (A : Nat → Prop) (v : Value) (B : Brd) (at_ who : Int) (w : World) (h : IsR A w v B) (hno : mayW at_ who = false) :
    Calls Try.prog 18 #[v, .int .i64 at_, .int .i64 who] w fun e w' => ∃ v', e = .returned (.tuple #[v', .bool false]) ∧ IsR A w' v' B ∧ Below w.heap.size w w' := by
  have H := Lib.hid h
  obtain ⟨wv, nv, rfl, h1, h2⟩ := h
  obtain ⟨wa, wc, rfl⟩ := h1.shape
  obtain ⟨na, nc, rfl⟩ := h2.shape
  clear h1 h2
  have fin : ∀ P : Prop, (at_ < 0 → P) → (0 ≤ at_ → 4 ≤ at_ → P) → (0 ≤ at_ → at_ < 4 → who < 0 → P) → (0 ≤ at_ → at_ < 4 → 0 ≤ who → 8 ≤ who → P) → P := by
    intro P h1 h2 h3 h4
    simp [mayW, mayI] at hno
    rcases Int.lt_or_le at_ 0 with g | g
    · exact h1 g
    rcases Int.lt_or_le at_ 4 with g2 | g2
    · rcases Int.lt_or_le who 0 with g3 | g3
      · exact h3 g g2 g3
      · exact h4 g g2 g3 (by omega)
    · exact h2 g g2
  clear hno
  refine fin _ ?_ ?_ ?_ ?_ <;> clear fin
  all_goals
    intros
    go_enter Try.func18, Try.ntmps18
    go_wp2
    have hb : Below w.heap.size w (((w.alloc (.cells #[.slice wa 4 wc, .slice na B.ns.length nc, .int .i64 B.last] 38)).alloc (.cells #[.slice wa 4 wc, .slice na B.ns.length nc, .int .i64 B.last] 38))) := by ((repeat' (first | exact Below.refl _ _ | refine below_drewN ?_ _ | refine Below.drew ?_ | refine Below.alloc ?_ ?_ _ | refine Below.setCell ?_ ?_ _ | refine Below.trans ?_ (Below.mono (by assumption) ?_))); all_goals (first | exact Nat.le_refl _ | exact Below.size (by assumption) | omega | (simp; done) | (simp; omega)))
    exact bodyPost_ret (v := .tuple #[.agg #[.slice wa 4 wc, .slice na B.ns.length nc, .int .i64 B.last], .bool false]) (by simp [results, Try.results18, go_sem]) rfl ⟨_, rfl, H.out.mono (Same.of_ext hb), hb⟩

theorem list4 {α : Type} {l : List α} (h : l.length = 4) : ∃ a b c d, l = [a, b, c, d] := by
  match l, h with
  | [a, b, c, d], _ => exact ⟨a, b, c, d, rfl⟩
set_option maxRecDepth 100000 in
set_option maxHeartbeats 4000000 in
theorem radd_yes (A : Nat → Prop) (v : Value) (B : Brd) (i : Nat) (who : Int) (w : World) (h : IsR A w v B) (hi : i < 4) (h0 : 0 ≤ who) (h8 : who < 8) (hp : (B.wl i).Pairwise (· < ·)) (hl : (B.wl i).length ≤ 1000) :
    Calls Try.prog 18 #[v, .int .i64 i, .int .i64 who] w fun e w' => ∃ v', e = .returned (.tuple #[v', .bool true]) ∧ IsR (UpA A w) w' v' (B.put i (insS who (B.wl i))) ∧ Below w.heap.size w w' := by
  obtain ⟨wv, nv, rfl, h1, h2⟩ := h
  obtain ⟨wa, wc, rfl⟩ := h1.shape
  obtain ⟨na, nc, rfl⟩ := h2.shape
  obtain ⟨cs, g1, g2, g3⟩ := h1.cut
  have HN := Lib.hid h2.cut
  have HS := Lib.hid g3
  have HE := Lib.hid g2
  have HP := Lib.hid hp
  have h1c := Lib.hid g1
  have HLL := Lib.hid hl
  obtain ⟨i0, hi', hz0, hz1, hz2⟩ := info_parts Try.infoRow
  have hone : Hid (∀ u ∈ cs, u.oneCell' = true) := fun u hu => by
    obtain ⟨j, hj, rfl⟩ := List.getElem_of_mem hu
    exact (HE.out j hj).one
  clear h1 h2 g1 g2 g3 hp hl
  go_enter Try.func18, Try.ntmps18
  go_wp2_with (first | (at_builtin; refine wpList_append_sl rfl _ _ 35 rfl (w.heap.size + 2) 22 i0 (.slice none 0 0) 1 24 Try.underlying35 hi' hz0 hz1 hz2 rfl (by decide) _ 0 [] rfl (World.ownsRow_nil _ _ _ _) (fun b => A b ∧ b < w.heap.size) _ 4 cs rfl ?cS hone.out ?c4 ?c5 ?c6 ?_) | go_in)
  case cS =>
    refine SlA.ext HS.out ?_
    ((repeat' (first | exact Below.refl _ _ | refine below_drewN ?_ _ | refine Below.drew ?_ | refine Below.alloc ?_ ?_ _ | refine Below.setCell ?_ ?_ _ | refine Below.trans ?_ (Below.mono (by assumption) ?_))); all_goals (first | exact Nat.le_refl _ | exact Below.size (by assumption) | omega | (simp; done) | (simp; omega)))
  case c4 => unfold maxLen; omega
  case c5 => omega
  case c6 => simp
  intro v1 w2 ho hg
  have hb0 : w2.heap[w.heap.size]? = some (.cells #[.slice wa 4 wc, .slice na B.ns.length nc, .int .i64 B.last] 38 (0, 0)) := by
    rw [hg.block _ (by simp; omega) (by simp [Value.ownBlock]), Below.heap_alloc _ _ _ (by simp)]
    exact heap_alloc_new w _
  have hb1 : w2.heap[w.heap.size + 1]? = some (.cells #[.slice none 0 0, .slice none 0 0, .int .i64 0] 38 (0, 0)) := by
    rw [hg.block _ (by simp) (by simp [Value.ownBlock])]
    exact heap_alloc_new' _ _ (by simp)
  have hsz : w.heap.size + 2 ≤ w2.heap.size := by have := hg.size; simpa using this
  have hbel : Below w.heap.size w w2 := (((Below.refl _ w).alloc (Nat.le_refl _) _).alloc (by simp) _).grown hg (by simp; omega) fun j hj => by simp [Value.ownBlock] at hj
  obtain ⟨g, cap, rfl⟩ := row_some ho (by omega)
  have hgl := ho.lt g rfl
  have hil : i < cs.length := by have := h1c.out; omega
  have hcg : w2.cell? ⟨g, i, none⟩ = some cs[i] := by
    have h1 : w2.cell? ⟨g, i, none⟩ = _ := ho.cellAt i (by omega)
    rw [h1, List.getElem?_eq_getElem hil]
  obtain ⟨ua, uc, hu⟩ := SlA.shape (HE.out i hil)
  have HU : Hid (RL (fun b => A b ∧ b < w.heap.size) w2 (.slice ua (B.wl i).length uc) (B.wl i)) := by
    show RL _ _ _ _
    rw [← hu]
    exact (HE.out i hil).mono (Same.of_below hbel fun b hb => hb.2)
  rw [hu] at hcg
  have hfg : w2.frozen? ⟨g, i, none⟩ = false := ho.frozenAt i
  have HO := Lib.hid ho
  have HB0 := Lib.hid hb0
  have HB1 := Lib.hid hb1
  have HBL := Lib.hid hbel
  have HIL := Lib.hid hil
  have hg2 := hgl.1
  have hg3 := hgl.2
  have x0 : w2.cell? ⟨w.heap.size, 0, none⟩ = some (.slice wa 4 wc) := by simpa using (blk_cell (i := 0) hb0).1
  clear ho hg hb0 hb1 hbel hgl hu hil
  go_wp2_with fail
  refine (put_any (fun b => A b ∧ b < w.heap.size) _ (B.wl i) who _ HU.out HP.out HLL.out).mono ?_
  rintro e w3 ⟨v3, rfl, hv3, hb3⟩
  obtain ⟨v3a, v3c, rfl⟩ := SlA.shape hv3
  clear x0 hcg hfg
  have ho3 := owns_ext HO.out hb3
  have y0 : w3.heap[w.heap.size]? = _ := (hb3.block _ (by omega)).trans HB0.out
  have y1 : w3.heap[w.heap.size + 1]? = _ := (hb3.block _ (by omega)).trans HB1.out
  obtain ⟨a0, f0⟩ := blk_cell (i := 0) y0
  obtain ⟨a1, f1⟩ := blk_cell (i := 1) y0
  obtain ⟨a2, f2⟩ := blk_cell (i := 2) y0
  obtain ⟨b0, g0⟩ := blk_cell (i := 0) y1
  obtain ⟨b1, g1⟩ := blk_cell (i := 1) y1
  obtain ⟨b2, g2⟩ := blk_cell (i := 2) y1
  simp at a0 a1 a2 b0 b1 b2
  have hcg : w3.cell? ⟨g, i, none⟩ = some (cs[i]'HIL.out) := by
    have h1 : w3.cell? ⟨g, i, none⟩ = _ := ho3.cellAt i (by omega)
    rw [h1, List.getElem?_eq_getElem HIL.out]
  have hfg : w3.frozen? ⟨g, i, none⟩ = false := ho3.frozenAt i
  have hn1 : g ≠ w.heap.size := by omega
  have hn2 : g ≠ w.heap.size + 1 := by omega
  have hs2 := hb3.size
  have fin : IsR (Far A w 2) (w3.setCell ⟨g, i, none⟩ (.slice v3a (insS who (B.wl i)).length v3c)) (.agg #[.slice (some ⟨g, 0, none⟩) 4 cap, .slice na B.ns.length nc, .int .i64 B.last]) (B.put i (insS who (B.wl i))) := by
    obtain ⟨st1, st2⟩ := ho3.stored i (.slice v3a (insS who (B.wl i)).length v3c)
    have hsame : ∀ S : Nat → Prop, ¬ S g → Same S w3 (w3.setCell ⟨g, i, none⟩ (.slice v3a (insS who (B.wl i)).length v3c)) := fun S hS => (Same.refl S w3).setCell hS _
    have hbw : Below w.heap.size w w3 := HBL.out.trans (hb3.mono (by omega))
    refine ⟨_, _, rfl, ⟨cs.set i (.slice v3a (insS who (B.wl i)).length v3c), by simp [h1c.out], fun j hj => ?_, (SlA.of_owns st1).weak fun b hb => .inr hb⟩, ?_⟩
    · have hjl : j < cs.length := by simpa using hj
      rw [List.getElem_set]
      by_cases e : i = j
      · subst e
        rw [if_pos rfl]
        have : (B.put i (insS who (B.wl i))).wl i = insS who (B.wl i) := by simp [Brd.put]
        rw [this]
        refine (RL.mono hv3 (hsame _ ?_)).weak fun b hb => ?_
        · rintro (hb | hb) <;> omega
        · rcases hb with hb | hb
          · exact .inl hb
          · exact .inr (by omega)
      · rw [if_neg e]
        have : (B.put i (insS who (B.wl i))).wl j = B.wl j := by simp only [Brd.put]; rw [if_neg (by omega)]
        rw [this]
        refine (((HE.out j hjl).mono (Same.of_below hbw fun b hb => hb.2)).mono (hsame _ ?_)).weak fun b hb => .inl hb
        omega
    · show RN _ _ _ B.ns
      refine ((HN.out.mono (Same.of_below hbw fun b hb => hb.2)).mono (hsame _ ?_)).weak fun b hb => .inl hb
      omega
  have FIN := Lib.hid fin
  have HBW : Hid (Below w.heap.size w w3) := HBL.out.trans (hb3.mono (by omega))
  clear fin hv3 hb3 ho3 y0 y1
  go_wp2
  refine bodyPost_ret (v := .tuple #[.agg #[.slice (some ⟨g, 0, none⟩) 4 cap, .slice na B.ns.length nc, .int .i64 B.last], .bool true]) (by simp [results, Try.results18, go_sem, b0, b1, b2]) rfl ⟨_, rfl, (FIN.out.mono ?_).weak (Far.up A w 2), ?_⟩
  · refine Same.setCell (Same.setCell (Same.setCell (Same.setCell (Same.refl _ _) ?_ _) ?_ _) ?_ _) ?_ _
    · exact not_far0 (by omega)
    · exact not_far (by omega)
    · exact not_far (by omega)
    · exact not_far (by omega)
  · refine Below.setCell (Below.setCell (Below.setCell (Below.setCell (Below.setCell HBW.out ?_ _) ?_ _) ?_ _) ?_ _) ?_ _ <;> (simp; try omega)
theorem radd_any (A : Nat → Prop) (v : Value) (B : Brd) (at_ who : Int) (w : World) (h : IsR A w v B) (hp : ∀ i, i < 4 → (B.wl i).Pairwise (· < ·)) (hl : ∀ i, (B.wl i).length ≤ 1000) :
    Calls Try.prog 18 #[v, .int .i64 at_, .int .i64 who] w fun e w' => ∃ v', e = .returned (.tuple #[v', .bool (mayW at_ who)]) ∧ IsR (UpA A w) w' v' (B.add at_ who) ∧ Below w.heap.size w w' := by
  unfold Brd.add
  cases hm : mayW at_ who
  · refine (radd_no A v B at_ who w h hm).mono ?_
    rintro e w' ⟨v', rfl, h1, h2⟩
    exact ⟨v', rfl, h1.weak (UpA.of A w), h2⟩
  · have h' := hm
    simp [mayW, mayI] at h'
    obtain ⟨i, rfl⟩ := Int.eq_ofNat_of_zero_le h'.1.1.1
    exact radd_yes A v B i who w h (by omega) h'.1.2 h'.2 (hp i (by omega)) (hl i)
end Go.Proofs.Ytiikkglgoanpbaa
