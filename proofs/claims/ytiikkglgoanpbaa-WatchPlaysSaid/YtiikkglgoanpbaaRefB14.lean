/- The reference's board by value; the walks of New, Watchers, Missing, Add of terrazzoref14. -/
import Derived.Test.YtiikkglgoanpbaaRefA14
namespace Go.Proofs.Ytiikkglgoanpbaa
open Go.RowKit Go.Maps Go.WideShapes

section
variable {A A' : Nat → Prop} {w w' : World} {v : Value} {l : List Int}
theorem RL.mono (h : RL A w v l) (hs : Same A w w') : RL A w' v l := SlA.mono h hs
theorem RL.weak (h : RL A w v l) (hA : ∀ b, A b → A' b) : RL A' w v l := SlA.weak h hA
theorem RL.ext (h : RL A w v l) (hb : Below w.heap.size w w') : RL A w' v l := SlA.ext h hb
theorem RL.one (h : RL A w v l) : v.oneCell' = true := by obtain ⟨a, c, rfl⟩ := SlA.shape h; rfl
theorem RL.nil (A : Nat → Prop) (w : World) : RL A w (.slice none 0 0) [] := SlA.nil A w 1
theorem UpA.of (A : Nat → Prop) (w : World) : ∀ b, A b → UpA A w b := fun _ h => .inl h
theorem UpA.new (A : Nat → Prop) (w : World) : ∀ b, w.heap.size ≤ b → UpA A w b := fun _ h => .inr h
theorem UpA.up {A : Nat → Prop} {w w' : World} (hs : w.heap.size ≤ w'.heap.size) : ∀ b, UpA A w' b → UpA A w b := fun _ h => h.imp id (Nat.le_trans hs)
end

theorem blk_cell {w : World} {g i : Nat} {t : TypeId} {cs : Array Value} (h : w.heap[g]? = some (.cells cs t (0, 0))) : w.cell? ⟨g, i, none⟩ = cs[i]? ∧ w.frozen? ⟨g, i, none⟩ = false := by
  simp [World.cell?, World.frozen?, h]
def flat : List Nt → List Value → List Value
  | n :: ns, c :: cs => .int .i64 n.id :: .int .i64 n.at_ :: c :: flat ns cs
  | _, _ => []
theorem flat_length : ∀ {ns : List Nt} {cs : List Value}, cs.length = ns.length → (flat ns cs).length = ns.length * 3 := by
  intro ns
  induction ns with
  | nil => intro cs _; cases cs <;> rfl
  | cons n ns ih =>
    intro cs h
    cases cs with
    | nil => simp at h
    | cons c cs =>
      have := ih (cs := cs) (by simpa using h)
      simp only [flat, List.length_cons, this]
      omega
theorem flat_append : ∀ {ns ms : List Nt} {cs ds : List Value}, cs.length = ns.length → flat (ns ++ ms) (cs ++ ds) = flat ns cs ++ flat ms ds := by
  intro ns
  induction ns with
  | nil => intro ms cs ds h; cases cs with
    | nil => rfl
    | cons c cs => simp at h
  | cons n ns ih =>
    intro ms cs ds h
    cases cs with
    | nil => simp at h
    | cons c cs =>
      have := ih (ms := ms) (cs := cs) (ds := ds) (by simpa using h)
      simp only [List.cons_append, flat, this]
theorem flat_at : ∀ {ns : List Nt} {cs : List Value} (_ : cs.length = ns.length) {i : Nat} (hi : i < ns.length) (hc : i < cs.length), (flat ns cs)[i * 3]? = some (.int .i64 ns[i].id) ∧ (flat ns cs)[i * 3 + 1]? = some (.int .i64 ns[i].at_) ∧ (flat ns cs)[i * 3 + 2]? = some cs[i] := by
  intro ns
  induction ns with
  | nil => intro cs _ i hi _; simp at hi
  | cons n ns ih =>
    intro cs h i hi hc
    cases cs with
    | nil => simp at hc
    | cons c cs =>
      cases i with
      | zero => simp [flat]
      | succ i =>
        have := ih (cs := cs) (by simpa using h) (i := i) (by simpa using hi) (by simpa using hc)
        have e : (i + 1) * 3 = i * 3 + 1 + 1 + 1 := by omega
        simp only [flat, e, List.getElem?_cons_succ, List.getElem_cons_succ]
        exact this
theorem flat_one {A : Nat → Prop} {w : World} : ∀ {ns : List Nt} {cs : List Value}, (∀ i (h : i < ns.length) (h' : i < cs.length), RL A w cs[i] ns[i].miss) → ∀ u ∈ flat ns cs, u.oneCell' = true := by
  intro ns
  induction ns with
  | nil => intro cs _ u hu; cases cs <;> simp [flat] at hu
  | cons n ns ih =>
    intro cs h u hu
    cases cs with
    | nil => simp [flat] at hu
    | cons c cs =>
      simp only [flat, List.mem_cons] at hu
      rcases hu with rfl | rfl | rfl | hu
      · rfl
      · rfl
      · exact (h 0 (by simp) (by simp)).one
      · exact ih (fun i hi hi' => h (i + 1) (by simpa using hi) (by simpa using hi')) u hu

def RN (A : Nat → Prop) (w : World) (v : Value) (ns : List Nt) : Prop := ∃ cs : List Value, cs.length = ns.length ∧ (∀ i (h : i < ns.length) (h' : i < cs.length), RL A w cs[i] ns[i].miss) ∧ SlA A w 3 v ns.length (flat ns cs)
def RW (A : Nat → Prop) (w : World) (v : Value) (f : Nat → List Int) : Prop := ∃ cs : List Value, cs.length = 4 ∧ (∀ i (h : i < cs.length), RL A w cs[i] (f i)) ∧ SlA A w 1 v 4 cs
def IsR (A : Nat → Prop) (w : World) (v : Value) (B : Brd) : Prop := ∃ wv nv, v = .agg #[wv, nv, .int .i64 B.last] ∧ RW A w wv B.wl ∧ RN A w nv B.ns
section
variable {A A' : Nat → Prop} {w w' : World} {v : Value} {ns : List Nt} {f : Nat → List Int} {B : Brd}
theorem RN.mono (h : RN A w v ns) (hs : Same A w w') : RN A w' v ns := by
  obtain ⟨cs, h1, h2, h3⟩ := h
  exact ⟨cs, h1, fun i hi hi' => (h2 i hi hi').mono hs, h3.mono hs⟩
theorem RN.weak (h : RN A w v ns) (hA : ∀ b, A b → A' b) : RN A' w v ns := by
  obtain ⟨cs, h1, h2, h3⟩ := h
  exact ⟨cs, h1, fun i hi hi' => (h2 i hi hi').weak hA, h3.weak hA⟩
theorem RW.mono (h : RW A w v f) (hs : Same A w w') : RW A w' v f := by
  obtain ⟨cs, h1, h2, h3⟩ := h
  exact ⟨cs, h1, fun i hi => (h2 i hi).mono hs, h3.mono hs⟩
theorem RW.weak (h : RW A w v f) (hA : ∀ b, A b → A' b) : RW A' w v f := by
  obtain ⟨cs, h1, h2, h3⟩ := h
  exact ⟨cs, h1, fun i hi => (h2 i hi).weak hA, h3.weak hA⟩
theorem IsR.mono (h : IsR A w v B) (hs : Same A w w') : IsR A w' v B := by
  obtain ⟨wv, nv, rfl, h1, h2⟩ := h
  exact ⟨wv, nv, rfl, h1.mono hs, h2.mono hs⟩
theorem IsR.weak (h : IsR A w v B) (hA : ∀ b, A b → A' b) : IsR A' w v B := by
  obtain ⟨wv, nv, rfl, h1, h2⟩ := h
  exact ⟨wv, nv, rfl, h1.weak hA, h2.weak hA⟩
theorem RN.nil (A : Nat → Prop) (w : World) : RN A w (.slice none 0 0) [] := ⟨[], rfl, fun i h => by simp at h, SlA.nil A w 3⟩
theorem RN.shape (h : RN A w v ns) : ∃ a c, v = .slice a ns.length c := by obtain ⟨cs, _, _, h3⟩ := h; exact h3.shape
theorem RW.shape (h : RW A w v f) : ∃ a c, v = .slice a 4 c := by obtain ⟨cs, _, _, h3⟩ := h; exact h3.shape
/-- watchers of one image -/
theorem RW.at {a : Option Addr} {c : Nat} (h : RW A w (.slice a 4 c) f) {i : Nat} (hi : i < 4) : ∃ b off u, a = some ⟨b, off, none⟩ ∧ b < w.heap.size ∧ w.cell? ⟨b, off + i, none⟩ = some u ∧ RL A w u (f i) := by
  obtain ⟨cs, h1, h2, h3⟩ := h
  obtain ⟨b, off, rfl, hb, hA, hc, hx⟩ := h3.at (by omega)
  refine ⟨b, off, cs[i], rfl, hb, ?_, h2 i (by omega)⟩
  rw [hx i (by omega), List.getElem?_eq_getElem (by omega)]
theorem RN.at {a : Option Addr} {c : Nat} (h : RN A w (.slice a ns.length c) ns) {i : Nat} (hi : i < ns.length) : ∃ b off u, a = some ⟨b, off, none⟩ ∧ b < w.heap.size ∧ w.cell? ⟨b, off + i * 3, none⟩ = some (.int .i64 ns[i].id) ∧ w.cell? ⟨b, off + i * 3 + 1, none⟩ = some (.int .i64 ns[i].at_) ∧ w.cell? ⟨b, off + i * 3 + 2, none⟩ = some u ∧ RL A w u ns[i].miss := by
  obtain ⟨cs, h1, h2, h3⟩ := h
  obtain ⟨b, off, rfl, hb, hA, hc, hx⟩ := h3.at (by omega)
  obtain ⟨e0, e1, e2⟩ := flat_at h1 hi (by omega)
  refine ⟨b, off, cs[i]'(by omega), rfl, hb, ?_, ?_, ?_, h2 i hi (by omega)⟩
  · rw [hx _ (by omega), e0]
  · rw [Nat.add_assoc, hx _ (by omega), e1]
  · rw [Nat.add_assoc, hx _ (by omega), e2]
end

/-! Watchers -/
set_option maxRecDepth 100000 in
set_option maxHeartbeats 1600000 in
theorem rwatchers_any (A : Nat → Prop) (v : Value) (B : Brd) (at_ : Int) (w : World) (h : IsR A w v B) :
    Calls Try.prog 25 #[v, .int .i64 at_] w fun e w' => ∃ v', e = .returned v' ∧ RL A w' v' (B.watchL at_) ∧ Below w.heap.size w w' := by
  obtain ⟨wv, nv, rfl, h1, h2⟩ := h
  obtain ⟨wa, wc, rfl⟩ := h1.shape
  have H1 := Lib.hid h1
  clear h1 h2
  unfold Brd.watchL
  cases hm : mayI at_
  · have hc : at_ < 0 ∨ 0 ≤ at_ ∧ 4 ≤ at_ := by simp [mayI] at hm; omega
    clear hm
    rcases hc with hc | ⟨hc, hc'⟩
    all_goals
      go_enter Try.func25, Try.ntmps25
      go_wp2
      go_ret
      exact ⟨_, rfl, RL.nil _ _, (Below.refl _ _).alloc (Nat.le_refl _) _⟩
  · obtain ⟨i, rfl, hi⟩ := mayI_nat hm
    obtain ⟨b, off, u, rfl, hb, hc, hu⟩ := H1.out.at hi
    obtain ⟨ua, uc, rfl⟩ := SlA.shape hu
    have HU := Lib.hid hu
    clear hu hm
    go_enter Try.func25, Try.ntmps25
    go_wp2
    go_ret
    exact ⟨_, rfl, HU.out.ext ((Below.refl _ _).alloc (Nat.le_refl _) _), (Below.refl _ _).alloc (Nat.le_refl _) _⟩

/-! Missing -/
theorem missL_hit {B : Brd} {id : Int} {k : Nat} (hk : k < B.ns.length) (h1 : ∀ i (h : i < B.ns.length), i < k → B.ns[i].id ≠ id) (h2 : B.ns[k].id = id) : B.missL id = B.ns[k].miss := by
  have : findN id B.ns = some B.ns[k] := by
    unfold findN
    rw [List.find?_eq_some_iff_getElem]
    refine ⟨by simpa using h2, k, hk, rfl, fun j hj => ?_⟩
    simpa using h1 j (by omega) hj
  unfold Brd.missL
  rw [this]
theorem missL_none {B : Brd} {id : Int} (h1 : ∀ i (h : i < B.ns.length), B.ns[i].id ≠ id) : B.missL id = [] := by
  have : findN id B.ns = none := by
    unfold findN
    refine List.find?_eq_none.2 fun m hm => ?_
    obtain ⟨i, hi, rfl⟩ := List.getElem_of_mem hm
    simpa using h1 i hi
  unfold Brd.missL
  rw [this]
set_option maxRecDepth 100000 in
set_option maxHeartbeats 1600000 in
theorem rmissing_any (A : Nat → Prop) (v : Value) (B : Brd) (id : Int) (w : World) (h : IsR A w v B) (hl : B.ns.length ≤ 100000) :
    Calls Try.prog 26 #[v, .int .i64 id] w fun e w' => ∃ v', e = .returned v' ∧ RL A w' v' (B.missL id) ∧ Below w.heap.size w w' := by
  obtain ⟨wv, nv, rfl, h1, h2⟩ := h
  obtain ⟨na, nc, rfl⟩ := h2.shape
  obtain ⟨wa, wc, rfl⟩ := h1.shape
  have H2 := Lib.hid h2
  clear h1 h2
  go_enter Try.func26, Try.ntmps26
  go_wp2
  go_loop [5] (fun q => ∃ k : Nat, k ≤ B.ns.length ∧ q = .int .i64 k ∧ Hid (∀ i (h : i < B.ns.length), i < k → B.ns[i].id ≠ id)) (fun q => B.ns.length - (intOf q).toNat)
  case atStart => exact ⟨0, Nat.zero_le _, rfl, fun i h hi => by omega⟩
  case round =>
    obtain ⟨k, hk, rfl, HB⟩ := hrel
    by_cases hlt : k < B.ns.length
    · obtain ⟨b, off, u, rfl, hb, hc0, hc1, hc2, hu⟩ := H2.out.at hlt
      obtain ⟨ua, uc, rfl⟩ := SlA.shape hu
      have HU := Lib.hid hu
      by_cases he : B.ns[k].id = id
      · have hm := Lib.hid (missL_hit hlt HB.out he)
        rw [he] at hc0
        have t1 : (id == id) = true := by simp
        clear hu he
        generalize B.ns[k].miss = ms at *
        go_wp2
        go_ret
        exact ⟨_, rfl, by rw [hm.out]; exact HU.out.ext ((Below.refl _ _).alloc (Nat.le_refl _) _), (Below.refl _ _).alloc (Nat.le_refl _) _⟩
      · have hnext : Hid (∀ i (h : i < B.ns.length), i < k + 1 → B.ns[i].id ≠ id) := fun i h hi => by
          rcases Nat.lt_or_ge i k with g | g
          · exact HB.out i h g
          · obtain rfl : i = k := by omega
            exact he
        have t1 : (B.ns[k].id == id) = false := by rw [beq_eq_false_iff_ne]; exact he
        clear hu he hc1 hc2
        generalize B.ns[k].id = x at hc0 t1
        go_wp2
        go_round
        case rel => exact ⟨k + 1, by omega, by go_num, hnext⟩
        case measure => simp [intOf]; omega
    · have hm := Lib.hid (missL_none (B := B) (id := id) fun i hi => HB.out i hi (by omega))
      go_wp2
      go_ret
      exact ⟨_, rfl, by rw [hm.out]; exact RL.nil _ _, (Below.refl _ _).alloc (Nat.le_refl _) _⟩

/-! New -/
theorem Try.infoRow : (Try.prog.info? 22).map (fun i => (i.zero, i.size, i.bytes)) = some (some (.slice none 0 0), 1, 24) := by kernel_rfl
theorem Try.infoNt : (Try.prog.info? 68).map (fun i => (i.zero, i.size, i.bytes)) = some (some (.agg #[.int .i64 0, .int .i64 0, .slice none 0 0]), 3, 40) := by kernel_rfl
set_option maxRecDepth 100000 in
set_option maxHeartbeats 1600000 in
theorem rnew_any (s : Nat) (w : World) : Calls Try.prog 17 #[] w fun e w' => ∃ v, e = .returned v ∧ IsR (fun b => w.heap.size ≤ b) w' v (newB s) ∧ Below w.heap.size w w' := by
  obtain ⟨i0, hi, hz0, hz1, hz2⟩ := info_parts Try.infoRow
  go_enter Try.func17, Try.ntmps17
  go_wp2_with (first | (at_make; refine wpList_make_full _ rfl _ _ 35 rfl (w.heap.size + 1) 22 i0 (.slice none 0 0) 1 Try.underlying35 hi hz0 hz1 _ _ _ _ 4 rfl rfl rfl rfl ?b2 ?b3 ?b4 ?_) | go_in)
  case b2 => rw [hz2]; omega
  case b3 => unfold maxLen; omega
  case b4 => simp
  intro w1 ho hg
  have ho : w1.ownsRow (w.heap.size + 1) 22 1 (.slice (some ⟨w.heap.size + 1, 0, none⟩) 4 4) 4 [.slice none 0 0, .slice none 0 0, .slice none 0 0, .slice none 0 0] := by
    have e : (madeCells #[Value.slice none 0 0] 4).toList = [.slice none 0 0, .slice none 0 0, .slice none 0 0, .slice none 0 0] := by kernel_rfl
    rw [e] at ho
    exact ho
  have HO := Lib.hid ho
  have hb : Hid (Below w.heap.size w w1) := ((Below.refl _ w).alloc (Nat.le_refl _) _).grown hg (by simp) fun j hj => by simp at hj
  have hblk : w1.heap[w.heap.size]? = some (.cells #[.slice none 0 0, .slice none 0 0, .int .i64 0] 38 (0, 0)) := by
    rw [hg.block _ (by simp) (by simp)]
    exact heap_alloc_new w _
  obtain ⟨x0, f0⟩ := blk_cell (i := 0) hblk
  obtain ⟨x1, f1⟩ := blk_cell (i := 1) hblk
  obtain ⟨x2, f2⟩ := blk_cell (i := 2) hblk
  simp at x0 x1 x2
  have HSZ : w.heap.size + 1 ≤ w1.heap.size := by have := hg.size; simpa using this
  clear ho hg hblk
  have hS : Hid (SlA (fun b => w.heap.size + 1 ≤ b) w1 1 (.slice (some ⟨w.heap.size + 1, 0, none⟩) 4 4) 4 [.slice none 0 0, .slice none 0 0, .slice none 0 0, .slice none 0 0]) := SlA.of_owns HO.out
  go_wp2
  refine bodyPost_ret (v := .agg #[.slice (some ⟨w.heap.size + 1, 0, none⟩) 4 4, .slice none 0 0, .int .i64 0]) (by simp [results, Try.results17, go_sem, x0, x1, x2]) rfl ⟨_, rfl, ⟨_, _, rfl, ⟨[.slice none 0 0, .slice none 0 0, .slice none 0 0, .slice none 0 0], rfl, fun i hi => ?_, ?_⟩, RN.nil _ _⟩, ?_⟩
  · have : ∀ u ∈ ([.slice none 0 0, .slice none 0 0, .slice none 0 0, .slice none 0 0] : List Value), u = .slice none 0 0 := by simp
    rw [this _ (List.getElem_mem hi)]
    exact RL.nil _ _
  · refine SlA.weak (hS.out.mono ?_) (fun b hb => by omega)
    ((repeat' (first | exact Same.refl _ _ | refine Same.drew ?_ | refine Same.alloc ?_ _ | refine Same.setCell ?_ ?_ _ | exact Same.of_ext (by assumption))); all_goals (first | assumption | (simp; done) | (simp; omega)))
  · have hb' := hb.out
    refine Below.setCell (Below.setCell (Below.setCell hb' ?_ _) ?_ _) ?_ _ <;> simp
end Go.Proofs.Ytiikkglgoanpbaa
