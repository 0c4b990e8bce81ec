/- Rows that are read through the blocks of a set alone; put and without of terrazzoref14. -/
import Derived.Test.YtiikkglgoanpbaaInv14
import Derived.Test.YtiikkglgoanpbaaEnc
import Derived.Laws.AppendOwnNone
namespace Go.Proofs.Ytiikkglgoanpbaa
open Go.RowKit Go.Maps Go.WideShapes

def SlA (A : Nat → Prop) (w : World) (size : Nat) (v : Value) (n : Nat) (xs : List Value) : Prop :=
  xs.length = n * size ∧ ((v = .slice none 0 0 ∧ n = 0) ∨ ∃ b off cap, v = .slice (some ⟨b, off, none⟩) n cap ∧ b < w.heap.size ∧ A b ∧ n ≤ cap ∧ ∀ j, j < n * size → w.cell? ⟨b, off + j, none⟩ = xs[j]?)
def UpA (A : Nat → Prop) (w : World) (b : Nat) : Prop := A b ∨ w.heap.size ≤ b
section
variable {A A' : Nat → Prop} {w w' : World} {size n : Nat} {v : Value} {xs : List Value}
theorem SlA.mono (h : SlA A w size v n xs) (hs : Same A w w') : SlA A w' size v n xs := by
  obtain ⟨h1, h2⟩ := h
  refine ⟨h1, h2.imp id ?_⟩
  rintro ⟨b, off, cap, rfl, hl, hA, hc, hx⟩
  exact ⟨b, off, cap, rfl, Nat.lt_of_lt_of_le hl hs.size, hA, hc, fun j hj => (hs.cell (p := ⟨b, off + j, none⟩) hA hl).trans (hx j hj)⟩
theorem SlA.ext (h : SlA A w size v n xs) (hb : Below w.heap.size w w') : SlA A w' size v n xs := h.mono (Same.of_ext hb)
theorem SlA.weak (h : SlA A w size v n xs) (hA : ∀ b, A b → A' b) : SlA A' w size v n xs := by
  obtain ⟨h1, h2⟩ := h
  refine ⟨h1, h2.imp id ?_⟩
  rintro ⟨b, off, cap, rfl, hl, hb, hc, hx⟩
  exact ⟨b, off, cap, rfl, hl, hA b hb, hc, hx⟩
theorem SlA.sl (h : SlA A w size v n xs) : Sl w size v n xs := by
  obtain ⟨h1, h2⟩ := h
  refine ⟨h1, h2.imp id ?_⟩
  rintro ⟨b, off, cap, rfl, hl, hb, hc, hx⟩
  exact ⟨b, off, cap, rfl, hl, hc, hx⟩
theorem SlA.shape (h : SlA A w size v n xs) : ∃ a c, v = .slice a n c := by
  rcases h.2 with ⟨rfl, rfl⟩ | ⟨b, off, cap, rfl, _⟩
  · exact ⟨_, _, rfl⟩
  · exact ⟨_, _, rfl⟩
theorem SlA.nil (A : Nat → Prop) (w : World) (size : Nat) : SlA A w size (.slice none 0 0) 0 [] := ⟨by simp, .inl ⟨rfl, rfl⟩⟩
theorem SlA.of_owns {base : Nat} {e : TypeId} (h : w.ownsRow base e size v n xs) : SlA (fun b => base ≤ b) w size v n xs := by
  refine ⟨h.1, h.2.imp id ?_⟩
  rintro ⟨g, cap, cur, rfl, hb, hg, hn, hm, hs, ht⟩
  refine ⟨g, 0, cap, rfl, (Array.getElem?_eq_some_iff.1 hg).1, hb, hn, fun j hj => ?_⟩
  have := World.ownsRow.cellAt (w := w) (base := base) (e := e) (size := size) (g := g) (cap := cap) (n := n) (xs := xs) ⟨h.1, .inr ⟨g, cap, cur, rfl, hb, hg, hn, hm, hs, ht⟩⟩ j hj
  simpa using this
theorem SlA.at {a : Option Addr} {c : Nat} (h : SlA A w size (.slice a n c) n xs) (hn : 0 < n) : ∃ b off, a = some ⟨b, off, none⟩ ∧ b < w.heap.size ∧ A b ∧ n ≤ c ∧ ∀ j, j < n * size → w.cell? ⟨b, off + j, none⟩ = xs[j]? := by
  rcases h.2 with ⟨_, rfl⟩ | ⟨b, off, cap, e, r⟩
  · omega
  · simp only [Value.slice.injEq] at e
    obtain ⟨rfl, _, rfl⟩ := e
    exact ⟨b, off, rfl, r⟩
end

section
variable {P : Program} {w : World} {ops : Array Oper} {rest : List Oper} {o : Oper} {a : Act} {Q : Exit → Act → World → Prop}
/-- 'append(out, src...)': out of the call's own, src any row that reads as cells -/
theorem wpList_append_sl (hgd : o.guard = none) (s x : Operand) (t : TypeId) (ho : o.op = .call { callee := .builtin .append, args := #[s, x], argTypes := #[t, t] })
    (base : Nat) (e : TypeId) (i : TypeInfo) (z : Value) (size bytes : Nat) (ht : P.underlying t = some (.slice e)) (hi : P.info? e = some i) (hz : i.zero = some z)
    (hsize : i.size = size) (hby : i.bytes = bytes) (hzs : z.cells.size = size) (hsz : 0 < size)
    (v : Value) (n : Nat) (xs : List Value) (hs : a.eval s = v) (hown : w.ownsRow base e size v n xs)
    (A : Nat → Prop) (sv : Value) (m : Nat) (news : List Value) (hx : a.eval x = sv) (hsl : SlA A w size sv m news) (h1 : ∀ u ∈ news, u.oneCell' = true)
    (h63 : n + m ≤ maxLen) (hbytes : (n + m) * bytes ≤ 140737488355328) (hbase : base ≤ w.heap.size)
    (h : ∀ v' w', w'.ownsRow base e size v' (n + m) (xs ++ news) → w.grownBy w' v.ownBlock → wpList P ops Q rest (a.put o.dst v') w') : wpList P ops Q (o :: rest) a w := by
  rcases hsl.2 with ⟨rfl, rfl⟩ | ⟨b, off, cap, rfl, hl, hA, hc, hcell⟩
  · have hn : news = [] := List.length_eq_zero_iff.1 (by simpa using hsl.1)
    subst hn
    exact wpList_append_own_none hgd s x t ho base e i size ht hi v n xs hs hown hx (h v w (by simpa using hown) (World.grownBy.refl w _))
  · refine wpList_append_own w hgd s x t ho base e i z size bytes ht hi hz hsize hby hzs hsz v n xs hs hown ⟨b, off, none⟩ m cap news hx hsl.1 (fun j u hj => ?_) h1 h63 hbytes hbase fun v' w' h2 h3 _ => h v' w' h2 h3
    have hjl : j < m * size := by rw [← hsl.1]; exact (List.getElem?_eq_some_iff.1 hj).1
    rw [add_plain, hcell j hjl, hj]
end

def RL (A : Nat → Prop) (w : World) (v : Value) (l : List Int) : Prop := SlA A w 1 v l.length (l.map (Value.int .i64))
theorem one_ints (l : List Int) : ∀ u ∈ l.map (Value.int .i64), u.oneCell' = true := by
  intro u hu
  obtain ⟨x, _, rfl⟩ := List.mem_map.1 hu
  rfl
theorem one_nil : ∀ u ∈ ([] : List Value), u.oneCell' = true := fun u hu => by simp at hu
theorem RL.cell {A : Nat → Prop} {w : World} {a : Option Addr} {c : Nat} {l : List Int} (h : RL A w (.slice a l.length c) l) {k : Nat} (hk : k < l.length) : ∃ b off, a = some ⟨b, off, none⟩ ∧ b < w.heap.size ∧ w.cell? ⟨b, off + k, none⟩ = some (.int .i64 l[k]) := by
  obtain ⟨b, off, rfl, h1, h2, h3, h4⟩ := SlA.at h (by omega)
  refine ⟨b, off, rfl, h1, ?_⟩
  rw [h4 k (by omega), List.getElem?_map, List.getElem?_eq_getElem hk]
  rfl
theorem rem_hit {l : List Int} {n : Int} {k : Nat} (hk : k < l.length) (he : ¬ l[k] = n) : remS n (l.take (k + 1)) = remS n (l.take k) ++ [l[k]] := by
  have h2 : (!(l[k] == n)) = true := by simp [he]
  rw [List.take_succ_eq_append_getElem hk]
  simp only [remS, List.filter_append, List.filter_cons, h2, if_true, List.filter_nil]
theorem rem_skip2 {l : List Int} {n : Int} {k : Nat} (hk : k < l.length) (he : l[k] = n) : remS n (l.take (k + 1)) = remS n (l.take k) := by
  have h2 : (!(l[k] == n)) = false := by simp [he]
  rw [List.take_succ_eq_append_getElem hk]
  simp only [remS, List.filter_append, List.filter_cons, h2, Bool.false_eq_true, if_false, List.filter_nil, List.append_nil]

set_option maxRecDepth 100000 in
set_option maxHeartbeats 1600000 in
theorem without_any (A : Nat → Prop) (v : Value) (l : List Int) (n : Int) (w : World) (h : RL A w v l) (hl : l.length ≤ 1000) :
    Calls Try.prog 32 #[v, .int .i64 n] w fun e w' => ∃ v', e = .returned v' ∧ RL (fun b => w.heap.size ≤ b) w' v' (remS n l) ∧ Below w.heap.size w w' := by
  obtain ⟨a, c, rfl⟩ := h.shape
  have H := Lib.hid h
  obtain ⟨i0, hi, hz0, hz1, hz2⟩ := info_parts Try.infoInt
  clear h
  go_enter Try.func32, Try.ntmps32
  go_wp2
  go_loopw [5, 6] (fun out q wr => ∃ k : Nat, k ≤ l.length ∧ q = .int .i64 k ∧ wr.ownsRow w.heap.size 3 1 out (remS n (l.take k)).length ((remS n (l.take k)).map (Value.int .i64)) ∧ Below w.heap.size w wr) (fun _ q _ => l.length - (intOf q).toNat)
  case atStart => exact ⟨0, Nat.zero_le _, rfl, World.ownsRow_nil _ _ _ _, Below.refl _ _⟩
  case round =>
    obtain ⟨k, hk, rfl, hown, hbr⟩ := hrel
    have HO := Lib.hid hown
    clear hown
    by_cases hlt : k < l.length
    · obtain ⟨b, off, rfl, hbl, hc⟩ := H.out.cell hlt
      replace hc := cellB hbr hbl hc
      by_cases he : l[k] = n
      · have HK := Lib.hid (rem_skip2 hlt he)
        have t1 : (n != n) = false := by simp
        rw [he] at hc
        clear he
        go_wp2
        go_roundw
        case rel => exact ⟨k + 1, by omega, by go_num, by rw [HK.out]; exact HO.out, hbr⟩
        case measure => simp [intOf]; omega
      · have HK := Lib.hid (rem_hit hlt he)
        have t1 : (l[k] != n) = true := by simpa using he
        have hlen : Hid ((remS n (l.take k)).length ≤ 1000) := by
          have h1 := remS_length n (l.take k)
          have h2 : (l.take k).length ≤ l.length := by simp; omega
          exact Nat.le_trans h1 (Nat.le_trans h2 hl)
        generalize hm : remS n (l.take k) = m at *
        generalize l[k] = x at *
        clear hm he
        go_wp2_with (first | (at_builtin; refine wpList_append_own _ rfl _ _ 22 rfl w.heap.size 3 i0 (.int .i64 0) 1 8 Try.underlying22 hi hz0 hz1 hz2 rfl (by decide) _ _ _ rfl (HO.out.alloc _) ⟨wr.heap.size, 0, none⟩ 1 1 [.int .i64 x] rfl rfl ?c1 ?c2 ?c3 ?c4 ?c5 ?_) | go_in)
        case c1 => exact cells_new wr [.int .i64 x] _
        case c2 => simp [Value.oneCell']
        case c3 => have := hlen.out; unfold maxLen; omega
        case c4 => have := hlen.out; omega
        case c5 => have := hbr.size; simp; omega
        intro v' w3 ho hg hn
        have HO3 := Lib.hid ho
        have hb3 : Hid (Below w.heap.size w w3) := (hbr.alloc hbr.size _).grown hg (by have := hbr.size; simp; omega) fun j hj => (HO.out.lt j hj).1
        clear ho hg hn
        go_wp2
        go_roundw
        case rel => exact ⟨k + 1, by omega, by go_num, by rw [HK.out]; simpa using HO3.out, hb3.out⟩
        case measure => simp [intOf]; omega
    · obtain rfl : k = l.length := by omega
      have htk : Hid (l.take l.length = l) := List.take_length
      rw [htk.out] at HO
      clear H
      go_wp2
      go_ret
      exact ⟨_, rfl, SlA.of_owns HO.out, hbr⟩

/-! put -/
theorem insL_split {n : Int} : ∀ {l : List Int} {k : Nat}, k ≤ l.length → (∀ i (h : i < l.length), i < k → l[i] < n) → (∀ h : k < l.length, n < l[k]) → insL n l = l.take k ++ n :: l.drop k := by
  intro l
  induction l with
  | nil => intro k hk _ _; simp [insL]
  | cons q r ih =>
    intro k hk h1 h2
    cases k with
    | zero =>
      have := h2 (by simp)
      simp only [List.getElem_cons_zero] at this
      simp [insL, this]
    | succ k =>
      have hq := h1 0 (by simp) (by omega)
      simp only [List.getElem_cons_zero] at hq
      have := ih (k := k) (by simpa using hk) (fun i hi hik => by have := h1 (i + 1) (by simpa using hi) (by omega); rwa [List.getElem_cons_succ] at this) (fun h => by have := h2 (by simpa using h); rwa [List.getElem_cons_succ] at this)
      simp only [insL]
      rw [if_neg (by omega), this]
      simp
theorem remS_not {n : Int} {l : List Int} (h : n ∉ l) : remS n l = l := by
  refine List.filter_eq_self.2 fun x hx => ?_
  have : x ≠ n := fun e => h (e ▸ hx)
  simp [this]
theorem insS_split {n : Int} {l : List Int} {k : Nat} (hp : l.Pairwise (· < ·)) (hk : k ≤ l.length) (h1 : ∀ i (h : i < l.length), i < k → l[i] < n) (h2 : ∀ h : k < l.length, n < l[k]) : insS n l = l.take k ++ n :: l.drop k := by
  have hn : n ∉ l := by
    intro hm
    obtain ⟨i, hi, e⟩ := List.getElem_of_mem hm
    rcases Nat.lt_or_ge i k with g | g
    · have := h1 i hi g; omega
    · have h3 := h2 (by omega)
      rcases Nat.lt_or_ge k i with g2 | g2
      · have := List.pairwise_iff_getElem.1 hp k i (by omega) hi g2; omega
      · obtain rfl : i = k := by omega
        omega
  rw [insS, remS_not hn]
  exact insL_split hk h1 h2
theorem insL_rem {n : Int} : ∀ {l : List Int}, l.Pairwise (· < ·) → n ∈ l → insL n (remS n l) = l := by
  intro l
  induction l with
  | nil => intro _ h; simp at h
  | cons q r ih =>
    intro hp hm
    have hq := List.pairwise_cons.1 hp
    by_cases e : q = n
    · subst e
      have hr : remS q (q :: r) = r := by
        have : remS q r = r := remS_not fun h => by have := hq.1 q h; omega
        simp only [remS, List.filter_cons, beq_self_eq_true, Bool.not_true, Bool.false_eq_true, if_false]
        exact this
      rw [hr]
      cases r with
      | nil => rfl
      | cons p s =>
        have := hq.1 p (by simp)
        simp [insL, this]
    · have hr : n ∈ r := by
        rcases List.mem_cons.1 hm with h | h
        · exact absurd h.symm e
        · exact h
      have hlt := hq.1 n hr
      have h2 : remS n (q :: r) = q :: remS n r := by simp [remS, e]
      rw [h2]
      simp only [insL]
      rw [if_neg (by omega), ih hq.2 hr]

theorem insS_len (n : Int) (l : List Int) : (insS n l).length ≤ l.length + 1 := insS_length n l
theorem RL.of_split {base : Nat} {w : World} {v : Value} {l : List Int} {n : Int} {k m : Nat} {xs : List Value} (h : w.ownsRow base 3 1 v m xs) (hs : insS n l = l.take k ++ n :: l.drop k) (hk : k ≤ l.length) (hm : m = l.length + 1)
    (hx : xs = (l.take k).map (Value.int .i64) ++ [.int .i64 n] ++ (l.drop k).map (Value.int .i64)) : RL (fun b => base ≤ b) w v (insS n l) := by
  have e1 : (insS n l).map (Value.int .i64) = xs := by rw [hs, hx]; simp
  have e2 : (insS n l).length = m := by rw [hs, hm]; simp; omega
  unfold RL
  rw [e1, e2]
  exact SlA.of_owns h

set_option maxRecDepth 100000 in
set_option maxHeartbeats 4000000 in
theorem put_some (A : Nat → Prop) (b off cap : Nat) (l : List Int) (n : Int) (w : World) (h : RL A w (.slice (some ⟨b, off, none⟩) l.length cap) l) (hb : b < w.heap.size) (hcl : l.length ≤ cap)
    (hcell : ∀ k (_ : k < l.length), w.cell? ⟨b, off + k, none⟩ = some (.int .i64 l[k])) (hp : l.Pairwise (· < ·)) (hl : l.length ≤ 1000) :
    Calls Try.prog 31 #[.slice (some ⟨b, off, none⟩) l.length cap, .int .i64 n] w fun e w' => ∃ v', e = .returned v' ∧ RL (UpA A w) w' v' (insS n l) ∧ Below w.heap.size w w' := by
  have H := Lib.hid h
  have HP := Lib.hid hp
  have HC := Lib.hid hcell
  obtain ⟨i0, hi, hz0, hz1, hz2⟩ := info_parts Try.infoInt
  clear h hp hcell
  go_enter Try.func31, Try.ntmps31
  go_wp2
  go_loop [5] (fun q => ∃ k : Nat, k ≤ l.length ∧ q = .int .i64 k ∧ Hid (∀ i (h : i < l.length), i < k → l[i] < n)) (fun q => l.length - (intOf q).toNat)
  case atStart => exact ⟨0, Nat.zero_le _, rfl, fun i h hi => by omega⟩
  case round =>
    obtain ⟨k, hk, rfl, HB⟩ := hrel
    have fin : ∀ P : Prop, (∀ h : k < l.length, l[k] < n → P) → (∀ h : k < l.length, l[k] = n → P) → (∀ h : k < l.length, n < l[k] → P) → (l.length ≤ k → P) → P := by
      intro P p1 p2 p3 p4
      rcases Nat.lt_or_ge k l.length with g | g
      · rcases Int.lt_trichotomy l[k] n with h | h | h
        · exact p1 g h
        · exact p2 g h
        · exact p3 g h
      · exact p4 g
    refine fin _ (fun hlt hx => ?_) (fun hlt hx => ?_) (fun hlt hx => ?_) (fun hge => ?_) <;> clear fin
    · have hc := HC.out k hlt
      have hnext : Hid (∀ i (h : i < l.length), i < k + 1 → l[i] < n) := fun i h hi => by
        rcases Nat.lt_or_ge i k with g | g
        · exact HB.out i h g
        · obtain rfl : i = k := by omega
          exact hx
      generalize l[k] = x at hc hx
      go_wp2
      go_round
      case rel => exact ⟨k + 1, by omega, by go_num, hnext⟩
      case measure => simp [intOf]; omega
    · have hc := HC.out k hlt
      have hm : Hid (insS n l = l) := insL_rem HP.out (hx ▸ List.getElem_mem hlt)
      rw [hx] at hc
      have t1 : (n == n) = true := by simp
      clear hx
      go_wp2
      go_ret
      exact ⟨_, rfl, by rw [hm.out]; exact SlA.weak H.out fun q hq => .inl hq, Below.refl _ _⟩
    · have hc := HC.out k hlt
      have hs := Lib.hid (insS_split HP.out hk HB.out (fun _ => hx))
      have t1 : (l[k] == n) = false := by rw [beq_eq_false_iff_ne]; omega
      have hck : k < cap := by omega
      have HD : Hid (∀ w2, Below w.heap.size w w2 → ∀ j u, ((l.drop k).map (Value.int .i64))[j]? = some u → w2.cell? ((⟨b, off + k, none⟩ : Addr).add j) = some u) := fun w2 hb2 j u hj => by
        have hjl : j < l.length - k := by have := (List.getElem?_eq_some_iff.1 hj).1; simpa using this
        rw [add_plain]
        refine (hb2.cell (p := ⟨b, off + k + j, none⟩) hb).trans ?_
        have := HC.out (k + j) (by omega)
        rw [Nat.add_assoc, this, ← hj]
        rw [List.getElem?_map, List.getElem?_drop, List.getElem?_eq_getElem (by omega)]
        rfl
      generalize l[k] = x at hc hx t1
      have HT : Hid (∀ j u, ((l.take k).map (Value.int .i64))[j]? = some u → w.cell? ((⟨b, off, none⟩ : Addr).add j) = some u) := fun j u hj => by
        have hjl : j < k := by have := (List.getElem?_eq_some_iff.1 hj).1; simp at this; omega
        rw [add_plain, HC.out j (by omega), ← hj, List.getElem?_map, List.getElem?_take, if_pos hjl, List.getElem?_eq_getElem (by omega)]
        rfl
      clear HC HP HB
      go_wp2_with (first | (at_builtin; refine wpList_append_own _ rfl _ _ 22 rfl w.heap.size 3 i0 (.int .i64 0) 1 8 Try.underlying22 hi hz0 hz1 hz2 rfl (by decide) _ 0 [] rfl (World.ownsRow_nil _ _ _ _) ⟨b, off, none⟩ k cap ((l.take k).map (Value.int .i64)) rfl ?c1ax HT.out (one_ints _) ?c4ax ?c5ax (Nat.le_refl _) ?_) | go_in)
      try (case c1ax => simp; omega)
      case c4ax => unfold maxLen; omega
      case c5ax => omega
      intro v1 w1 ho hg hn
      try simp only [Nat.zero_add, List.nil_append] at ho
      have HO1 := Lib.hid ho
      have hb1 : Below w.heap.size w w1 := (Below.refl _ w).grown hg (Nat.le_refl _) fun j hj => by simp [Value.ownBlock] at hj
      clear ho hg hn
      go_wp2_with (first | (at_builtin; refine wpList_append_own _ rfl _ _ 22 rfl w.heap.size 3 i0 (.int .i64 0) 1 8 Try.underlying22 hi hz0 hz1 hz2 rfl (by decide) _ _ _ rfl (HO1.out.alloc _) ⟨w1.heap.size, 0, none⟩ 1 1 [.int .i64 n] rfl rfl (cells_new w1 [.int .i64 n] _) ?c3bx ?c4bx ?c5bx ?c6bx ?_) | go_in)
      try (case c3bx => simp [Value.oneCell'])
      case c4bx => unfold maxLen; omega
      case c5bx => omega
      case c6bx => have := hb1.size; simp; omega
      intro v2 w2 ho hg hn
      have HO2 := Lib.hid ho
      have hb2 : Below w.heap.size w w2 := (hb1.alloc hb1.size _).grown hg (by have := hb1.size; simp; omega) fun j hj => (HO1.out.lt j hj).1
      clear ho hg hn hb1
      go_wp2_with (first | (at_builtin; refine wpList_append_own _ rfl _ _ 22 rfl w.heap.size 3 i0 (.int .i64 0) 1 8 Try.underlying22 hi hz0 hz1 hz2 rfl (by decide) _ _ _ rfl HO2.out ⟨b, off + k, none⟩ (l.length - k) (cap - k) ((l.drop k).map (Value.int .i64)) rfl ?c1dx (HD.out _ hb2) (one_ints _) ?c4dx ?c5dx ?c6dx ?_) | go_in)
      try (case c1dx => simp)
      case c4dx => unfold maxLen; omega
      case c5dx => omega
      case c6dx => have := hb2.size; omega
      intro v3 w3 ho hg hn
      have hb3 : Hid (Below w.heap.size w w3) := hb2.grown hg hb2.size fun j hj => (HO2.out.lt j hj).1
      have HO3 := Lib.hid ho
      clear ho hg hn hb2
      go_wp2
      go_ret
      exact ⟨_, rfl, (RL.of_split HO3.out hs.out hk (by omega) (by simp)).weak fun q hq => .inr hq, hb3.out⟩
    · obtain rfl : k = l.length := by omega
      have hs := Lib.hid (insS_split HP.out hk HB.out (fun h => by omega))
      have hnn : ∀ (W : World) (ad : Addr) (j : Nat) (u : Value), ([] : List Value)[j]? = some u → W.cell? (ad.add j) = some u := fun W ad j u hj => by simp at hj
      have HNN := Lib.hid hnn
      clear hnn
      rcases Nat.lt_or_ge l.length cap with hck | hck
      · have HT : Hid (∀ j u, ((l.take l.length).map (Value.int .i64))[j]? = some u → w.cell? ((⟨b, off, none⟩ : Addr).add j) = some u) := fun j u hj => by
          have hjl : j < l.length := by have := (List.getElem?_eq_some_iff.1 hj).1; simp at this; omega
          rw [add_plain, HC.out j (by omega), ← hj, List.getElem?_map, List.getElem?_take, if_pos hjl, List.getElem?_eq_getElem (by omega)]
          rfl
        clear HC HP HB
        go_wp2_with (first | (at_builtin; refine wpList_append_own _ rfl _ _ 22 rfl w.heap.size 3 i0 (.int .i64 0) 1 8 Try.underlying22 hi hz0 hz1 hz2 rfl (by decide) _ 0 [] rfl (World.ownsRow_nil _ _ _ _) ⟨b, off, none⟩ l.length cap ((l.take l.length).map (Value.int .i64)) rfl ?c1ay HT.out (one_ints _) ?c4ay ?c5ay (Nat.le_refl _) ?_) | go_in)
        try (case c1ay => simp; omega)
        case c4ay => unfold maxLen; omega
        case c5ay => omega
        intro v1 w1 ho hg hn
        try simp only [Nat.zero_add, List.nil_append] at ho
        have HO1 := Lib.hid ho
        have hb1 : Below w.heap.size w w1 := (Below.refl _ w).grown hg (Nat.le_refl _) fun j hj => by simp [Value.ownBlock] at hj
        clear ho hg hn
        go_wp2_with (first | (at_builtin; refine wpList_append_own _ rfl _ _ 22 rfl w.heap.size 3 i0 (.int .i64 0) 1 8 Try.underlying22 hi hz0 hz1 hz2 rfl (by decide) _ _ _ rfl (HO1.out.alloc _) ⟨w1.heap.size, 0, none⟩ 1 1 [.int .i64 n] rfl rfl (cells_new w1 [.int .i64 n] _) ?c3by ?c4by ?c5by ?c6by ?_) | go_in)
        try (case c3by => simp [Value.oneCell'])
        case c4by => unfold maxLen; omega
        case c5by => omega
        case c6by => have := hb1.size; simp; omega
        intro v2 w2 ho hg hn
        have HO2 := Lib.hid ho
        have hb2 : Below w.heap.size w w2 := (hb1.alloc hb1.size _).grown hg (by have := hb1.size; simp; omega) fun j hj => (HO1.out.lt j hj).1
        clear ho hg hn hb1
        go_wp2_with (first | (at_builtin; refine wpList_append_own _ rfl _ _ 22 rfl w.heap.size 3 i0 (.int .i64 0) 1 8 Try.underlying22 hi hz0 hz1 hz2 rfl (by decide) _ _ _ rfl HO2.out ⟨b, off + l.length, none⟩ 0 (cap - l.length) [] rfl ?c1dy (HNN.out _ _) one_nil ?c4dy ?c5dy ?c6dy ?_) | go_in)
        try (case c1dy => simp)
        case c4dy => unfold maxLen; omega
        case c5dy => omega
        case c6dy => have := hb2.size; omega
        intro v3 w3 ho hg hn
        have hb3 : Hid (Below w.heap.size w w3) := hb2.grown hg hb2.size fun j hj => (HO2.out.lt j hj).1
        have HO3 := Lib.hid ho
        clear ho hg hn hb2
        go_wp2
        go_ret
        exact ⟨_, rfl, (RL.of_split HO3.out hs.out hk (by omega) (by simp)).weak fun q hq => .inr hq, hb3.out⟩
      · obtain rfl : cap = l.length := by omega
        have HT : Hid (∀ j u, ((l.take l.length).map (Value.int .i64))[j]? = some u → w.cell? ((⟨b, off, none⟩ : Addr).add j) = some u) := fun j u hj => by
          have hjl : j < l.length := by have := (List.getElem?_eq_some_iff.1 hj).1; simp at this; omega
          rw [add_plain, HC.out j (by omega), ← hj, List.getElem?_map, List.getElem?_take, if_pos hjl, List.getElem?_eq_getElem (by omega)]
          rfl
        clear HC HP HB
        go_wp2_with (first | (at_builtin; refine wpList_append_own _ rfl _ _ 22 rfl w.heap.size 3 i0 (.int .i64 0) 1 8 Try.underlying22 hi hz0 hz1 hz2 rfl (by decide) _ 0 [] rfl (World.ownsRow_nil _ _ _ _) ⟨b, off, none⟩ l.length l.length ((l.take l.length).map (Value.int .i64)) rfl ?c1az HT.out (one_ints _) ?c4az ?c5az (Nat.le_refl _) ?_) | go_in)
        try (case c1az => simp; omega)
        case c4az => unfold maxLen; omega
        case c5az => omega
        intro v1 w1 ho hg hn
        try simp only [Nat.zero_add, List.nil_append] at ho
        have HO1 := Lib.hid ho
        have hb1 : Below w.heap.size w w1 := (Below.refl _ w).grown hg (Nat.le_refl _) fun j hj => by simp [Value.ownBlock] at hj
        clear ho hg hn
        go_wp2_with (first | (at_builtin; refine wpList_append_own _ rfl _ _ 22 rfl w.heap.size 3 i0 (.int .i64 0) 1 8 Try.underlying22 hi hz0 hz1 hz2 rfl (by decide) _ _ _ rfl (HO1.out.alloc _) ⟨w1.heap.size, 0, none⟩ 1 1 [.int .i64 n] rfl rfl (cells_new w1 [.int .i64 n] _) ?c3bz ?c4bz ?c5bz ?c6bz ?_) | go_in)
        try (case c3bz => simp [Value.oneCell'])
        case c4bz => unfold maxLen; omega
        case c5bz => omega
        case c6bz => have := hb1.size; simp; omega
        intro v2 w2 ho hg hn
        have HO2 := Lib.hid ho
        have hb2 : Below w.heap.size w w2 := (hb1.alloc hb1.size _).grown hg (by have := hb1.size; simp; omega) fun j hj => (HO1.out.lt j hj).1
        clear ho hg hn hb1
        go_wp2_with (first | (at_builtin; refine wpList_append_own _ rfl _ _ 22 rfl w.heap.size 3 i0 (.int .i64 0) 1 8 Try.underlying22 hi hz0 hz1 hz2 rfl (by decide) _ _ _ rfl HO2.out ⟨b, off, none⟩ 0 0 [] rfl ?c1dz (HNN.out _ _) one_nil ?c4dz ?c5dz ?c6dz ?_) | go_in)
        try (case c1dz => simp)
        case c4dz => unfold maxLen; omega
        case c5dz => omega
        case c6dz => have := hb2.size; omega
        intro v3 w3 ho hg hn
        have hb3 : Hid (Below w.heap.size w w3) := hb2.grown hg hb2.size fun j hj => (HO2.out.lt j hj).1
        have HO3 := Lib.hid ho
        clear ho hg hn hb2
        go_wp2
        go_ret
        exact ⟨_, rfl, (RL.of_split HO3.out hs.out hk (by omega) (by simp)).weak fun q hq => .inr hq, hb3.out⟩

set_option maxRecDepth 100000 in
set_option maxHeartbeats 1600000 in
theorem put_nil (n : Int) (w : World) :
    Calls Try.prog 31 #[.slice none 0 0, .int .i64 n] w fun e w' => ∃ v', e = .returned v' ∧ RL (fun b => w.heap.size ≤ b) w' v' [n] ∧ Below w.heap.size w w' := by
  obtain ⟨i0, hi, hz0, hz1, hz2⟩ := info_parts Try.infoInt
  go_enter Try.func31, Try.ntmps31
  go_wp2
  refine wp_loop_once ?_
  go_wp2_with (first | (at_builtin; refine wpList_append_own_none rfl _ _ 22 rfl w.heap.size 3 i0 1 Try.underlying22 hi (.slice none 0 0) 0 [] rfl (World.ownsRow_nil _ _ _ _) rfl ?_) | (at_builtin; refine wpList_append_own _ rfl _ _ 22 rfl w.heap.size 3 i0 (.int .i64 0) 1 8 Try.underlying22 hi hz0 hz1 hz2 rfl (by decide) _ 0 [] rfl (World.ownsRow_nil _ _ _ _) ⟨w.heap.size, 0, none⟩ 1 1 [.int .i64 n] rfl rfl (cells_new w [.int .i64 n] _) ?c3 ?c4 ?c5 ?c6 ?_) | go_in)
  case c3 => simp [Value.oneCell']
  case c4 => unfold maxLen; omega
  case c5 => omega
  case c6 => simp
  intro v2 w2 ho hg hn
  try simp only [Nat.zero_add, List.nil_append] at ho
  have HO2 := Lib.hid ho
  have hb2 : Hid (Below w.heap.size w w2) := ((Below.refl _ w).alloc (Nat.le_refl _) _).grown hg (by simp) fun j hj => by simp [Value.ownBlock] at hj
  clear ho hg hn
  go_wp2_with (first | (at_builtin; refine wpList_append_own_none rfl _ _ 22 rfl w.heap.size 3 i0 1 Try.underlying22 hi v2 _ _ rfl HO2.out rfl ?_) | go_in)
  go_wp2
  go_ret
  exact ⟨_, rfl, SlA.of_owns HO2.out, hb2.out⟩
theorem put_any (A : Nat → Prop) (v : Value) (l : List Int) (n : Int) (w : World) (h : RL A w v l) (hp : l.Pairwise (· < ·)) (hl : l.length ≤ 1000) :
    Calls Try.prog 31 #[v, .int .i64 n] w fun e w' => ∃ v', e = .returned v' ∧ RL (UpA A w) w' v' (insS n l) ∧ Below w.heap.size w w' := by
  rcases h.2 with ⟨rfl, h0⟩ | ⟨b, off, cap, rfl, hb, hA, hc, hx⟩
  · obtain rfl : l = [] := List.length_eq_zero_iff.1 h0
    refine (put_nil n w).mono ?_
    rintro e w' ⟨v', rfl, h1, h2⟩
    exact ⟨v', rfl, SlA.weak (v := v') h1 fun b hb => .inr hb, h2⟩
  · refine put_some A b off cap l n w h hb hc (fun k hk => ?_) hp hl
    rw [hx k (by omega), List.getElem?_map, List.getElem?_eq_getElem hk]
    rfl
end Go.Proofs.Ytiikkglgoanpbaa
