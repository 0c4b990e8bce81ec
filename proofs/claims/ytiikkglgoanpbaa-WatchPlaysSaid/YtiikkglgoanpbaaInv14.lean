/- General contracts of the board's methods, whatever the image; what stays true of a board under any script. -/
import Derived.Test.YtiikkglgoanpbaaForget14
import Derived.Test.YtiikkglgoanpbaaApart14
import Derived.Test.YtiikkglgoanpbaaSmall14
namespace Go.Proofs.Ytiikkglgoanpbaa
open Go.RowKit Go.Maps Go.WideShapes

def Brd.watchL (B : Brd) (at_ : Int) : List Int := if mayI at_ then B.wl at_.toNat else []
def Brd.toL (B : Brd) (at_ who : Int) : List Int := if mayI at_ then remS who (B.wl at_.toNat) else []
def Brd.notif (B : Brd) (s : Nat) (at_ who now : Int) : Brd := if mayI at_ then B.note s (clampT now) (remS who (B.wl at_.toNat)) else B
def Brd.nid (B : Brd) (at_ : Int) : Int := if mayI at_ then B.last + 1 else 0

theorem watchers_any (B : Brd) (at_ : Int) (w : World) (hB : IsB w B) (hl : ∀ i, i < 4 → (B.wl i).length ≤ 100000) :
    Calls Try.prog 24 #[.pointer (some ⟨B.pb, 0, none⟩), .int .i64 at_] w (Fresh w (B.watchL at_)) := by
  unfold Brd.watchL
  cases h : mayI at_
  · exact watchers_no at_ w h _
  · obtain ⟨i, rfl, hi⟩ := mayI_nat h
    exact watchers_yes B i w hB hi (hl i hi)
theorem notify_all (B : Brd) (at_ who now : Int) (w : World) (hB : IsB w B) (hwo : okI who) (hl : ∀ i, i < 4 → (B.wl i).length ≤ 100000) (h0 : 0 ≤ B.last) (h1 : B.last ≤ 1000000) (hid : ∀ m ∈ B.ns, m.id < B.last + 1) (hnl : B.ns.length ≤ 100000) :
    Calls Try.prog 11 #[.pointer (some ⟨B.pb, 0, none⟩), .int .i64 at_, .int .i64 who, .int .i64 now] w fun e w' => ∃ v, e = .returned (.tuple #[.int .i64 (B.nid at_), v]) ∧
      w'.ownsRow (w.heap.size + 2) 3 1 v (B.toL at_ who).length ((B.toL at_ who).map (Value.int .i64)) ∧ IsB w' (B.notif w.heap.size at_ who now) ∧ Fr (· ∈ B.fp) w w' := by
  unfold Brd.toL Brd.notif Brd.nid
  cases h : mayI at_
  · refine (notify_no at_ who now w h _).mono ?_
    rintro e w' ⟨rfl, hb⟩
    exact ⟨_, rfl, World.ownsRow_nil _ _ _ _, hB.ext hb, Fr.ext hb⟩
  · obtain ⟨i, rfl, hi⟩ := mayI_nat h
    refine (notify_yes B i who now w hB hi hwo (hl i hi) h0 h1 hid hnl).mono ?_
    rintro e w' ⟨v, rfl, h1, h2, h3, h4⟩
    exact ⟨v, rfl, h1, h3, h4⟩

structure BI (w0 pb k : Nat) (B : Brd) : Prop where
  low : ∀ b ∈ B.fp, w0 ≤ b
  pbe : B.pb = pb
  wlen : ∀ i, (B.wl i).length ≤ k
  wel : ∀ i, ∀ x ∈ B.wl i, 0 ≤ x ∧ x < 8
  nlen : B.ns.length ≤ k
  last0 : 0 ≤ B.last
  last1 : B.last ≤ k
  nid : ∀ m ∈ B.ns, m.id < B.last + 1
  nat : ∀ m ∈ B.ns, 0 ≤ m.at_ ∧ m.at_ ≤ 1099511627776
  mlen : ∀ m ∈ B.ns, m.miss.length ≤ k
  mel : ∀ m ∈ B.ns, ∀ x ∈ m.miss, 0 ≤ x ∧ x < 8

theorem BI.new {w0 s : Nat} (h : w0 ≤ s) : BI w0 (s + 1) 0 (newB s) :=
  ⟨fun b hb => by simp [newB, Brd.fp] at hb; omega, rfl, by simp [newB], by simp [newB], by simp [newB], by simp [newB], by simp [newB], by simp [newB], by simp [newB], by simp [newB], by simp [newB]⟩
theorem BI.up {w0 pb k k' : Nat} {B : Brd} (h : BI w0 pb k B) (hk : k ≤ k') : BI w0 pb k' B :=
  ⟨h.low, h.pbe, fun i => Nat.le_trans (h.wlen i) hk, h.wel, Nat.le_trans h.nlen hk, h.last0, by have := h.last1; omega, h.nid, h.nat, fun m hm => Nat.le_trans (h.mlen m hm) hk, h.mel⟩
theorem BI.add {w0 pb k : Nat} {B : Brd} (h : BI w0 pb k B) (a who : Int) : BI w0 pb (k + 1) (B.add a who) := by
  unfold Brd.add
  cases hm : mayW a who
  · exact h.up (by omega)
  · simp only [if_true]
    have hw : 0 ≤ who := by simp [mayW] at hm; exact hm.1.2
    have hw8 : who < 8 := by simp [mayW] at hm; exact hm.2
    refine ⟨h.low, h.pbe, fun i => ?_, fun i => ?_, Nat.le_succ_of_le h.nlen, h.last0, by have := h.last1; show B.last ≤ ((k + 1 : Nat) : Int); omega, h.nid, h.nat, fun m hm => Nat.le_succ_of_le (h.mlen m hm), h.mel⟩
    · simp only [Brd.put]
      split
      · have := insS_length who (B.wl a.toNat); have := h.wlen a.toNat; omega
      · have := h.wlen i; omega
    · simp only [Brd.put]
      split
      · intro x hx
        rcases insS_mem.1 hx with rfl | hx
        · exact ⟨hw, hw8⟩
        · exact h.wel _ x hx.1
      · exact h.wel i
theorem clampT_b (now : Int) : 0 ≤ clampT now ∧ clampT now ≤ 1099511627776 := by unfold clampT; omega
theorem BI.notif {w0 pb k : Nat} {B : Brd} (h : BI w0 pb k B) {s : Nat} (hs : w0 ≤ s) (a who now : Int) : BI w0 pb (k + 1) (B.notif s a who now) := by
  unfold Brd.notif
  cases hm : mayI a
  · exact h.up (by omega)
  · simp only [if_true]
    have e : ∀ m, m ∈ (B.note s (clampT now) (remS who (B.wl a.toNat))).ns → m ∈ B.ns ∨ m = ⟨B.last + 1, clampT now, s + 1, s, remS who (B.wl a.toNat)⟩ := fun m hm => by simpa [Brd.note] using hm
    refine ⟨fun b hb => ?_, h.pbe, fun i => Nat.le_succ_of_le (h.wlen i), h.wel, ?_, ?_, ?_, fun m hm => ?_, fun m hm => ?_, fun m hm => ?_, fun m hm => ?_⟩
    · have hfp : (B.note s (clampT now) (remS who (B.wl a.toNat))).fp = B.fp ++ [s + 1, s] := by simp [Brd.fp, Brd.note]
      rw [hfp] at hb
      rcases List.mem_append.1 hb with hb | hb
      · exact h.low b hb
      · simp at hb; omega
    · have := h.nlen; simp [Brd.note]; omega
    · have := h.last0; simp [Brd.note]; omega
    · have := h.last1; simp [Brd.note]; omega
    · show m.id < B.last + 1 + 1
      rcases e m hm with hm | rfl
      · have := h.nid m hm; omega
      · simp; omega
    · rcases e m hm with hm | rfl
      · exact h.nat m hm
      · exact clampT_b now
    · rcases e m hm with hm | rfl
      · exact Nat.le_succ_of_le (h.mlen m hm)
      · have := remS_length who (B.wl a.toNat); have := h.wlen a.toNat; show (remS who (B.wl a.toNat)).length ≤ _; omega
    · rcases e m hm with hm | rfl
      · exact h.mel m hm
      · intro x hx; exact h.wel _ x (remS_mem.1 hx).1
theorem BI.forget {w0 pb k : Nat} {B : Brd} (h : BI w0 pb k B) (who : Int) : BI w0 pb k (B.forget who) := by
  have e : ∀ m, m ∈ (B.forget who).ns → ∃ n ∈ B.ns, m = { n with miss := remS who n.miss } := fun m hm => by
    obtain ⟨n, hn, rfl⟩ := List.mem_map.1 hm
    exact ⟨n, hn, rfl⟩
  refine ⟨fun b hb => h.low b (by rw [forget_fp] at hb; exact hb), h.pbe, fun i => ?_, fun i => ?_, by simpa [Brd.forget] using h.nlen, h.last0, h.last1, fun m hm => ?_, fun m hm => ?_, fun m hm => ?_, fun m hm => ?_⟩
  · simp only [Brd.forget]
    split
    · exact Nat.le_trans (remS_length _ _) (h.wlen i)
    · exact h.wlen i
  · simp only [Brd.forget]
    split
    · intro x hx; exact h.wel i x (remS_mem.1 hx).1
    · exact h.wel i
  · obtain ⟨n, hn, rfl⟩ := e m hm; exact h.nid n hn
  · obtain ⟨n, hn, rfl⟩ := e m hm; exact h.nat n hn
  · obtain ⟨n, hn, rfl⟩ := e m hm; exact Nat.le_trans (remS_length _ _) (h.mlen n hn)
  · obtain ⟨n, hn, rfl⟩ := e m hm; intro x hx; exact h.mel n hn x (remS_mem.1 hx).1
theorem BI.keep {w0 pb k : Nat} {B : Brd} (h : BI w0 pb k B) (p : Nt → Bool) : BI w0 pb k (B.keep (B.ns.filter p)) := by
  have e : ∀ m, m ∈ B.ns.filter p → m ∈ B.ns := fun m hm => (List.mem_filter.1 hm).1
  refine ⟨fun b hb => h.low b ?_, h.pbe, h.wlen, h.wel, Nat.le_trans (List.length_filter_le _ _) h.nlen, h.last0, h.last1, fun m hm => h.nid m (e m hm), fun m hm => h.nat m (e m hm), fun m hm => h.mlen m (e m hm), fun m hm => h.mel m (e m hm)⟩
  simp only [Brd.fp, Brd.keep, List.mem_cons, List.mem_flatMap] at hb ⊢
  rcases hb with h | h | h | h | h | h | ⟨n, hn, h⟩
  all_goals try simp [h]
  exact .inr (.inr (.inr (.inr (.inr (.inr ⟨n, e n hn, by simpa using h⟩)))))
theorem BI.ack {w0 pb k : Nat} {B : Brd} (h : BI w0 pb k B) (id who : Int) : BI w0 pb k (B.ack id who) := by
  unfold Brd.ack
  cases hm : B.ackB id who
  · exact h
  · simp only [if_true]
    have hmem : ∀ x ∈ B.missL id, 0 ≤ x ∧ x < 8 := by
      intro x hx
      unfold Brd.missL at hx
      split at hx
      · rename_i n hf; exact h.mel n (findN_mem hf).1 x hx
      · simp at hx
    have hlen : (B.missL id).length ≤ k := by
      unfold Brd.missL
      split
      · rename_i n hf; exact h.mlen n (findN_mem hf).1
      · simp
    have e : ∀ m, m ∈ (B.setN id (remS who (B.missL id))).ns → ∃ n ∈ B.ns, m = n ∨ m = { n with miss := remS who (B.missL id) } := fun m hm => by
      obtain ⟨n, hn, rfl⟩ := List.mem_map.1 hm
      refine ⟨n, hn, ?_⟩
      split
      · exact .inr rfl
      · exact .inl rfl
    refine ⟨fun b hb => h.low b ?_, h.pbe, h.wlen, h.wel, by simpa [Brd.setN, setN] using h.nlen, h.last0, h.last1, fun m hm => ?_, fun m hm => ?_, fun m hm => ?_, fun m hm => ?_⟩
    · simpa only [Brd.fp, Brd.setN, setN_fm] using hb
    · obtain ⟨n, hn, rfl | rfl⟩ := e m hm
      · exact h.nid _ hn
      · exact h.nid n hn
    · obtain ⟨n, hn, rfl | rfl⟩ := e m hm
      · exact h.nat _ hn
      · exact h.nat n hn
    · obtain ⟨n, hn, rfl | rfl⟩ := e m hm
      · exact h.mlen _ hn
      · exact Nat.le_trans (remS_length _ _) hlen
    · obtain ⟨n, hn, rfl | rfl⟩ := e m hm
      · exact h.mel _ hn
      · intro x hx; exact hmem x (remS_mem.1 hx).1

/-! Acts -/
structure AD where
  kind : Int
  img : Int
  who : Int
  n : Int
  now : Int
structure RdA (W : World) (aa : Option Addr) (n : Nat) (l : List AD) : Prop where
  len : l.length = n
  cell : ∀ k (h : k < n), ∃ b off, aa = some ⟨b, off, none⟩ ∧ b < W.heap.size ∧ W.cell? ⟨b, off + k * 5, none⟩ = some (.int .i64 (l[k]'(by omega)).kind) ∧ W.cell? ⟨b, off + k * 5 + 1, none⟩ = some (.int .i64 (l[k]'(by omega)).img) ∧
    W.cell? ⟨b, off + k * 5 + 2, none⟩ = some (.int .i64 (l[k]'(by omega)).who) ∧ W.cell? ⟨b, off + k * 5 + 3, none⟩ = some (.int .i64 (l[k]'(by omega)).n) ∧ W.cell? ⟨b, off + k * 5 + 4, none⟩ = some (.int .i64 (l[k]'(by omega)).now)
  ok : ∀ a ∈ l, okI a.kind ∧ okI a.img ∧ okI a.who ∧ okI a.n ∧ okI a.now
end Go.Proofs.Ytiikkglgoanpbaa
