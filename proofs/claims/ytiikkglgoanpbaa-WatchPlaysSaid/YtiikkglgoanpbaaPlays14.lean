/- WatchPlays. -/
import Derived.Test.YtiikkglgoanpbaaRefG14
import Derived.Deep.CutBlock
namespace Go.Proofs.Ytiikkglgoanpbaa
open Go.RowKit Go.Maps Go.WideShapes

theorem and7 (x : Int) : ∃ i : Nat, i < 8 ∧ bits .and .i64 x 7 = (i : Int) := by
  have h := i64_mask x 3 (by omega)
  have h : bits .and .i64 x 7 = x % 8 := h
  have h0 : 0 ≤ x % 8 := Int.emod_nonneg _ (by decide)
  obtain ⟨i, hi⟩ := Int.eq_ofNat_of_zero_le h0
  exact ⟨i, by omega, h.trans hi⟩

theorem IsR.cut {A : Nat → Prop} {w : World} {v : Value} {B : Brd} (h : IsR A w v B) : IsR (fun b => A b ∧ b < w.heap.size) w v B := by
  obtain ⟨wv, nv, rfl, h1, h2⟩ := h
  exact ⟨wv, nv, rfl, h1.cut, h2.cut⟩
/-- what holds at every round's head: the board and the reference's board are the same datum, apart from each other -/
structure Rel (w : World) (pb wb k : Nat) (wr : World) (B : Brd) (A : Nat → Prop) (v : Value) : Prop where
  inv : BI w.heap.size pb k B
  brd : IsB wr B
  ref : IsR A wr v B
  cell : ∃ wv nv, v = .agg #[wv, nv, .int .i64 B.last] ∧ wr.heap[wb]? = some (.cells #[wv, nv, .int .i64 B.last] 38 (0, 0))
  apart : ∀ b ∈ B.fp, ¬ A b ∧ b ≠ wb
  lt : ∀ b, A b → b < wr.heap.size
  wb : ¬ A wb ∧ w.heap.size ≤ wb
  below : Below w.heap.size w wr

theorem IsR.opn {A : Nat → Prop} {w : World} {v : Value} {B : Brd} (h : IsR A w v B) : ∃ wa wc na nc, v = .agg #[.slice wa 4 wc, .slice na B.ns.length nc, .int .i64 B.last] := by
  obtain ⟨wv, nv, rfl, h1, h2⟩ := h
  obtain ⟨wa, wc, rfl⟩ := h1.shape
  obtain ⟨na, nc, rfl⟩ := h2.shape
  exact ⟨_, _, _, _, rfl⟩
theorem Rel.opn {w wr : World} {pb wb k : Nat} {B : Brd} {A : Nat → Prop} {v : Value} (h : Rel w pb wb k wr B A v) : ∃ wa wc na nc, v = .agg #[.slice wa 4 wc, .slice na B.ns.length nc, .int .i64 B.last] ∧ wr.heap[wb]? = some (.cells #[.slice wa 4 wc, .slice na B.ns.length nc, .int .i64 B.last] 38 (0, 0)) := by
  obtain ⟨wa, wc, na, nc, rfl⟩ := h.ref.opn
  obtain ⟨wv, nv, e, hb⟩ := h.cell
  simp only [Value.agg.injEq, Array.mk.injEq, List.cons.injEq, and_true] at e
  obtain ⟨rfl, rfl⟩ := e
  exact ⟨_, _, _, _, rfl, hb⟩
theorem Rel.ext {w wr w2 : World} {pb wb k : Nat} {B : Brd} {A : Nat → Prop} {v : Value} (h : Rel w pb wb k wr B A v) (hb : Below wr.heap.size wr w2) : Rel w pb wb k w2 B A v := by
  obtain ⟨wv, nv, e, hc⟩ := h.cell
  exact ⟨h.inv, h.brd.ext hb, h.ref.mono (Same.of_ext hb), ⟨wv, nv, e, (hb.block _ (lt_of_block hc)).trans hc⟩, h.apart, fun b hA => Nat.lt_of_lt_of_le (h.lt b hA) hb.size, h.wb, h.below.trans (hb.mono h.below.size)⟩
theorem notif_fp {B : Brd} {s : Nat} {a who now : Int} {b : Nat} (h : b ∈ (B.notif s a who now).fp) : b ∈ B.fp ∨ s ≤ b := by
  unfold Brd.notif at h
  split at h
  · have hfp : (B.note s (clampT now) (remS who (B.wl a.toNat))).fp = B.fp ++ [s + 1, s] := by simp [Brd.fp, Brd.note]
    rw [hfp] at h
    rcases List.mem_append.1 h with h | h
    · exact .inl h
    · simp at h; omega
  · exact .inl h
theorem ack_fp (B : Brd) (a b : Int) : (B.ack a b).fp = B.fp := by
  unfold Brd.ack
  split
  · simp only [Brd.fp, Brd.setN, setN_fm]
  · rfl
theorem keep_fp {B : Brd} {p : Nt → Bool} {b : Nat} (hb : b ∈ (B.keep (B.ns.filter p)).fp) : b ∈ B.fp := by
  simp only [Brd.fp, Brd.keep, List.mem_cons, List.mem_flatMap] at hb ⊢
  rcases hb with h | h | h | h | h | h | ⟨n, hn, h⟩
  all_goals try simp [h]
  exact .inr (.inr (.inr (.inr (.inr (.inr ⟨n, (List.mem_filter.1 hn).1, by simpa using h⟩)))))
theorem okI_bd {k : Int} (h : okI k) : -9223372036854775808 ≤ k ∧ k ≤ 9223372036854775807 := by
  unfold okI at h
  simp [Lit.wf, IntKind.min, IntKind.max, IntKind.signed, IntKind.bits] at h
  omega
theorem chainB {W w1 w2 : World} (hb : Below w1.heap.size w1 w2) (h : Below W.heap.size W w1) : Below W.heap.size W w2 := h.trans (hb.mono h.size)
theorem heldS {W w' : World} {a b c d e : Addr} {u v x y z : Value} (h1 : W.cell? a = some u) (h2 : W.cell? b = some v) (h3 : W.cell? c = some x) (h4 : W.cell? d = some y) (h5 : W.cell? e = some z) (h : Below W.heap.size W w') :
    (w'.cell? a = some u ∧ w'.cell? b = some v ∧ w'.cell? c = some x ∧ w'.cell? d = some y ∧ w'.cell? e = some z) ∧ Below W.heap.size W w' := ⟨⟨cellExt h h1, cellExt h h2, cellExt h h3, cellExt h h4, cellExt h h5⟩, h⟩
theorem Rel.wlt {w wr : World} {pb wb k : Nat} {B : Brd} {A : Nat → Prop} {v : Value} (h : Rel w pb wb k wr B A v) : wb < wr.heap.size := by
  obtain ⟨_, _, _, hb⟩ := h.cell
  exact lt_of_block hb
/-- between the board's step and the reference's -/
theorem Rel.mid {w wr w1 w2 : World} {pb wb k : Nat} {B : Brd} {A : Nat → Prop} {v : Value} (h : Rel w pb wb k wr B A v) (e1 : Below wr.heap.size wr w1) (hf : Fr (· ∈ B.fp) w1 w2) :
    IsR A w2 v B ∧ w2.heap[wb]? = wr.heap[wb]? ∧ (∀ o, w1.heap[wr.heap.size]? = some o → w2.heap[wr.heap.size]? = some o) := by
  have hs := e1.size
  have hw := h.wlt
  refine ⟨(h.ref.mono (Same.of_ext e1)).mono (Same.of_fr hf fun b hA _ hb => (h.apart b hb).1 hA), ?_, fun o ho => ?_⟩
  · rw [hf.block wb (by omega) fun hb => (h.apart wb hb).2 rfl]
    exact e1.block wb hw
  · rw [hf.block _ (lt_of_block ho) fun hb => by have := h.brd.lt _ hb; omega]
    exact ho
theorem Rel.step {w wr w1 w2 w3 w4 : World} {pb wb k k' : Nat} {B B' : Brd} {A : Nat → Prop} {v wv' nv' : Value} (h : Rel w pb wb k wr B A v) (e1 : Below wr.heap.size wr w1) (hf : Fr (· ∈ B.fp) w1 w2) (hB : IsB w2 B') (hinv : BI w.heap.size pb k' B') (hfp : ∀ b ∈ B'.fp, b ∈ B.fp ∨ w1.heap.size ≤ b)
    (hr : IsR (UpA A w2) w3 (.agg #[wv', nv', .int .i64 B'.last]) B') (hb : Below w2.heap.size w2 w3) (hb4 : Below w3.heap.size w3 w4) :
    (∃ A', Rel w pb wb k' (((w4.setCell ⟨wb, 0, none⟩ wv').setCell ⟨wb, 1, none⟩ nv').setCell ⟨wb, 2, none⟩ (.int .i64 B'.last)) B' A' (.agg #[wv', nv', .int .i64 B'.last])) ∧
    (∀ o, w1.heap[wr.heap.size]? = some o → (((w4.setCell ⟨wb, 0, none⟩ wv').setCell ⟨wb, 1, none⟩ nv').setCell ⟨wb, 2, none⟩ (.int .i64 B'.last)).heap[wr.heap.size]? = some o) := by
  have hs1 := e1.size
  have hs2 := hf.size
  have hs3 := hb.size
  have hs4 := hb4.size
  have hw := h.wlt
  obtain ⟨m1, m2, m3⟩ := h.mid e1 hf
  obtain ⟨wv, nv, _, hblk⟩ := h.cell
  have hk4 : w4.heap[wb]? = _ := ((hb4.block _ (by omega)).trans ((hb.block _ (by omega)).trans m2)).trans hblk
  have s0 := heap_setCell_same w4 wb 0 _ _ wv' hk4
  have s1 := heap_setCell_same _ wb 1 _ _ nv' s0
  have s2 := heap_setCell_same _ wb 2 _ _ (.int .i64 B'.last) s1
  have hne : ∀ b ∈ B'.fp, b ≠ wb := fun b hb e => by
    subst e
    rcases hfp b hb with h1 | h1
    · exact (h.apart b h1).2 rfl
    · omega
  have hoth : ∀ b, b ≠ wb → (((w4.setCell ⟨wb, 0, none⟩ wv').setCell ⟨wb, 1, none⟩ nv').setCell ⟨wb, 2, none⟩ (.int .i64 B'.last)).heap[b]? = w4.heap[b]? := fun b hb => by
    rw [Below.heap_setCell _ _ _ _ hb, Below.heap_setCell _ _ _ _ hb, Below.heap_setCell _ _ _ _ hb]
  have hsz : (((w4.setCell ⟨wb, 0, none⟩ wv').setCell ⟨wb, 1, none⟩ nv').setCell ⟨wb, 2, none⟩ (.int .i64 B'.last)).heap.size = w4.heap.size := by simp
  refine ⟨⟨fun b => UpA A w2 b ∧ b < w3.heap.size, hinv, ((hB.ext hb).ext hb4).keep fun b hb => hoth b (hne b hb), ?_, ⟨_, _, rfl, by simpa using s2⟩, fun b hb' => ⟨?_, hne b hb'⟩, fun b hb' => by rw [hsz]; omega, ⟨?_, h.wb.2⟩, ?_⟩, fun o ho => ?_⟩
  · refine ((IsR.cut hr).mono (Same.of_ext hb4)).mono ⟨by rw [hsz]; exact Nat.le_refl _, fun b hb' hl => hoth b ?_⟩
    rintro rfl
    rcases hb'.1 with h1 | h1
    · exact h.wb.1 h1
    · omega
  · rintro ⟨h1 | h1, _⟩
    · rcases hfp b hb' with h2 | h2
      · exact (h.apart b h2).1 h1
      · have := h.lt b h1; omega
    · have := hB.lt b hb'; omega
  · rintro ⟨h1 | h1, _⟩
    · exact h.wb.1 h1
    · omega
  · have b1 := h.below.trans (e1.mono h.below.size)
    have b2 : Below w.heap.size w1 w2 := hf.below b1.size fun b hb' hm => by have := h.inv.low b hm; omega
    have b3 := ((b1.trans b2).trans (hb.mono (by have := b1.size; have := b2.size; omega))).trans (hb4.mono (by have := b1.size; have := b2.size; omega))
    exact Below.setCell (Below.setCell (Below.setCell b3 h.wb.2 _) h.wb.2 _) h.wb.2 _
  · rw [hoth _ (by omega), hb4.block _ (by have := lt_of_block ho; omega), hb.block _ (by have := lt_of_block ho; omega)]
    exact m3 o ho

set_option maxRecDepth 100000 in
set_option maxHeartbeats 8000000 in
theorem plays_law (aa : Option Addr) (n c : Nat) (l : List AD) (w : World) (hl : RdA w aa n l) :
    Calls Try.prog 5 #[.slice aa n c] w fun e w' => e = .returned (.bool true) ∧ Below w.heap.size w w' := by
  have H1 := Lib.hid hl
  clear hl
  go_enter Try.func5, Try.ntmps5
  go_wp2_with fail
  refine (awake_any _).mono ?_
  rintro e w1 ⟨rfl, hb1⟩
  go_wp2_with fail
  refine (new_any _).mono ?_
  rintro e w2 ⟨rfl, hB2, hb2⟩
  have H3 := Lib.hid hB2
  clear hB2
  generalize hs : w1.heap.size = s at *
  have hsw : w.heap.size ≤ s := by have := hb1.size; omega
  have hb12 : Below w.heap.size w w2 := hb1.trans (hb2.mono (by omega))
  have hb1 := Lib.hid hb1
  have hb2 := Lib.hid hb2
  clear hs
  go_wp2_with fail
  refine (rnew_any s _).mono ?_
  rintro e w3 ⟨v3, rfl, hv3, hb3⟩
  obtain ⟨wv, nv, rfl, hv4, hv5⟩ := hv3
  obtain ⟨wa, wc, rfl⟩ := hv4.shape
  obtain ⟨na, nc, rfl⟩ := hv5.shape
  have hv3 : Hid (IsR (fun b => w2.heap.size ≤ b) w3 (.agg #[.slice wa 4 wc, .slice na (newB s).ns.length nc, .int .i64 (newB s).last]) (newB s)) := ⟨_, _, rfl, hv4, hv5⟩
  clear hv4 hv5
  have hfp0 : Hid (∀ b ∈ (newB s).fp, s ≤ b ∧ b < w2.heap.size) := fun b hb => ⟨by simp [newB, Brd.fp] at hb; omega, H3.out.lt b hb⟩
  have hs23 := hb3.size
  have hs12 : s < w2.heap.size := H3.out.lt s (by simp [newB, Brd.fp])
  have hR0 : Rel w (s + 1) w3.heap.size 0 (w3.alloc (.cells #[.slice wa 4 wc, .slice na (newB s).ns.length nc, .int .i64 (newB s).last] 38)) (newB s) (fun b => w2.heap.size ≤ b ∧ b < w3.heap.size) (.agg #[.slice wa 4 wc, .slice na (newB s).ns.length nc, .int .i64 (newB s).last]) := by
    have hal : Below w3.heap.size w3 (w3.alloc (.cells #[.slice wa 4 wc, .slice na (newB s).ns.length nc, .int .i64 (newB s).last] 38)) := (Below.refl _ _).alloc (Nat.le_refl _) _
    refine ⟨BI.new hsw, (H3.out.ext hb3).ext hal, (IsR.cut hv3.out).mono (Same.of_ext hal), ⟨_, _, rfl, heap_alloc_new w3 _⟩, fun b hb => ?_, fun b hb => ?_, ?_, ?_⟩
    · have := hfp0.out b hb; omega
    · simp; omega
    · constructor <;> omega
    · exact (hb12.trans (hb3.mono (by omega))).alloc (by omega) _
  have HR0 := Lib.hid hR0
  clear hR0 hb1 hb2 hb3 hb12 H3 hv3 hfp0
  go_wp2
  generalize w3.heap.size = wb at *
  go_loopw [6] (fun q wr => ∃ (k : Nat) (B : Brd) (A : Nat → Prop) (v : Value), k ≤ n ∧ k ≤ 60 ∧ q = .int .i64 k ∧ Rel w (s + 1) wb k wr B A v) (fun q _ => n - (intOf q).toNat)
  case atStart => exact ⟨0, _, _, _, Nat.zero_le _, by omega, rfl, HR0.out⟩
  case round =>
    obtain ⟨k, B, A, v, hk, hk60, rfl, hR⟩ := hrel
    have HR := Lib.hid hR
    clear hR HR0
    by_cases hgo : k < n ∧ k < 60
    · obtain ⟨hlt, hlt60⟩ := hgo
      obtain ⟨b, off, rfl, hbl, d0, d1, d2, d3, d4⟩ := H1.out.cell k hlt
      have d0 := cellB HR.out.below hbl d0
      have d1 := cellB HR.out.below hbl d1
      have d2 := cellB HR.out.below hbl d2
      have d3 := cellB HR.out.below hbl d3
      have d4 := cellB HR.out.below hbl d4
      have HOK := Lib.hid (H1.out.ok _ (List.getElem_mem (by rw [H1.out.len]; exact hlt) : l[k]'(by rw [H1.out.len]; exact hlt) ∈ l))
      generalize l[k]'(by rw [H1.out.len]; exact hlt) = a at *
      obtain ⟨ki, im, wh, nn, no⟩ := a
      simp only at d0 d1 d2 d3 d4
      obtain ⟨q7, hq7, e7⟩ := and7 ki
      obtain ⟨va, vc, na', nc', rfl, hblk⟩ := HR.out.opn
      have HBLK := Lib.hid hblk
      have hpb : Hid (B.pb = s + 1) := HR.out.inv.pbe
      have hwlt := HR.out.wlt
      have hwl : Hid (∀ i, i < 4 → (B.wl i).length ≤ 100000) := fun i _ => by have := HR.out.inv.wlen i; omega
      have hwl2 : Hid (∀ i, (B.wl i).length ≤ 1000) := fun i => by have := HR.out.inv.wlen i; omega
      have hup : Hid (∀ i, i < 4 → (B.wl i).Pairwise (· < ·)) := fun i hi => setV_nodup (HR.out.brd.watch i hi)
      have hnup : Hid (B.ns.Pairwise (fun m n => m.id < n.id)) := ntV_up HR.out.brd.nots.up
      have hmup : Hid (∀ n ∈ B.ns, n.miss.Pairwise (· < ·)) := fun n hn => setV_nodup (HR.out.brd.each n hn).2
      have hml : Hid (∀ n ∈ B.ns, n.miss.length ≤ 1000) := fun n hn => by have := HR.out.inv.mlen n hn; omega
      have hnl : Hid (B.ns.length ≤ 1000 ∧ B.last ≤ 1000000) := ⟨by have := HR.out.inv.nlen; omega, by have := HR.out.inv.last1; omega⟩
      have HE1 : Hid (Below wr.heap.size wr (wr.alloc (.cells #[.int .i64 ki, .int .i64 im, .int .i64 wh, .int .i64 nn, .int .i64 no] 41))) := (Below.refl _ _).alloc (Nat.le_refl _) _
      have HB1 := Lib.hid (HR.out.brd.ext HE1.out)
      clear hblk
      go_upto_block 2 with fail
      clear e7
      go_cut [8] (fun s8 wx => s8 = .bool true ∧ (∃ (B' : Brd) (A' : Nat → Prop) (v' : Value), Rel w (s + 1) wb (k + 1) wx B' A' v') ∧ wx.heap[wr.heap.size]? = some (.cells #[.int .i64 ki, .int .i64 im, .int .i64 wh, .int .i64 nn, .int .i64 no] 41 (0, 0)))
      case first =>
        obtain rfl | rfl | rfl | rfl | rfl | rfl | rfl | rfl : q7 = 0 ∨ q7 = 1 ∨ q7 = 2 ∨ q7 = 3 ∨ q7 = 4 ∨ q7 = 5 ∨ q7 = 6 ∨ q7 = 7 := by omega
        iterate 2
          · go_wp2_with fail
            rw [← hpb.out]
            refine (watch_any B im wh _ HB1.out hwl.out).mono ?_
            rintro e w4 ⟨rfl, hB4, hf4⟩
            rw [hpb.out]
            obtain ⟨m1, m2, m3⟩ := HR.out.mid HE1.out hf4
            have M1 := Lib.hid m1
            have hs4 := hf4.size
            simp only [World.size_alloc] at hs4
            have hw4 : w4.heap[wb]? = _ := m2.trans HBLK.out
            have hc4 := m3 _ (heap_alloc_new wr _)
            obtain ⟨x0, _⟩ := blk_cell (i := 0) hw4
            obtain ⟨x1, _⟩ := blk_cell (i := 1) hw4
            obtain ⟨x2, _⟩ := blk_cell (i := 2) hw4
            obtain ⟨y1, _⟩ := blk_cell (i := 1) hc4
            obtain ⟨y2, _⟩ := blk_cell (i := 2) hc4
            obtain ⟨y3, _⟩ := blk_cell (i := 3) hc4
            obtain ⟨y4, _⟩ := blk_cell (i := 4) hc4
            simp at x0 x1 x2 y1 y2 y3 y4
            have HW4 := Lib.hid hw4
            clear m1 m2 m3 hw4 hc4
            go_wp2_with fail
            refine (radd_any A _ B im wh _ M1.out hup.out hwl2.out).mono ?_
            rintro e w5 ⟨v5, rfl, hr5, hb5⟩
            obtain ⟨ra, rc, sa, sc, rfl⟩ := hr5.opn
            have hw5 : w5.heap[wb]? = _ := (hb5.block _ (by omega)).trans HW4.out
            obtain ⟨z0, f0⟩ := blk_cell (i := 0) hw5
            obtain ⟨z1, f1⟩ := blk_cell (i := 1) hw5
            obtain ⟨z2, f2⟩ := blk_cell (i := 2) hw5
            simp at z0 z1 z2
            have hs5 := hb5.size
            have hwb5 : wb < w5.heap.size := by omega
            clear hw5 x0 x1 x2 y1 y2 y3 y4
            have hst := fun w6 h6 => HR.out.step (w3 := w5) (w4 := w6) (k' := k + 1) HE1.out hf4 hB4 (HR.out.inv.add im wh) (fun b hb => .inl (by rw [add_fp] at hb; exact hb)) hr5 hb5 h6
            have HST := Lib.hid hst
            clear hst hB4 hf4 hr5 hb5
            go_wp2
            go_meet
            obtain ⟨⟨A', hA⟩, hq⟩ := HST.out w5 (Below.refl _ _)
            first
              | exact ⟨rfl, ⟨_, A', _, hA⟩, hq _ (heap_alloc_new wr _)⟩
              | exact ⟨rfl, ⟨_, A', _, hA.ext ((Below.refl _ _).alloc (Nat.le_refl _) _)⟩, (Below.heap_alloc _ _ _ (lt_of_block (hq _ (heap_alloc_new wr _)))).trans (hq _ (heap_alloc_new wr _))⟩
        · -- Forget
          go_wp2_with fail
          rw [← hpb.out]
          refine (forget_any B wh _ HB1.out HOK.out.2.2.1).mono ?_
          rintro e w4 ⟨rfl, hB4, hf4⟩
          rw [hpb.out]
          obtain ⟨m1, m2, m3⟩ := HR.out.mid HE1.out hf4
          have M1 := Lib.hid m1
          have hs4 := hf4.size
          simp only [World.size_alloc] at hs4
          have hw4 : w4.heap[wb]? = _ := m2.trans HBLK.out
          have hc4 := m3 _ (heap_alloc_new wr _)
          obtain ⟨x0, _⟩ := blk_cell (i := 0) hw4
          obtain ⟨x1, _⟩ := blk_cell (i := 1) hw4
          obtain ⟨x2, _⟩ := blk_cell (i := 2) hw4
          obtain ⟨y1, _⟩ := blk_cell (i := 1) hc4
          obtain ⟨y2, _⟩ := blk_cell (i := 2) hc4
          obtain ⟨y3, _⟩ := blk_cell (i := 3) hc4
          obtain ⟨y4, _⟩ := blk_cell (i := 4) hc4
          simp at x0 x1 x2 y1 y2 y3 y4
          have HW4 := Lib.hid hw4
          clear m1 m2 m3 hw4 hc4
          go_wp2_with fail
          refine (rforget_any A _ B wh _ M1.out hwl2.out hnl.out.1 hml.out).mono ?_
          rintro e w5 ⟨v5, rfl, hr5, hb5⟩
          obtain ⟨ra, rc, sa, sc, rfl⟩ := hr5.opn
          have hw5 : w5.heap[wb]? = _ := (hb5.block _ (by omega)).trans HW4.out
          obtain ⟨z0, f0⟩ := blk_cell (i := 0) hw5
          obtain ⟨z1, f1⟩ := blk_cell (i := 1) hw5
          obtain ⟨z2, f2⟩ := blk_cell (i := 2) hw5
          simp at z0 z1 z2
          have hs5 := hb5.size
          have hwb5 : wb < w5.heap.size := by omega
          clear hw5 x0 x1 x2 y1 y2 y3 y4
          have hst := fun w6 h6 => HR.out.step (w3 := w5) (w4 := w6) (k' := k + 1) HE1.out hf4 hB4 ((HR.out.inv.forget wh).up (by omega)) (fun b hb => .inl (by rw [forget_fp] at hb; exact hb)) hr5 hb5 h6
          have HST := Lib.hid hst
          clear hst hB4 hf4 hr5 hb5
          go_wp2
          go_meet
          obtain ⟨⟨A', hA⟩, hq⟩ := HST.out w5 (Below.refl _ _)
          first
            | exact ⟨rfl, ⟨_, A', _, hA⟩, hq _ (heap_alloc_new wr _)⟩
            | exact ⟨rfl, ⟨_, A', _, hA.ext ((Below.refl _ _).alloc (Nat.le_refl _) _)⟩, (Below.heap_alloc _ _ _ (lt_of_block (hq _ (heap_alloc_new wr _)))).trans (hq _ (heap_alloc_new wr _))⟩
        iterate 2
          · -- Notify
            go_wp2_with fail
            rw [← hpb.out]
            refine (notify_all B im wh no _ HB1.out HOK.out.2.2.1 hwl.out HR.out.inv.last0 hnl.out.2 HR.out.inv.nid (by have := hnl.out.1; omega)).mono ?_
            rintro e w4 ⟨v4, rfl, hv4, hB4, hf4⟩
            rw [hpb.out]
            have V4 := Lib.hid (OwR.of hv4)
            obtain ⟨a4, c4, rfl⟩ := owns_shape hv4
            have hs1 : Hid ((wr.alloc (.cells #[.int .i64 ki, .int .i64 im, .int .i64 wh, .int .i64 nn, .int .i64 no] 41)).heap.size = wr.heap.size + 1) := by show _ = _; simp
            rw [hs1.out] at hB4
            obtain ⟨m1, m2, m3⟩ := HR.out.mid HE1.out hf4
            have M1 := Lib.hid m1
            have hs4 := hf4.size
            simp only [World.size_alloc] at hs4
            have hw4 : w4.heap[wb]? = _ := m2.trans HBLK.out
            have hc4 := m3 _ (heap_alloc_new wr _)
            obtain ⟨x0, _⟩ := blk_cell (i := 0) hw4
            obtain ⟨x1, _⟩ := blk_cell (i := 1) hw4
            obtain ⟨x2, _⟩ := blk_cell (i := 2) hw4
            obtain ⟨y1, _⟩ := blk_cell (i := 1) hc4
            obtain ⟨y2, _⟩ := blk_cell (i := 2) hc4
            obtain ⟨y3, _⟩ := blk_cell (i := 3) hc4
            obtain ⟨y4, _⟩ := blk_cell (i := 4) hc4
            simp at x0 x1 x2 y1 y2 y3 y4
            have HW4 := Lib.hid hw4
            clear m1 m2 m3 hw4 hc4
            clear hv4
            go_wp2_with fail
            refine (rnotify_any A _ B im wh no _ (wr.heap.size + 1) M1.out HR.out.inv.last0 hnl.out.2 hwl2.out hnl.out.1).mono ?_
            rintro e w5 ⟨v5, o5, rfl, hr5, ho5, hb5⟩
            obtain ⟨ra, rc, sa, sc, rfl⟩ := hr5.opn
            obtain ⟨oa, oc, rfl⟩ := SlA.shape ho5
            have hw5 : w5.heap[wb]? = _ := (hb5.block _ (by omega)).trans HW4.out
            obtain ⟨z0, f0⟩ := blk_cell (i := 0) hw5
            obtain ⟨z1, f1⟩ := blk_cell (i := 1) hw5
            obtain ⟨z2, f2⟩ := blk_cell (i := 2) hw5
            simp at z0 z1 z2
            have hs5 := hb5.size
            have hwb5 : wb < w5.heap.size := by omega
            clear hw5 x0 x1 x2 y1 y2 y3 y4
            have hst := fun w6 h6 => HR.out.step (w3 := w5) (w4 := w6) (k' := k + 1) HE1.out hf4 hB4 (HR.out.inv.notif (by have := HR.out.below.size; omega) im wh no) (fun b hb => by
              rcases notif_fp hb with h | h
              · exact .inl h
              · right; rw [hs1.out]; exact h) hr5 hb5 h6
            have HST := Lib.hid hst
            have HB5 := Lib.hid hb5
            have T4 : Hid (RL (fun b => b ≠ wb ∧ b < w5.heap.size) w5 (.slice a4 (B.toL im wh).length c4) (B.toL im wh)) := by
              refine (RL.ext (RL.cut (SlA.of_owns V4.out.own)) hb5).weak fun b hb => ?_
              have h1 := hb.1
              have h2 := hb.2
              rw [hs1.out] at h1
              omega
            have T5 : Hid (RL (fun b => b ≠ wb ∧ b < w5.heap.size) w5 (.slice oa (B.toL im wh).length oc) (B.toL im wh)) := by
              refine (RL.cut ho5).weak fun b hb => ⟨?_, hb.2⟩
              rintro rfl
              rcases hb.1 with h1 | h1
              · exact HR.out.wb.1 h1
              · omega
            have hlen : Hid ((B.toL im wh).length ≤ 1000000) := by
              show _ ≤ _
              unfold Brd.toL
              split
              · have := remS_length wh (B.wl im.toNat); have := hwl2.out im.toNat; omega
              · simp
            clear hst hB4 hf4 hr5 hb5 ho5 V4
            go_wp2_with fail
            refine (ints_same _ _ (B.toL im wh) _ _ rfl hlen.out (T4.out.mono ?_).sl (T5.out.mono ?_).sl).mono ?_
            · ((repeat' (first | exact Same.refl _ _ | refine Same.alloc ?_ _ | refine Same.setCell ?_ ?_ _)); all_goals (rintro ⟨h, _⟩; exact h rfl))
            · ((repeat' (first | exact Same.refl _ _ | refine Same.alloc ?_ _ | refine Same.setCell ?_ ?_ _)); all_goals (rintro ⟨h, _⟩; exact h rfl))
            rintro e w6 ⟨rfl, hb6⟩
            go_wp2
            go_meet
            obtain ⟨⟨A', hA⟩, hq⟩ := HST.out w5 (Below.refl _ _)
            exact ⟨rfl, ⟨_, A', _, (hA.ext ((Below.refl _ _).alloc (Nat.le_refl _) _)).ext hb6⟩, (hb6.block _ (lt_of_block ((Below.heap_alloc _ _ _ (lt_of_block (hq _ (heap_alloc_new wr _)))).trans (hq _ (heap_alloc_new wr _))))).trans ((Below.heap_alloc _ _ _ (lt_of_block (hq _ (heap_alloc_new wr _)))).trans (hq _ (heap_alloc_new wr _)))⟩
        iterate 2
          · -- Ack
            go_wp2_with fail
            rw [← hpb.out]
            refine (ack_any B nn wh _ HB1.out HOK.out.2.2.2.1 HOK.out.2.2.1).mono ?_
            rintro e w4 ⟨rfl, hB4, hf4⟩
            rw [hpb.out]
            obtain ⟨m1, m2, m3⟩ := HR.out.mid HE1.out hf4
            have M1 := Lib.hid m1
            have hs4 := hf4.size
            simp only [World.size_alloc] at hs4
            have hw4 : w4.heap[wb]? = _ := m2.trans HBLK.out
            have hc4 := m3 _ (heap_alloc_new wr _)
            obtain ⟨x0, _⟩ := blk_cell (i := 0) hw4
            obtain ⟨x1, _⟩ := blk_cell (i := 1) hw4
            obtain ⟨x2, _⟩ := blk_cell (i := 2) hw4
            obtain ⟨y1, _⟩ := blk_cell (i := 1) hc4
            obtain ⟨y2, _⟩ := blk_cell (i := 2) hc4
            obtain ⟨y3, _⟩ := blk_cell (i := 3) hc4
            obtain ⟨y4, _⟩ := blk_cell (i := 4) hc4
            simp at x0 x1 x2 y1 y2 y3 y4
            have HW4 := Lib.hid hw4
            clear m1 m2 m3 hw4 hc4
            go_wp2_with fail
            refine (rack_any A _ B nn wh _ M1.out hnup.out hmup.out hnl.out.1 hml.out).mono ?_
            rintro e w5 ⟨v5, rfl, hr5, hb5⟩
            obtain ⟨ra, rc, sa, sc, rfl⟩ := hr5.opn
            have hw5 : w5.heap[wb]? = _ := (hb5.block _ (by omega)).trans HW4.out
            obtain ⟨z0, f0⟩ := blk_cell (i := 0) hw5
            obtain ⟨z1, f1⟩ := blk_cell (i := 1) hw5
            obtain ⟨z2, f2⟩ := blk_cell (i := 2) hw5
            simp at z0 z1 z2
            have hs5 := hb5.size
            have hwb5 : wb < w5.heap.size := by omega
            clear hw5 x0 x1 x2 y1 y2 y3 y4
            have hst := fun w6 h6 => HR.out.step (w3 := w5) (w4 := w6) (k' := k + 1) HE1.out hf4 hB4 ((HR.out.inv.ack nn wh).up (by omega)) (fun b hb => .inl (by rw [ack_fp] at hb; exact hb)) hr5 hb5 h6
            have HST := Lib.hid hst
            clear hst hB4 hf4 hr5 hb5
            go_wp2
            go_meet
            obtain ⟨⟨A', hA⟩, hq⟩ := HST.out w5 (Below.refl _ _)
            first
              | exact ⟨rfl, ⟨_, A', _, hA⟩, hq _ (heap_alloc_new wr _)⟩
              | exact ⟨rfl, ⟨_, A', _, hA.ext ((Below.refl _ _).alloc (Nat.le_refl _) _)⟩, (Below.heap_alloc _ _ _ (lt_of_block (hq _ (heap_alloc_new wr _)))).trans (hq _ (heap_alloc_new wr _))⟩
        · -- Over
          have hb1n := okI_bd HOK.out.2.2.2.2
          go_wp2_with fail
          rw [← hpb.out]
          refine (over_any B no _ HB1.out hb1n.1 hb1n.2 HR.out.inv.nat hnl.out.1).mono ?_
          rintro e w4 ⟨v4, rfl, hv4, hB4, hf4⟩
          rw [hpb.out]
          have e4 : (B.ns.filter (overB no)).map (fun n => Value.int .i64 n.id) = ((B.ns.filter (overB no)).map (·.id)).map (Value.int .i64) := by rw [List.map_map]; rfl
          rw [e4] at hv4
          clear e4
          have V4 := Lib.hid (OwR.of hv4)
          obtain ⟨a4, c4, rfl⟩ := owns_shape hv4
          have hs1 : Hid ((wr.alloc (.cells #[.int .i64 ki, .int .i64 im, .int .i64 wh, .int .i64 nn, .int .i64 no] 41)).heap.size = wr.heap.size + 1) := by show _ = _; simp
          obtain ⟨m1, m2, m3⟩ := HR.out.mid HE1.out hf4
          have M1 := Lib.hid m1
          have hs4 := hf4.size
          simp only [World.size_alloc] at hs4
          have hw4 : w4.heap[wb]? = _ := m2.trans HBLK.out
          have hc4 := m3 _ (heap_alloc_new wr _)
          obtain ⟨x0, _⟩ := blk_cell (i := 0) hw4
          obtain ⟨x1, _⟩ := blk_cell (i := 1) hw4
          obtain ⟨x2, _⟩ := blk_cell (i := 2) hw4
          obtain ⟨y1, _⟩ := blk_cell (i := 1) hc4
          obtain ⟨y2, _⟩ := blk_cell (i := 2) hc4
          obtain ⟨y3, _⟩ := blk_cell (i := 3) hc4
          obtain ⟨y4, _⟩ := blk_cell (i := 4) hc4
          simp at x0 x1 x2 y1 y2 y3 y4
          have HW4 := Lib.hid hw4
          clear m1 m2 m3 hw4 hc4
          clear hv4
          go_wp2_with fail
          refine (rover_any A _ B no _ M1.out hb1n.1 hb1n.2 HR.out.inv.nat hnl.out.1).mono ?_
          rintro e w5 ⟨v5, o5, rfl, hr5, ho5, hb5⟩
          obtain ⟨ra, rc, sa, sc, rfl⟩ := hr5.opn
          obtain ⟨oa, oc, rfl⟩ := SlA.shape ho5
          have hw5 : w5.heap[wb]? = _ := (hb5.block _ (by omega)).trans HW4.out
          obtain ⟨z0, f0⟩ := blk_cell (i := 0) hw5
          obtain ⟨z1, f1⟩ := blk_cell (i := 1) hw5
          obtain ⟨z2, f2⟩ := blk_cell (i := 2) hw5
          simp at z0 z1 z2
          have hs5 := hb5.size
          have hwb5 : wb < w5.heap.size := by omega
          clear hw5 x0 x1 x2 y1 y2 y3 y4
          have hst := fun w6 h6 => HR.out.step (w3 := w5) (w4 := w6) (k' := k + 1) HE1.out hf4 hB4 ((HR.out.inv.keep _).up (by omega)) (fun b hb => .inl (keep_fp hb)) hr5 hb5 h6
          have HST := Lib.hid hst
          have HB5 := Lib.hid hb5
          have hlq : ((B.ns.filter (overB no)).map (·.id)).length = (B.ns.filter (overB no)).length := by simp
          have T4 : Hid (RL (fun b => b ≠ wb ∧ b < w5.heap.size) w5 (.slice a4 ((B.ns.filter (overB no)).map (·.id)).length c4) ((B.ns.filter (overB no)).map (·.id))) := by
            have h0 := V4.out.own
            rw [← hlq] at h0
            refine (RL.ext (RL.cut (SlA.of_owns h0)) hb5).weak fun b hb => ?_
            have h1 := hb.1
            have h2 := hb.2
            rw [hs1.out] at h1
            omega
          have T5 : Hid (RL (fun b => b ≠ wb ∧ b < w5.heap.size) w5 (.slice oa ((B.ns.filter (overB no)).map (·.id)).length oc) ((B.ns.filter (overB no)).map (·.id))) := by
            refine (RL.cut ho5).weak fun b hb => ⟨?_, hb.2⟩
            rintro rfl
            rcases hb.1 with h1 | h1
            · exact HR.out.wb.1 h1
            · omega
          have hlen : Hid (((B.ns.filter (overB no)).map (·.id)).length ≤ 1000000) := by
            show _ ≤ _
            rw [hlq]
            have := List.length_filter_le (overB no) B.ns
            have := hnl.out.1
            omega
          clear hst hB4 hf4 hr5 hb5 ho5 V4
          go_wp2_with fail
          refine (ints_same _ _ ((B.ns.filter (overB no)).map (·.id)) (B.ns.filter (overB no)).length _ (by simp) (by have := hlen.out; rw [hlq] at this; exact this) ?_ ?_).mono ?_
          · have h := (RL.mono T4.out (w' := ((((w5.setCell ⟨wb, 0, none⟩ (.slice ra 4 rc)).setCell ⟨wb, 1, none⟩ (.slice sa (B.keep (B.ns.filter fun n => !overB no n)).ns.length sc)).setCell ⟨wb, 2, none⟩ (.int .i64 (B.keep (B.ns.filter fun n => !overB no n)).last)).alloc (.cells #[.slice ra 4 rc, .slice sa (B.keep (B.ns.filter fun n => !overB no n)).ns.length sc, .int .i64 (B.keep (B.ns.filter fun n => !overB no n)).last] 38))) (by ((repeat' (first | exact Same.refl _ _ | refine Same.alloc ?_ _ | refine Same.setCell ?_ ?_ _)); all_goals (rintro ⟨h, _⟩; exact h rfl)))).sl
            rw [hlq] at h
            exact h
          · have h := (RL.mono T5.out (w' := ((((w5.setCell ⟨wb, 0, none⟩ (.slice ra 4 rc)).setCell ⟨wb, 1, none⟩ (.slice sa (B.keep (B.ns.filter fun n => !overB no n)).ns.length sc)).setCell ⟨wb, 2, none⟩ (.int .i64 (B.keep (B.ns.filter fun n => !overB no n)).last)).alloc (.cells #[.slice ra 4 rc, .slice sa (B.keep (B.ns.filter fun n => !overB no n)).ns.length sc, .int .i64 (B.keep (B.ns.filter fun n => !overB no n)).last] 38))) (by ((repeat' (first | exact Same.refl _ _ | refine Same.alloc ?_ _ | refine Same.setCell ?_ ?_ _)); all_goals (rintro ⟨h, _⟩; exact h rfl)))).sl
            rw [hlq] at h
            exact h
          rintro e w6 ⟨rfl, hb6⟩
          go_wp2
          go_meet
          obtain ⟨⟨A', hA⟩, hq⟩ := HST.out w5 (Below.refl _ _)
          exact ⟨rfl, ⟨_, A', _, (hA.ext ((Below.refl _ _).alloc (Nat.le_refl _) _)).ext hb6⟩, (hb6.block _ (lt_of_block ((Below.heap_alloc _ _ _ (lt_of_block (hq _ (heap_alloc_new wr _)))).trans (hq _ (heap_alloc_new wr _))))).trans ((Below.heap_alloc _ _ _ (lt_of_block (hq _ (heap_alloc_new wr _)))).trans (hq _ (heap_alloc_new wr _)))⟩
      case rest =>
        obtain ⟨rfl, ⟨B', A', v', hR'⟩, hact⟩ := hcut
        obtain ⟨va', vc', na2, nc2, rfl, hblk⟩ := hR'.opn
        have HR' := Lib.hid hR'
        obtain ⟨x0, _⟩ := blk_cell (i := 0) hblk
        obtain ⟨x1, _⟩ := blk_cell (i := 1) hblk
        obtain ⟨x2, _⟩ := blk_cell (i := 2) hblk
        obtain ⟨y1, _⟩ := blk_cell (i := 1) hact
        obtain ⟨y3, _⟩ := blk_cell (i := 3) hact
        simp at x0 x1 x2 y1 y3
        clear hR' hblk hact HR HBLK hup hnup hmup hml HE1 HB1 hwl hwl2 hnl hpb
        have hwl' : ∀ i, i < 4 → (B'.wl i).length ≤ 100000 := fun i _ => by have := HR'.out.inv.wlen i; omega
        have hml' : ∀ n ∈ B'.ns, n.miss.length ≤ 100000 := fun n hn => by have := HR'.out.inv.mlen n hn; omega
        have hnl' : B'.ns.length ≤ 100000 := by have := HR'.out.inv.nlen; omega
        have hpb' : B'.pb = s + 1 := HR'.out.inv.pbe
        have hO : ∀ W, Below wc.heap.size wc W → Calls Try.prog 16 #[.pointer (some ⟨s + 1, 0, none⟩)] W fun e w'' => e = .returned (.int .i64 B'.ns.length) ∧ W = w'' := fun W hW => by
          rw [← hpb']; exact open_any B' W (HR'.out.brd.ext hW)
        have hT : ∀ W, Below wc.heap.size wc W → Calls Try.prog 24 #[.pointer (some ⟨s + 1, 0, none⟩), .int .i64 im] W fun e w'' => ∃ a c, e = .returned (.slice a (B'.watchL im).length c) ∧ Sl w'' 1 (.slice a (B'.watchL im).length c) (B'.watchL im).length ((B'.watchL im).map (Value.int .i64)) ∧ Below W.heap.size W w'' := fun W hW => by
          rw [← hpb']
          refine (watchers_any B' im W (HR'.out.brd.ext hW) hwl').mono ?_
          rintro e w'' ⟨v, rfl, h1, h2, h3⟩
          obtain ⟨a, c, rfl⟩ := owns_shape h1
          exact ⟨a, c, rfl, Sl.of_owns h1, h3⟩
        have hM : ∀ W, Below wc.heap.size wc W → Calls Try.prog 13 #[.pointer (some ⟨s + 1, 0, none⟩), .int .i64 nn] W fun e w'' => ∃ a c, e = .returned (.slice a (B'.missL nn).length c) ∧ Sl w'' 1 (.slice a (B'.missL nn).length c) (B'.missL nn).length ((B'.missL nn).map (Value.int .i64)) ∧ Below W.heap.size W w'' := fun W hW => by
          rw [← hpb']
          refine (missing_any B' nn W (HR'.out.brd.ext hW) HOK.out.2.2.2.1 hml').mono ?_
          rintro e w'' ⟨v, rfl, h1, h2, h3⟩
          obtain ⟨a, c, rfl⟩ := owns_shape h1
          exact ⟨a, c, rfl, Sl.of_owns h1, h3⟩
        have hRT : ∀ W, Below wc.heap.size wc W → Calls Try.prog 25 #[.agg #[.slice va' 4 vc', .slice na2 B'.ns.length nc2, .int .i64 B'.last], .int .i64 im] W fun e w'' => ∃ a c, e = .returned (.slice a (B'.watchL im).length c) ∧ Sl w'' 1 (.slice a (B'.watchL im).length c) (B'.watchL im).length ((B'.watchL im).map (Value.int .i64)) ∧ Below W.heap.size W w'' := fun W hW => by
          refine (rwatchers_any A' _ B' im W (HR'.out.ref.mono (Same.of_ext hW))).mono ?_
          rintro e w'' ⟨v, rfl, h1, h3⟩
          obtain ⟨a, c, rfl⟩ := SlA.shape h1
          exact ⟨a, c, rfl, SlA.sl h1, h3⟩
        have hRM : ∀ W, Below wc.heap.size wc W → Calls Try.prog 26 #[.agg #[.slice va' 4 vc', .slice na2 B'.ns.length nc2, .int .i64 B'.last], .int .i64 nn] W fun e w'' => ∃ a c, e = .returned (.slice a (B'.missL nn).length c) ∧ Sl w'' 1 (.slice a (B'.missL nn).length c) (B'.missL nn).length ((B'.missL nn).map (Value.int .i64)) ∧ Below W.heap.size W w'' := fun W hW => by
          refine (rmissing_any A' _ B' nn W (HR'.out.ref.mono (Same.of_ext hW)) hnl').mono ?_
          rintro e w'' ⟨v, rfl, h1, h3⟩
          obtain ⟨a, c, rfl⟩ := SlA.shape h1
          exact ⟨a, c, rfl, SlA.sl h1, h3⟩
        have hl1 : (B'.watchL im).length ≤ 1000000 := by
          unfold Brd.watchL
          split
          · have := HR'.out.inv.wlen im.toNat; omega
          · simp
        have hl2 : (B'.missL nn).length ≤ 1000000 := by
          unfold Brd.missL
          split
          · rename_i m hf
            have := hml' m (findN_mem hf).1
            omega
          · simp
        have HO := Lib.hid hO
        have HT := Lib.hid hT
        have HM := Lib.hid hM
        have HRT := Lib.hid hRT
        have HRM := Lib.hid hRM
        have HL1 := Lib.hid hl1
        have HL2 := Lib.hid hl2
        clear hO hT hM hRT hRM hl1 hl2 hwl' hml' hnl' hpb'
        generalize hL1 : B'.watchL im = L1 at *
        generalize hL2 : B'.missL nn = L2 at *
        clear hL1 hL2
        go_upto_region 38 with fail
        go_region_held3 (fun w' => (w'.cell? ⟨wb, 0, none⟩ = some (.slice va' 4 vc') ∧ w'.cell? ⟨wb, 1, none⟩ = some (.slice na2 B'.ns.length nc2) ∧ w'.cell? ⟨wb, 2, none⟩ = some (.int .i64 B'.last) ∧ w'.cell? ⟨wr.heap.size, 1, none⟩ = some (.int .i64 im) ∧ w'.cell? ⟨wr.heap.size, 3, none⟩ = some (.int .i64 nn)) ∧ Below wc.heap.size wc w')
          (first
            | exact heldS x0 x1 x2 y1 y3 (Below.refl _ _).drew
            | (go_split_ands; exact heldS x0 x1 x2 y1 y3 (by first | assumption | exact chainB hb6 (by assumption) | exact chainB hb4 (by assumption) | exact chainB hb3 (by assumption) | exact chainB hb5 (by assumption) | exact chainB hb2 (by assumption) | exact chainB hb1 (by assumption))))
          (first
            | (go_at_call 16; (try go_split_ands); refine (HO.out _ (by first | assumption | exact (Below.refl _ _).drew)).mono ?_; rintro e w' ⟨rfl, rfl⟩)
            | (go_at_call 24; (try go_split_ands); refine (HT.out _ (by first | assumption | exact (Below.refl _ _).drew)).mono ?_; rintro e w' ⟨a1, c1, rfl, hs1, hb1⟩)
            | (go_at_call 25; (try go_split_ands); refine (HRT.out _ (by first | assumption | exact (Below.refl _ _).drew)).mono ?_; rintro e w' ⟨a2, c2, rfl, hs2, hb2⟩)
            | (go_at_call 13; (try go_split_ands); refine (HM.out _ (by first | assumption | exact (Below.refl _ _).drew)).mono ?_; rintro e w' ⟨a3, c3, rfl, hs3, hb3⟩)
            | (go_at_call 26; (try go_split_ands); refine (HRM.out _ (by first | assumption | exact (Below.refl _ _).drew)).mono ?_; rintro e w' ⟨a4, c4, rfl, hs4, hb4⟩)
            | (go_at_call 15; refine (ints_same _ _ L2 L2.length _ rfl HL2.out (by first | exact hs3 | exact hs3.mono hb4) (by first | exact hs4 | exact hs4.mono hb3)).mono ?_; rintro e w' ⟨rfl, hb6⟩)
            | (go_at_call 15; refine (ints_same _ _ L1 L1.length _ rfl HL1.out (by first | exact hs1 | exact hs1.mono hb2) (by first | exact hs2 | exact hs2.mono hb1)).mono ?_; rintro e w' ⟨rfl, hb5⟩))
        all_goals
          (try go_split_ands)
          have hbe : Below wc.heap.size wc w' := by first | exact chainB hb6 (by assumption) | assumption
          have HBE := Lib.hid hbe
          clear hbe
          go_wp2
          go_roundw
          case rel => exact ⟨k + 1, B', A', _, by omega, by omega, by go_num, HR'.out.ext HBE.out⟩
          case measure => simp [intOf]; omega
    · have hcase : k < n ∧ 60 ≤ k ∨ n ≤ k := by omega
      have HBW := Lib.hid HR.out.below
      clear hgo H1 HR
      rcases hcase with ⟨hk1, hk2⟩ | hk1
      all_goals
        go_wp2
        go_ret
        exact ⟨rfl, HBW.out⟩
end Go.Proofs.Ytiikkglgoanpbaa
