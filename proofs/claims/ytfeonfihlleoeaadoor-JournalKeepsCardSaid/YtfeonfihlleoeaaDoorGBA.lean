/- The walk of terrazzolaw20.awake. The walk of terrazzoref09.Same, at data that are the same. -/
import Derived.Test.YtfeonfihlleoeaaDoorGAZ
import Derived.Test.YtfeonfihlleoeaaDoorGAL
import Derived.Test.YtfeonfihlleoeaaDoorGAI
import Derived.Test.YtfeonfihlleoeaaDoorGAW
namespace Go.Proofs.YtfeonfihlleoeaaDoor
open Go.RowKit Go.WideShapes
attribute [local go_sem ↓] Go.wp_at_zero Go.wp_at_succ

theorem SlA.set1 {A : Nat → Prop} {w : World} {size n : Nat} {v u u0 : Value} {xs : List Value} {p : Addr} (h : SlA A w size v n xs) (hp : w.cell? p = some u0) (hx : u0 ∉ xs) : SlA A (w.setCell p u) size v n xs := by
  obtain ⟨h1, h2⟩ := h
  refine ⟨h1, h2.imp id ?_⟩
  rintro ⟨b, off, cap, rfl, hl, hb, hc, hcell⟩
  refine ⟨b, off, cap, rfl, by simpa [World.setCell] using hl, hb, hc, fun j hj => ?_⟩
  refine (World.cell?_setCell_other _ _ _ _ fun e => ?_).trans (hcell j hj)
  have := hcell j hj
  rw [← e, hp] at this
  exact hx (List.mem_of_getElem? this.symm)
theorem RB.set1 {A : Nat → Prop} {w : World} {v u : Value} {l : List UInt8} {p : Addr} {a : Option Addr} {n c : Nat} (h : RB A w v l) (hp : w.cell? p = some (.slice a n c)) : RB A (w.setCell p u) v l :=
  SlA.set1 h hp fun hm => by
    obtain ⟨x, -, e⟩ := List.mem_map.1 hm
    cases e
/-- the middle one of three keys is given a value -/
theorem keys3 {w : World} {kb koff kc n1 c1 : Nat} {a1 : Option Addr} {k0 k1 k2 : KyD} {u : Value} {x : List UInt8} (h : SlE Enc.key (fun _ => True) w (.slice (some ⟨kb, koff, none⟩) 3 kc) [k0, k1, k2]) (hc : w.cell? ⟨kb, koff + 3, none⟩ = some (.slice a1 n1 c1)) (hu : RB (fun _ => True) w u x) :
    SlE Enc.key (fun _ => True) (w.setCell ⟨kb, koff + 3, none⟩ u) (.slice (some ⟨kb, koff, none⟩) 3 kc) [k0, ⟨k1.name, x⟩, k2] := by
  obtain ⟨cs, h1, h2, h3⟩ := h.flat
  match cs, h1 with
  | [d0, d1, d2], _ =>
    obtain ⟨v0, rfl, r0⟩ := h2 0 k0 d0 rfl rfl
    obtain ⟨v1, rfl, r1⟩ := h2 1 k1 d1 rfl rfl
    obtain ⟨v2, rfl, r2⟩ := h2 2 k2 d2 rfl rfl
    obtain ⟨g1, g2⟩ := h3
    refine SlE.of_flat (cs := [[.string k0.name, v0], [.string k1.name, u], [.string k2.name, v2]]) rfl (fun i y c hi hci => ?_) ?_
    · match i, hi, hci with
      | 0, hi, hci => cases hi; cases hci; exact ⟨v0, rfl, r0.set1 hc⟩
      | 1, hi, hci => cases hi; cases hci; exact ⟨u, rfl, hu.set1 hc⟩
      | 2, hi, hci => cases hi; cases hci; exact ⟨v2, rfl, r2.set1 hc⟩
    · refine ⟨rfl, ?_⟩
      rcases g2 with ⟨⟨a, e⟩, _⟩ | ⟨b, off, cap, e, hl, hb, hcp, hcell⟩
      · cases e
      · cases e
        refine .inr ⟨kb, koff, kc, rfl, by simpa [World.setCell] using hl, trivial, hcp, fun j hj => ?_⟩
        by_cases h3 : j = 3
        · subst h3
          exact World.cell?_setCell_same _ _ _ hc
        · refine (World.cell?_setCell_other _ _ _ _ fun e => h3 (by simpa using (congrArg Addr.off e).symm)).trans ((hcell j hj).trans ?_)
          have hj6 : j < 6 := hj
          have : j = 0 ∨ j = 1 ∨ j = 2 ∨ j = 4 ∨ j = 5 := by omega
          rcases this with rfl | rfl | rfl | rfl | rfl <;> rfl
theorem xor_byte (x : UInt8) : bits .xor .u8 (x.toNat : Nat) 1 = ((x ^^^ 1).toNat : Nat) := by
  have key : ∀ n : Fin 256, bits .xor .u8 ((n.val : Nat) : Int) 1 = (((UInt8.ofNat n.val ^^^ 1).toNat : Nat) : Int) := by decide +kernel
  have := key ⟨x.toNat, x.toNat_lt⟩
  simpa using this
set_option maxRecDepth 100000 in
set_option maxHeartbeats 16000000 in
theorem awake20_any (w : World) (hL : LayW w) : Calls Tryd.prog 6 #[] w fun e w' => e = .returned (.bool true) ∧ Below w.heap.size w w' := by
  have HL := Lib.hid hL
  clear hL
  go_enter Tryd.func6, Tryd.ntmps6
  go_wp2_with fail
  obtain ⟨w1, hw1⟩ : ∃ w1, w1 = (w.alloc (.cells #[.int .i64 0, .int .i64 0, .int .i64 4, .int .i64 0, .int .i64 0, .int .i64 0, .slice none 0 0] 24)).alloc (.cells #[.int .i64 0, .int .i64 0, .int .i64 4, .int .i64 0, .int .i64 0, .int .i64 0, .slice none 0 0, .int .i64 0, .int .i64 0, .int .i64 4, .int .i64 0, .int .i64 0, .int .i64 0, .slice none 0 0, .int .i64 0, .int .i64 0, .int .i64 4, .int .i64 0, .int .i64 0, .int .i64 0, .slice none 0 0] 24) := ⟨_, rfl⟩
  rw [← hw1]
  have hb1 : Below w.heap.size w w1 := by rw [hw1]; ((repeat' (first | exact Below.refl _ _ | refine below_drewN ?_ _ | refine Below.drew ?_ | refine Below.alloc ?_ ?_ _ | refine Below.trans ?_ (Below.mono (by assumption) ?_))); all_goals (first | exact Nat.le_refl _ | exact Below.size (by assumption) | omega | (simp; done) | (simp; omega)))
  have hs1 : SlE Enc.ent (fun _ => True) w1 (.slice (some ⟨w.heap.size + 1, 0, none⟩) 3 3) l3E := by
    have h := World.ownsRow_lit (base := 0) (e := 24) (size := 7) (w.alloc (.cells #[.int .i64 0, .int .i64 0, .int .i64 4, .int .i64 0, .int .i64 0, .int .i64 0, .slice none 0 0] 24)) #[.int .i64 0, .int .i64 0, .int .i64 4, .int .i64 0, .int .i64 0, .int .i64 0, .slice none 0 0, .int .i64 0, .int .i64 0, .int .i64 4, .int .i64 0, .int .i64 0, .int .i64 0, .slice none 0 0, .int .i64 0, .int .i64 0, .int .i64 4, .int .i64 0, .int .i64 0, .int .i64 0, .slice none 0 0] 3 (Nat.zero_le _) (by decide) rfl
    rw [World.size_alloc, ← hw1] at h
    refine SlE.of_flat (cs := [[.int .i64 0, .int .i64 0, .int .i64 4, .int .i64 0, .int .i64 0, .int .i64 0, .slice none 0 0], [.int .i64 0, .int .i64 0, .int .i64 4, .int .i64 0, .int .i64 0, .int .i64 0, .slice none 0 0], [.int .i64 0, .int .i64 0, .int .i64 4, .int .i64 0, .int .i64 0, .int .i64 0, .slice none 0 0]]) rfl (fun i y c hi hci => ?_) ((SlA.of_owns h).weak fun _ _ => trivial)
    have hsn : ∀ y : EnD, y = snE → Enc.ent.rd (fun _ => True) w1 [.int .i64 0, .int .i64 0, .int .i64 4, .int .i64 0, .int .i64 0, .int .i64 0, .slice none 0 0] y := fun y e => by subst e; exact ⟨_, rfl, RB.nil _ _⟩
    match i, hi, hci with
    | 0, hi, hci => cases hci; exact hsn _ (by cases hi; rfl)
    | 1, hi, hci => cases hci; exact hsn _ (by cases hi; rfl)
    | 2, hi, hci => cases hci; exact hsn _ (by cases hi; rfl)
  clear hw1
  refine (filled_any (fun _ => True) _ l3E w1 hs1 (HL.out.ext hb1) l3_fil).mono ?_
  obtain ⟨k0, k1, k2, hE⟩ := oA_parts
  have HE := Lib.hid hE
  rintro e w2 ⟨v, rfl, hof, hb2⟩
  change ObF _ _ _ oA at hof
  rw [hE.is] at hof
  obtain ⟨⟨dv, kv, rfl, hd, hk⟩, hkf⟩ := hof
  obtain ⟨da, dc, rfl⟩ := hd.shape
  obtain ⟨ka, kc, rfl⟩ := hk.shape
  obtain ⟨kb, koff, u1, rfl, hkb, -, c2, c3, hu1⟩ := Keys.at (i := 1) hk (show 1 < 3 by decide)
  obtain ⟨ua, uc, rfl⟩ := hu1.shape
  have HKF := Lib.hid (hkf _ _ _ rfl)
  have HW2 := Lib.hid (dcall hb1 hb2)
  have HD := Lib.hid hd
  have HKK := Lib.hid hk
  have HU := Lib.hid hu1
  have hone := hE.one
  have hsz1 := hb1.size
  clear hs1 hb1 hb2 hd hk hu1 hkf hE
  simp only [List.length_cons, List.length_nil, List.getElem_cons_succ, List.getElem_cons_zero, Nat.reduceAdd] at *
  go_wp2_with fail
  obtain ⟨w3, hw3⟩ : ∃ w3, w3 = w2.alloc (.cells #[.slice da 0 dc, .slice (some ⟨kb, koff, none⟩) 3 kc, .int .i64 3] 39) := ⟨_, rfl⟩
  rw [← hw3]
  have hb3 : Below w2.heap.size w2 w3 := by rw [hw3]; ((repeat' (first | exact Below.refl _ _ | refine below_drewN ?_ _ | refine Below.drew ?_ | refine Below.alloc ?_ ?_ _ | refine Below.trans ?_ (Below.mono (by assumption) ?_))); all_goals (first | exact Nat.le_refl _ | exact Below.size (by assumption) | omega | (simp; done) | (simp; omega)))
  have r3 : w3.heap[w2.heap.size]? = some (.cells #[.slice da 0 dc, .slice (some ⟨kb, koff, none⟩) 3 kc, .int .i64 3] 39 (0, 0)) := by rw [hw3]; exact heap_alloc_new _ _
  have hov : ObV (fun _ => True) w2 (.agg #[.slice da 0 dc, .slice (some ⟨kb, koff, none⟩) 3 kc, .int .i64 3]) ⟨[], [k0, k1, k2], 3⟩ := ⟨_, _, rfl, HD.out, HKK.out⟩
  have hok3 : ObD.okl ⟨[], [k0, k1, k2], 3⟩ := ⟨Nat.zero_le _, show 3 ≤ 10000 by decide, fun k h => Nat.le_trans (HE.out.val k h) (by decide)⟩
  have hld := jload_any (fun _ => True) _ _ 1 w3 (hov.ext hb3) hok3 (fun k h => Nat.le_trans (HE.out.val k h) (by decide)) (HL.out.ext (dcall HW2.out hb3))
  obtain ⟨L, hL⟩ : ∃ L, L = loadL ⟨[], [k0, k1, k2], 3⟩ 1 := ⟨_, rfl⟩
  have hl2 : L.length = 2 := by rw [hL]; exact HE.out.two
  have hl0 : (L.getD 0 EnD.none).seq = 2 := by rw [hL]; exact HE.out.first
  rw [← hL] at hld
  refine hld.mono ?_
  rintro e w4 ⟨lv, rfl, hlv, hb4⟩
  obtain ⟨la, lc, rfl⟩ := hlv.shape
  rw [hl2] at hlv ⊢
  obtain ⟨lb, loff, xa, xc, rfl, hlb, l0, -⟩ := Ent.at (i := 0) hlv (by rw [hl2]; decide)
  rw [hl0] at l0
  have hbl : w3.heap.size ≤ lb := by
    obtain ⟨b, off, cap, c, e, hb, hA, -⟩ := hlv.at (i := 0) (x := L.getD 0 EnD.none) (by simp [hl2])
    simp only [Value.slice.injEq, Option.some.injEq, Addr.mk.injEq] at e
    obtain ⟨⟨rfl, -, -⟩, -, -⟩ := e
    exact hA
  have R4 := Lib.hid (dblk hb4 r3)
  have H4 := Lib.hid (hov.ext (dcall hb3 hb4))
  have HU4 := Lib.hid (HU.out.ext (dcall hb3 hb4))
  have HKF4 := Lib.hid (HKF.out.ext (dcall hb3 hb4))
  have d2 := cellExt (dcall hb3 hb4) c2
  have d3 := cellExt (dcall hb3 hb4) c3
  have HW4 := Lib.hid (dcall HW2.out (dcall hb3 hb4))
  have HZ : Hid (w2.heap.size < w3.heap.size ∧ w3.heap.size ≤ w4.heap.size) := Lib.hid ⟨by rw [hw3]; simp, hb4.size⟩
  clear hw3 hb3 r3 hov hok3 hld hL hlv hb4 c2 c3 HKF HKK HU HD HW2 hl0
  obtain ⟨y0, e0⟩ := blk_cell (i := 0) R4.out
  obtain ⟨y1, e1⟩ := blk_cell (i := 1) R4.out
  obtain ⟨y2, e2⟩ := blk_cell (i := 2) R4.out
  simp at y0 y1 y2 l0
  go_upto_region 6 with fail
  have hb5 : Below w4.heap.size w4 (w4.alloc (.cells #[] 5)) := (Below.refl _ _).alloc (Nat.le_refl _) _
  have y1' := cellExt hb5 y1
  have d3' := cellExt hb5 d3
  go_wp2_with (at_builtin; refine stop_in ?_)
  unfold Stop
  have hoe : OB w4.heap.size (w4.alloc (.cells #[] 5)) (.slice (some ⟨w4.heap.size, 0, none⟩) 0 0) [] := World.ownsRow_lit w4 #[] 0 (Nat.le_refl _) (by decide) rfl
  refine wpList_appB _ rfl _ _ rfl w4.heap.size _ [] (by rfl) hoe (fun _ => True) _ k1.value (by rfl) (HU4.out.ext hb5) (by have := HE.out.val k1 (by simp); simp; omega) (by simp) ?_
  intro v5 w5 ho5 hb5'
  rw [List.nil_append] at ho5
  obtain ⟨g, gc, rfl⟩ : ∃ g gc, v5 = .slice (some ⟨g, 0, none⟩) k1.value.length gc := by
    rcases ho5.2 with ⟨e, h0⟩ | ⟨g, cap, cur, e, _⟩
    · omega
    · exact ⟨g, cap, e⟩
  have hg4 : w4.heap.size ≤ g := by
    rcases ho5.2 with ⟨e, _⟩ | ⟨g', cap, cur, e, hb, _⟩
    · cases e
    · cases e; exact hb
  obtain ⟨x, xs, hx⟩ : ∃ x xs, k1.value = x :: xs := by
    cases h : k1.value with
    | nil => rw [h] at hone; simp at hone
    | cons x xs => exact ⟨x, xs, rfl⟩
  have g0 : w5.cell? ⟨g, 0, none⟩ = some (bv x) := by
    have := World.ownsRow.cellAt ho5 0 (by omega)
    rw [this, hx]
    rfl
  have HXX := Lib.hid hx
  clear hx
  have gf : w5.frozen? ⟨g, 0, none⟩ = false := World.ownsRow.frozenAt ho5 0
  have hb45 : Below w4.heap.size w4 w5 := hb5.trans hb5'
  have hlv1 : (0 : Int) < k1.value.length := by omega
  have OB5 := Lib.hid ho5
  have HB45 := Lib.hid hb45
  clear ho5 hb5 hb5' hb45 hoe y0 y1 y2 e0 e1 e2 y1' d3'
  unfold bv at g0
  go_upto_region 8 with fail
  rw [xor_byte]
  obtain ⟨w6, hw6⟩ : ∃ w6, w6 = w5.setCell ⟨g, 0, none⟩ (.int .u8 ((x ^^^ 1).toNat : Nat)) := ⟨_, rfl⟩
  rw [← hw6]
  have hb46 : Below w4.heap.size w4 w6 := by rw [hw6]; exact HB45.out.setCell (show w4.heap.size ≤ g from hg4) _
  have ho6 : OB w4.heap.size w6 (.slice (some ⟨g, 0, none⟩) k1.value.length gc) (flip0 k1.value) := by
    have := OB5.out.set 0 (x ^^^ 1)
    rw [HXX.out] at this ⊢
    rw [hw6]
    exact this
  have hfl : (flip0 k1.value).length = k1.value.length := by rw [HXX.out]; rfl
  have R6 := Lib.hid (dblk hb46 R4.out)
  have H6 := Lib.hid (H4.out.ext hb46)
  have HKF6 := Lib.hid (HKF4.out.ext hb46)
  have f3 := cellExt hb46 d3
  have m0 := cellExt hb46 l0
  have HW6 := Lib.hid (dcall HW4.out hb46)
  have hkf6 := (HKF6.out _ _ _ rfl).2.2 (koff + 2 + 1)
  have HKB : Hid (w.heap.size ≤ kb) := Lib.hid (Nat.le_trans hsz1 (HKF6.out _ _ _ rfl).1)
  have OB6 := Lib.hid ho6
  clear hw6 hb46 ho6 HB45 OB5 R4 H4 HKF4 HW4 HU4 g0 gf d2 d3 l0
  obtain ⟨y0, e0⟩ := blk_cell (i := 0) R6.out
  obtain ⟨y1, e1⟩ := blk_cell (i := 1) R6.out
  obtain ⟨y2, e2⟩ := blk_cell (i := 2) R6.out
  simp at y0 y1 y2
  go_upto_region 9 with fail
  obtain ⟨w7, hw7⟩ : ∃ w7, w7 = w6.setCell ⟨kb, koff + 2 + 1, none⟩ (.slice (some ⟨g, 0, none⟩) k1.value.length gc) := ⟨_, rfl⟩
  rw [← hw7]
  have hnk : ∀ b, b ≠ kb → w7.heap[b]? = w6.heap[b]? := fun b hb => by rw [hw7]; exact Below.heap_setCell _ _ _ _ hb
  have R7 := Lib.hid ((hnk w2.heap.size (by omega)).trans R6.out)
  have m7 : w7.cell? ⟨lb, loff, none⟩ = some (.int .i64 2) := (World.cell?_of_block (hnk lb (by have := HZ.out.1; show lb ≠ kb; omega))).trans m0
  have HW7 : Hid (Below w.heap.size w w7) := Lib.hid (by rw [hw7]; exact HW6.out.setCell (show w.heap.size ≤ kb from HKB.out) _)
  have hb7 := HW7.out
  have H7 : ObV (fun _ => True) w7 (.agg #[.slice da 0 dc, .slice (some ⟨kb, koff, none⟩) 3 kc, .int .i64 3]) ⟨[], [k0, ⟨k1.name, flip0 k1.value⟩, k2], 3⟩ := by
    obtain ⟨d, k, e, hd, hk⟩ := H6.out
    simp only [Value.agg.injEq, Array.mk.injEq, List.cons.injEq, and_true] at e
    obtain ⟨rfl, rfl, -⟩ := e
    have hu := OB6.out.rb.weak (A' := fun _ => True) fun _ _ _ => trivial
    rw [← hfl] at hu
    refine ⟨_, _, rfl, ?_, ?_⟩
    · rw [hw7]; exact hd.set1 f3
    · rw [hw7, ← hfl]; exact keys3 hk f3 hu
  have hok7 : ObD.okl ⟨[], [k0, ⟨k1.name, flip0 k1.value⟩, k2], 3⟩ := ⟨Nat.zero_le _, show 3 ≤ 10000 by decide, fun k h => Nat.le_trans (HE.out.val2 k h) (by decide)⟩
  have hld := jload_any (fun _ => True) _ _ 0 w7 H7 hok7 (fun k h => Nat.le_trans (HE.out.val2 k h) (by decide)) (HL.out.ext hb7)
  have hnx := fun W (h : Below w7.heap.size w7 W) => jnext_any _ _ _ 0 W (H7.ext h) (show (0 : Int) ≤ 3 by decide) (show (3 : Int) ≤ 1099511627776 by decide) (by decide) (by decide)
  obtain ⟨M, hM⟩ : ∃ M, M = loadL ⟨[], [k0, ⟨k1.name, flip0 k1.value⟩, k2], 3⟩ 0 := ⟨_, rfl⟩
  have hm1 : M.length = 1 := by rw [hM]; exact HE.out.less
  rw [← hM] at hld
  have HLD := Lib.hid hld
  have HNX := Lib.hid hnx
  clear hw7 hnk R6 m0 HW6 hb7 H7 hok7 hld hnx hM OB6 H6 HKF6 hkf6 f3 y0 y1 y2 e0 e1 e2
  obtain ⟨y0, e0⟩ := blk_cell (i := 0) R7.out
  obtain ⟨y1, e1⟩ := blk_cell (i := 1) R7.out
  obtain ⟨y2, e2⟩ := blk_cell (i := 2) R7.out
  simp at y0 y1 y2
  go_wp2_with fail
  refine HLD.out.mono ?_
  rintro e w8 ⟨mv, rfl, hmv, hb8⟩
  obtain ⟨ma, mc, rfl⟩ := hmv.shape
  rw [hm1]
  have m8 := cellExt hb8 m7
  have R8 := Lib.hid (dblk hb8 R7.out)
  have HW8 := Lib.hid (dcall HW7.out hb8)
  have HB8 := Lib.hid hb8
  clear hmv hb8 m7 R7 HW7 HLD y0 y1 y2 e0 e1 e2
  obtain ⟨y0, e0⟩ := blk_cell (i := 0) R8.out
  obtain ⟨y1, e1⟩ := blk_cell (i := 1) R8.out
  obtain ⟨y2, e2⟩ := blk_cell (i := 2) R8.out
  simp at y0 y1 y2
  go_wp2_with (first
    | (go_at_call 14; refine (HNX.out _ HB8.out).mono ?_; rintro e w9 ⟨rfl, hb9⟩; have HW9 := Lib.hid (dcall HW8.out hb9); clear hb9)
    | (go_at_call 10; refine (jname_any _ _).mono ?_; rintro e w10 ⟨rfl, rfl⟩; rw [j3_is]))
  go_ret
  exact ⟨rfl, HW9.out⟩
end Go.Proofs.YtfeonfihlleoeaaDoor
namespace Go.Proofs.YtfeonfihlleoeaaDoor
open Go.RowKit Go.WideShapes

/-- a call that answers yes and makes nothing but memory -/
def Yes9 (w : World) (e : Ending) (w' : World) : Prop := e = .returned (.bool true) ∧ Below w.heap.size w w'
set_option maxRecDepth 100000 in
set_option maxHeartbeats 4000000 in
theorem same9_yes (A B : Nat → Prop) (t : TxD) (va vb : Value) (w : World) (ha : SlE Enc.op A w va t.ops) (hb : SlE Enc.op B w vb t.ops) (hl : t.ops.length ≤ 100000) :
    Calls Tryd.prog 9 #[.agg #[.string t.obj, va], .agg #[.string t.obj, vb]] w (Yes9 w) := by
  obtain ⟨aa, ca, rfl⟩ := ha.shape
  obtain ⟨ab, cb, rfl⟩ := hb.shape
  obtain ⟨ob, ops⟩ := t
  simp only at *
  have HA := Lib.hid ha
  have HB := Lib.hid hb
  clear ha hb
  go_enter Tryd.func9, Tryd.ntmps9
  go_wp2
  obtain ⟨w0, hw0⟩ : ∃ w0, w0 = (w.alloc (.cells #[.string ob, .slice aa ops.length ca] 28)).alloc (.cells #[.string ob, .slice ab ops.length cb] 28) := ⟨_, rfl⟩
  rw [← hw0]
  have B0 : w0.heap[w.heap.size]? = some (.cells #[.string ob, .slice aa ops.length ca] 28 (0, 0)) := by rw [hw0]; exact (Below.heap_alloc _ _ _ (by simp)).trans (heap_alloc_new _ _)
  have B1 : w0.heap[w.heap.size + 1]? = some (.cells #[.string ob, .slice ab ops.length cb] 28 (0, 0)) := by rw [hw0]; exact heap_alloc2_new _ _ _
  have hw : Below w.heap.size w w0 := by rw [hw0]; ((repeat' (first | exact Below.refl _ _ | refine below_drewN ?_ _ | refine Below.drew ?_ | refine Below.alloc ?_ ?_ _ | refine Below.trans ?_ (Below.mono (by assumption) ?_))); all_goals (first | exact Nat.le_refl _ | exact Below.size (by assumption) | omega | (simp; done) | (simp; omega)))
  have HA0 := Lib.hid (HA.out.ext hw)
  have HB0 := Lib.hid (HB.out.ext hw)
  have HW := Lib.hid hw
  have HB0' := Lib.hid B0
  have HB1' := Lib.hid B1
  clear hw0 hw B0 B1 HA HB
  go_loopw [5] (fun q wr => ∃ k : Nat, k ≤ ops.length ∧ q = .int .i64 k ∧ Below w0.heap.size w0 wr) (fun q _ => ops.length - (intOf q).toNat)
  case atStart => exact ⟨0, Nat.zero_le _, rfl, Below.refl _ _⟩
  case round =>
    obtain ⟨k, hk, rfl, hbr⟩ := hrel
    have HBR := Lib.hid hbr
    have h0 : w.heap.size < w0.heap.size := (Array.getElem?_eq_some_iff.1 HB0'.out).1
    have h1 : w.heap.size + 1 < w0.heap.size := (Array.getElem?_eq_some_iff.1 HB1'.out).1
    have hsr := hbr.size
    have hl0 : w.heap.size < wr.heap.size := by omega
    have hl1 : w.heap.size + 1 < wr.heap.size := by omega
    obtain ⟨x1, f1⟩ := blk_cell (i := 1) ((hbr.block _ h0).trans HB0'.out)
    obtain ⟨y1, g1⟩ := blk_cell (i := 1) ((hbr.block _ h1).trans HB1'.out)
    simp at x1 y1
    clear hbr
    by_cases hlt : k < ops.length
    · have HAr := Lib.hid (HA0.out.ext HBR.out)
      have HBr := Lib.hid (HB0.out.ext HBR.out)
      obtain ⟨b, off, v, rfl, hb, -, c0, c1, c2, c3, c4, hv⟩ := Ops.at HAr.out hlt
      obtain ⟨b', off', v', rfl, hb', -, d0, d1, d2, d3, d4, hv'⟩ := Ops.at HBr.out hlt
      obtain ⟨va, vc, rfl⟩ := hv.shape
      obtain ⟨va', vc', rfl⟩ := hv'.shape
      have s1 : ∀ o1 o2, (Go.convert 22 9 (.slice va (ops[k]).data.length vc)).run Tryd.prog ((wr.alloc o1).alloc o2) = .ok (.string ⟨(ops[k]).data.toArray⟩) ((wr.alloc o1).alloc o2) := fun o1 o2 => cnv_bytes hv _ (by ((repeat' (first | exact Below.refl _ _ | refine below_drewN ?_ _ | refine Below.drew ?_ | refine Below.alloc ?_ ?_ _ | refine Below.trans ?_ (Below.mono (by assumption) ?_))); all_goals (first | exact Nat.le_refl _ | exact Below.size (by assumption) | omega | (simp; done) | (simp; omega))))
      have s2 : ∀ o1 o2, (Go.convert 22 9 (.slice va' (ops[k]).data.length vc')).run Tryd.prog ((wr.alloc o1).alloc o2) = .ok (.string ⟨(ops[k]).data.toArray⟩) ((wr.alloc o1).alloc o2) := fun o1 o2 => cnv_bytes hv' _ (by ((repeat' (first | exact Below.refl _ _ | refine below_drewN ?_ _ | refine Below.drew ?_ | refine Below.alloc ?_ ?_ _ | refine Below.trans ?_ (Below.mono (by assumption) ?_))); all_goals (first | exact Nat.le_refl _ | exact Below.size (by assumption) | omega | (simp; done) | (simp; omega))))
      clear hv hv'
      go_wp2
      go_roundw
      case rel => exact ⟨k + 1, by omega, by go_num, HBR.out.trans (Below.mono (by ((repeat' (first | exact Below.refl _ _ | refine below_drewN ?_ _ | refine Below.drew ?_ | refine Below.alloc ?_ ?_ _ | refine Below.trans ?_ (Below.mono (by assumption) ?_))); all_goals (first | exact Nat.le_refl _ | exact Below.size (by assumption) | omega | (simp; done) | (simp; omega))) : Below wr.heap.size wr _) hsr)⟩
      case measure => simp [intOf]; omega
    · go_wp2
      go_ret
      exact ⟨rfl, HW.out.trans (HBR.out.mono HW.out.size)⟩
end Go.Proofs.YtfeonfihlleoeaaDoor
