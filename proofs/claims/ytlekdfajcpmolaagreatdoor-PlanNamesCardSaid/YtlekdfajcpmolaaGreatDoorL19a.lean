/- The walk of terrazzolaw19.PlanNames. -/
import Derived.Test.YtlekdfajcpmolaaGreatDoorGDG
import Derived.Test.YtlekdfajcpmolaaGreatDoorGDH
import Derived.Test.YtlekdfajcpmolaaGreatDoorGDJ
namespace Go.Proofs.YtlekdfajcpmolaaGreatDoor
open Go.RowKit Go.WideShapes
attribute [local go_sem ↓] Go.wp_at_zero Go.wp_at_succ

/-- what is wanted, laid by hand -/
structure WantO (w4 : World) (p : Nat) (i : Int) (h : HeD) (wx : World) : Prop where
  mk ::
  ex : ∃ og : Nat, wx.heap[p]? = some (.cells #[.string (headS i), .slice (some ⟨og, 0, none⟩) 2 2] 42 (0, 0)) ∧ SlE Enc.op (fun _ => True) wx (.slice (some ⟨og, 0, none⟩) 2 2) [⟨2, 0, 0, ⟨#[]⟩, []⟩, ⟨9, 0, 0, keyH, pkD h⟩]
  bl : ∀ B, B ≤ p → B ≤ w4.heap.size → Below B w4 wx
  st : ∀ b, b < w4.heap.size → b ≠ p → wx.heap[b]? = w4.heap[b]?
abbrev opsW (g n c : Nat) : Array Value := #[.int .i64 2, .int .i64 0, .int .i64 0, .string ⟨#[]⟩, .slice none 0 0, .int .i64 9, .int .i64 0, .int .i64 0, .string ⟨#[104, 101, 97, 100]⟩, .slice (some ⟨g, 0, none⟩) n c]
theorem WantO.c {w4 W : World} {p og g c : Nat} {i : Int} {h : HeD} {a b : Value} (hb : Below w4.heap.size w4 W) (hp : w4.heap[p]? = some (.cells #[a, b] 42 (0, 0))) (hO : W.heap[og]? = some (.cells (opsW g (pkD h).length c) 47 (0, 0))) (hog : w4.heap.size ≤ og)
    (hd : RB (fun b => w4.heap.size ≤ b) W (.slice (some ⟨g, 0, none⟩) (pkD h).length c) (pkD h)) : WantO w4 p i h ((W.setCell ⟨p, 0, none⟩ (.string (headS i))).setCell ⟨p, 1, none⟩ (.slice (some ⟨og, 0, none⟩) 2 2)) := by
  have hpl := (Array.getElem?_eq_some_iff.1 hp).1
  have ne : ∀ b, b ≠ p → ((W.setCell ⟨p, 0, none⟩ (.string (headS i))).setCell ⟨p, 1, none⟩ (.slice (some ⟨og, 0, none⟩) 2 2)).heap[b]? = W.heap[b]? := fun b hb => (Below.heap_setCell _ ⟨p, 1, none⟩ _ _ hb).trans (Below.heap_setCell _ ⟨p, 0, none⟩ _ _ hb)
  refine ⟨⟨og, set2_blk (blk19 hb hp), ?_⟩, fun B h1 h2 => ((hb.mono h2).setCell (show B ≤ (⟨p, 0, none⟩ : Addr).block from h1) _).setCell (show B ≤ (⟨p, 1, none⟩ : Addr).block from h1) _, fun b h1 h2 => (ne b h2).trans (hb.block b h1)⟩
  refine SlE.of_blk (E := Enc.op) (A := fun _ => True) (cap := 2) (l := [⟨2, 0, 0, ⟨#[]⟩, []⟩, ⟨9, 0, 0, keyH, pkD h⟩]) [[.int .i64 2, .int .i64 0, .int .i64 0, .string ⟨#[]⟩, .slice none 0 0], [.int .i64 9, .int .i64 0, .int .i64 0, .string ⟨#[104, 101, 97, 100]⟩, .slice (some ⟨g, 0, none⟩) (pkD h).length c]] rfl (fun j x c hj hc => ?_) ((ne og (by omega)).trans hO) rfl trivial (Nat.le_refl _)
  match j, hj, hc with
  | 0, hj, hc => cases hj; cases hc; exact ⟨_, rfl, RB.nil _ _⟩
  | 1, hj, hc =>
    cases hj; cases hc
    exact ⟨_, rfl, RB.weak (RB.mono hd ⟨by simp [World.setCell], fun b hb _ => ne b (by have : w4.heap.size ≤ b := hb; omega)⟩) fun _ _ _ => trivial⟩
theorem WantO.a {w4 W : World} {p g c : Nat} {i : Int} {h : HeD} {a b : Value} (hb : Below w4.heap.size w4 W) (hp : w4.heap[p]? = some (.cells #[a, b] 42 (0, 0)))
    (hd : RB (fun b => w4.heap.size ≤ b) W (.slice (some ⟨g, 0, none⟩) (pkD h).length c) (pkD h)) : WantO w4 p i h (((W.setCell ⟨p, 0, none⟩ (.string (headS i))).setCell ⟨p, 1, none⟩ (.slice (some ⟨W.heap.size, 0, none⟩) 2 2)).alloc (.cells (opsW g (pkD h).length c) 47)) := by
  have hpl := (Array.getElem?_eq_some_iff.1 hp).1
  have hsz := hb.size
  have hs : ((W.setCell ⟨p, 0, none⟩ (.string (headS i))).setCell ⟨p, 1, none⟩ (.slice (some ⟨W.heap.size, 0, none⟩) 2 2)).heap.size = W.heap.size := by simp [World.setCell]
  have ne : ∀ b, b ≠ p → b < W.heap.size → (((W.setCell ⟨p, 0, none⟩ (.string (headS i))).setCell ⟨p, 1, none⟩ (.slice (some ⟨W.heap.size, 0, none⟩) 2 2)).alloc (.cells (opsW g (pkD h).length c) 47)).heap[b]? = W.heap[b]? := fun b hb hl => (Below.heap_alloc _ _ _ (by omega)).trans ((Below.heap_setCell _ ⟨p, 1, none⟩ _ _ hb).trans (Below.heap_setCell _ ⟨p, 0, none⟩ _ _ hb))
  have hO : (((W.setCell ⟨p, 0, none⟩ (.string (headS i))).setCell ⟨p, 1, none⟩ (.slice (some ⟨W.heap.size, 0, none⟩) 2 2)).alloc (.cells (opsW g (pkD h).length c) 47)).heap[W.heap.size]? = some (.cells (opsW g (pkD h).length c) 47 (0, 0)) := by
    have := heap_alloc_new ((W.setCell ⟨p, 0, none⟩ (.string (headS i))).setCell ⟨p, 1, none⟩ (.slice (some ⟨W.heap.size, 0, none⟩) 2 2)) (.cells (opsW g (pkD h).length c) 47)
    rw [hs] at this
    exact this
  refine ⟨⟨W.heap.size, (Below.heap_alloc _ _ _ (by omega)).trans (set2_blk (blk19 hb hp)), ?_⟩, fun B h1 h2 => (((hb.mono h2).setCell (show B ≤ (⟨p, 0, none⟩ : Addr).block from h1) _).setCell (show B ≤ (⟨p, 1, none⟩ : Addr).block from h1) _).alloc (by omega) _, fun b h1 h2 => (ne b h2 (by omega)).trans (hb.block b h1)⟩
  refine SlE.of_blk (E := Enc.op) (A := fun _ => True) (cap := 2) (l := [⟨2, 0, 0, ⟨#[]⟩, []⟩, ⟨9, 0, 0, keyH, pkD h⟩]) [[.int .i64 2, .int .i64 0, .int .i64 0, .string ⟨#[]⟩, .slice none 0 0], [.int .i64 9, .int .i64 0, .int .i64 0, .string ⟨#[104, 101, 97, 100]⟩, .slice (some ⟨g, 0, none⟩) (pkD h).length c]] rfl (fun j x c hj hc => ?_) hO rfl trivial (Nat.le_refl _)
  match j, hj, hc with
  | 0, hj, hc => cases hj; cases hc; exact ⟨_, rfl, RB.nil _ _⟩
  | 1, hj, hc =>
    cases hj; cases hc
    exact ⟨_, rfl, RB.weak (RB.mono (RB.weak (A' := fun b => w4.heap.size ≤ b ∧ b < W.heap.size) hd fun b hl hb => ⟨hb, hl⟩) ⟨by simp [World.setCell, World.size_alloc], fun b hb _ => ne b (by have := hb.1; omega) hb.2⟩) fun _ _ _ => trivial⟩
theorem rhpack_yes (A : Nat → Prop) (h : HeD) (v : Value) (w : World) (hv : HeV A w v h) (hl : h.okl) (hm : mayD h = true) : Calls Tryz.prog 18 #[v] w (PkO h w) :=
  (rhpack_any A h v w hv hl).mono fun e w' ⟨x, e1, h1, h2⟩ => by
    obtain ⟨g, c, rfl, -⟩ := h1.lies (by rw [pkD_yes hm]; exact headB_pos h)
    exact ⟨g, c, e1, h1, h2⟩
set_option maxRecDepth 100000 in
set_option maxHeartbeats 16000000 in
theorem names_law (A : Nat → Prop) (i n : Int) (h : HeD) (v : Value) (w : World) (hL : LayW w) (hv : HeV A w v h) : Calls Tryz.prog 4 #[.int .i64 i, .int .i64 n, v] w (Says true w) := by
  have hfew := fun W (hb : Below w.heap.size w W) => few19_any A h v W (hv.ext hb)
  have hcr := fun W (hb : Below w.heap.size w W) hl => create_any A i h v W (hv.ext hb) hl
  have hmy := fun W (hb : Below w.heap.size w W) hl => rmayH_any A h v W (hv.ext hb) hl
  have hpk := fun W (hb : Below w.heap.size w W) hl hm => rhpack_yes A h v W (hv.ext hb) hl hm
  obtain ⟨mv, sv, rfl, h1, h2⟩ := hv
  obtain ⟨ma, mc, rfl⟩ := h1.shape
  obtain ⟨sa, sc, rfl⟩ := h2.shape
  unfold hdV at *
  clear h1 h2
  have HL := Lib.hid hL
  have HFW := Lib.hid hfew
  have HCR := Lib.hid hcr
  have HMY := Lib.hid hmy
  have HPK := Lib.hid hpk
  clear hL hfew hcr hmy hpk
  obtain ⟨w0, hw0⟩ : ∃ w0, w0 = w.alloc (.cells #[.int .i64 h.u, .int .i64 h.c, .int .i64 h.o, .int .i64 h.size, .slice ma h.map.length mc, .slice sa h.snaps.length sc, .int .i64 h.last, .int .i64 h.seq] 27) := ⟨_, rfl⟩
  have hb0 : Below w.heap.size w w0 := by rw [hw0]; ((repeat' (first | exact Below.refl _ _ | refine below_drewN ?_ _ | refine Below.drew ?_ | refine Below.alloc ?_ ?_ _ | refine Below.trans ?_ (Below.mono (by assumption) ?_))); all_goals (first | exact Nat.le_refl _ | exact Below.size (by assumption) | omega | (simp; done) | (simp; omega)))
  have R0 := Lib.hid (show w0.heap[w.heap.size]? = some (.cells #[.int .i64 h.u, .int .i64 h.c, .int .i64 h.o, .int .i64 h.size, .slice ma h.map.length mc, .slice sa h.snaps.length sc, .int .i64 h.last, .int .i64 h.seq] 27 (0, 0)) from by rw [hw0]; exact heap_alloc_new _ _)
  have HW0 := Lib.hid hw0
  have HB0 := Lib.hid hb0
  clear hw0 hb0
  go_enter Tryz.func4, Tryz.ntmps4
  go_wp2_with fail
  rw [← HW0.out]
  refine (awake19_any w0 (HL.out.ext HB0.out)).mono ?_
  rintro e w1 ⟨rfl, hb1⟩
  have R1 := Lib.hid (blk19 hb1 R0.out)
  have HB1 := Lib.hid (call19 HB0.out hb1)
  clear hb1 R0 HB0 HW0
  obtain ⟨y0, f0⟩ := blk_cell (i := 0) R1.out
  obtain ⟨y1, f1⟩ := blk_cell (i := 1) R1.out
  obtain ⟨y2, f2⟩ := blk_cell (i := 2) R1.out
  obtain ⟨y3, f3⟩ := blk_cell (i := 3) R1.out
  obtain ⟨y4, f4⟩ := blk_cell (i := 4) R1.out
  obtain ⟨y5, f5⟩ := blk_cell (i := 5) R1.out
  obtain ⟨y6, f6⟩ := blk_cell (i := 6) R1.out
  obtain ⟨y7, f7⟩ := blk_cell (i := 7) R1.out
  simp at y0 y1 y2 y3 y4 y5 y6 y7
  clear f0 f1 f2 f3 f4 f5 f6 f7
  go_wp2_with fail
  refine (HFW.out _ HB1.out).mono ?_
  rintro e w2 ⟨b, rfl, hf, hb2⟩
  have R2 := Lib.hid (blk19 hb2 R1.out)
  have HB2 := Lib.hid (call19 HB1.out hb2)
  have HF := Lib.hid hf
  clear hb2 hf R1 HB1 HFW y0 y1 y2 y3 y4 y5 y6 y7
  cases b
  · go_wp2
    go_ret
    exact ⟨rfl, HB2.out⟩
  have HOK := Lib.hid (HF.out rfl).okl
  clear HF
  obtain ⟨y0, f0⟩ := blk_cell (i := 0) R2.out
  obtain ⟨y1, f1⟩ := blk_cell (i := 1) R2.out
  obtain ⟨y2, f2⟩ := blk_cell (i := 2) R2.out
  obtain ⟨y3, f3⟩ := blk_cell (i := 3) R2.out
  obtain ⟨y4, f4⟩ := blk_cell (i := 4) R2.out
  obtain ⟨y5, f5⟩ := blk_cell (i := 5) R2.out
  obtain ⟨y6, f6⟩ := blk_cell (i := 6) R2.out
  obtain ⟨y7, f7⟩ := blk_cell (i := 7) R2.out
  simp at y0 y1 y2 y3 y4 y5 y6 y7
  clear f0 f1 f2 f3 f4 f5 f6 f7
  cases hm : mayD h
  · have hcr2 := HCR.out w2 HB2.out HOK.out
    have hmy2 := HMY.out
    unfold CreO at hcr2
    rw [crX_no (i := i) hm, chkH_no hm] at hcr2
    rw [hm] at hmy2
    have HC2 := Lib.hid hcr2
    have HM2 := Lib.hid hmy2
    clear hcr2 hmy2 hm
    go_wp2_with fail
    refine HC2.out.mono ?_
    rintro e w3 ⟨va, vc, rfl, ho3, hb3⟩
    have HO3 := Lib.hid ho3
    have R3 := Lib.hid (blk19 hb3 R2.out)
    have HB3 := Lib.hid (call19 HB2.out hb3)
    clear ho3 hb3 R2 HB2 HC2 y0 y1 y2 y3 y4 y5 y6 y7
    dsimp only [List.length_nil]
    obtain ⟨y0, f0⟩ := blk_cell (i := 0) R3.out
    obtain ⟨y1, f1⟩ := blk_cell (i := 1) R3.out
    obtain ⟨y2, f2⟩ := blk_cell (i := 2) R3.out
    obtain ⟨y3, f3⟩ := blk_cell (i := 3) R3.out
    obtain ⟨y4, f4⟩ := blk_cell (i := 4) R3.out
    obtain ⟨y5, f5⟩ := blk_cell (i := 5) R3.out
    obtain ⟨y6, f6⟩ := blk_cell (i := 6) R3.out
    obtain ⟨y7, f7⟩ := blk_cell (i := 7) R3.out
    simp at y0 y1 y2 y3 y4 y5 y6 y7
    clear f0 f1 f2 f3 f4 f5 f6 f7
    go_upto_region 8 with fail
    obtain ⟨w4, hw4⟩ : ∃ w4, w4 = w3.alloc (.cells #[.string ⟨#[]⟩, .slice va 0 vc] 42) := ⟨_, rfl⟩
    rw [← hw4]
    have hb4 : Below w3.heap.size w3 w4 := by rw [hw4]; ((repeat' (first | exact Below.refl _ _ | refine below_drewN ?_ _ | refine Below.drew ?_ | refine Below.alloc ?_ ?_ _ | refine Below.trans ?_ (Below.mono (by assumption) ?_))); all_goals (first | exact Nat.le_refl _ | exact Below.size (by assumption) | omega | (simp; done) | (simp; omega)))
    have T4 := Lib.hid (show w4.heap[w3.heap.size]? = some (.cells #[.string ⟨#[]⟩, .slice va 0 vc] 42 (0, 0)) from by rw [hw4]; exact heap_alloc_new _ _)
    have R4 := Lib.hid (blk19 hb4 R3.out)
    have HB4 := Lib.hid (call19 HB3.out hb4)
    have HO4 := Lib.hid (SlE.ext HO3.out hb4)
    clear hw4 hb4 R3 HB3 HO3 y0 y1 y2 y3 y4 y5 y6 y7
    obtain ⟨y0, f0⟩ := blk_cell (i := 0) R4.out
    obtain ⟨y1, f1⟩ := blk_cell (i := 1) R4.out
    obtain ⟨y2, f2⟩ := blk_cell (i := 2) R4.out
    obtain ⟨y3, f3⟩ := blk_cell (i := 3) R4.out
    obtain ⟨y4, f4⟩ := blk_cell (i := 4) R4.out
    obtain ⟨y5, f5⟩ := blk_cell (i := 5) R4.out
    obtain ⟨y6, f6⟩ := blk_cell (i := 6) R4.out
    obtain ⟨y7, f7⟩ := blk_cell (i := 7) R4.out
    simp at y0 y1 y2 y3 y4 y5 y6 y7
    clear f0 f1 f2 f3 f4 f5 f6 f7
    go_wp2_with fail
    refine (HM2.out w4 HB4.out HOK.out).mono ?_
    rintro e w5 ⟨rfl, hb5⟩
    have T5 := Lib.hid (blk19 hb5 T4.out)
    have HB5 := Lib.hid (call19 HB4.out hb5)
    have HO5 := Lib.hid (SlE.ext HO4.out hb5)
    clear hb5 T4 R4 HB4 HO4 y0 y1 y2 y3 y4 y5 y6 y7
    go_upto_region 13 with fail
    obtain ⟨w6, hw6⟩ : ∃ w6, w6 = w5.alloc (.cells #[.string ⟨#[]⟩, .slice none 0 0] 42) := ⟨_, rfl⟩
    rw [← hw6]
    have hb6 : Below w5.heap.size w5 w6 := by rw [hw6]; ((repeat' (first | exact Below.refl _ _ | refine below_drewN ?_ _ | refine Below.drew ?_ | refine Below.alloc ?_ ?_ _ | refine Below.trans ?_ (Below.mono (by assumption) ?_))); all_goals (first | exact Nat.le_refl _ | exact Below.size (by assumption) | omega | (simp; done) | (simp; omega)))
    have W6 := Lib.hid (show w6.heap[w5.heap.size]? = some (.cells #[.string ⟨#[]⟩, .slice none 0 0] 42 (0, 0)) from by rw [hw6]; exact heap_alloc_new _ _)
    have T6 := Lib.hid (blk19 hb6 T5.out)
    have HB6 := Lib.hid (call19 HB5.out hb6)
    have hsm := same9_yes _ (fun _ => True) ⟨⟨#[]⟩, []⟩ (.slice va 0 vc) (.slice none 0 0) w6 (SlE.ext HO5.out hb6) (SlE.nil _ _ _) (Nat.zero_le _)
    have HSM := Lib.hid hsm
    clear hw6 hb6 HB5 HO5 T5 hsm
    obtain ⟨t0, -⟩ := blk_cell (i := 0) T6.out
    obtain ⟨t1, -⟩ := blk_cell (i := 1) T6.out
    obtain ⟨z0, -⟩ := blk_cell (i := 0) W6.out
    obtain ⟨z1, -⟩ := blk_cell (i := 1) W6.out
    simp at t0 t1 z0 z1
    go_wp2_with (first
      | (go_at_call 19; refine HSM.out.mono ?_; rintro e w7 ⟨rfl, hb7⟩; have HB7 := Lib.hid (call19 HB6.out hb7); clear hb7)
      | (go_at_call 20; refine (pdata_any i n _ (HL.out.ext HB7.out)).mono ?_; rintro e w8 ⟨rfl, hb8⟩; have HB8 := Lib.hid (call19 HB7.out hb8); clear hb8)
      | (go_at_call 21; refine (rdata_any i n _).mono ?_; rintro e w9 ⟨rfl, hb9⟩; have HB9 := Lib.hid (call19 HB8.out hb9); clear hb9)
      | (go_at_call 22; refine (phead_any i _).mono ?_; rintro e w10 ⟨rfl, rfl⟩)
      | (go_at_call 17; refine (rhead_any i _).mono ?_; rintro e w11 ⟨rfl, hb11⟩; have HB11 := Lib.hid (call19 HB9.out hb11); clear hb11)
      | (go_at_call 23; refine (pmark_any n _ (HL.out.ext HB11.out)).mono ?_; rintro e w12 ⟨rfl, hb12⟩; have HB12 := Lib.hid (call19 HB11.out hb12); clear hb12)
      | (go_at_call 24; refine (rmark_any n _).mono ?_; rintro e w13 ⟨rfl, hb13⟩; have HB13 := Lib.hid (call19 HB12.out hb13); clear hb13))
    go_ret
    exact ⟨by simp, HB13.out⟩
  · have hcr2 := HCR.out w2 HB2.out HOK.out
    have hmy2 := HMY.out
    have hpk2 := fun W hb => HPK.out W hb HOK.out hm
    unfold CreO at hcr2
    rw [crX_yes (i := i) hm, chkH_yes hm] at hcr2
    rw [hm] at hmy2
    have HC2 := Lib.hid hcr2
    have HM2 := Lib.hid hmy2
    have HP2 := Lib.hid hpk2
    clear hcr2 hmy2 hpk2 hm HCR HMY HPK
    go_wp2_with fail
    refine HC2.out.mono ?_
    rintro e w3 ⟨va, vc, rfl, ho3, hb3⟩
    have HO3 := Lib.hid ho3
    have R3 := Lib.hid (blk19 hb3 R2.out)
    have HB3 := Lib.hid (call19 HB2.out hb3)
    clear ho3 hb3 R2 HB2 HC2 y0 y1 y2 y3 y4 y5 y6 y7
    dsimp only [List.length_nil, List.length_cons]
    obtain ⟨y0, f0⟩ := blk_cell (i := 0) R3.out
    obtain ⟨y1, f1⟩ := blk_cell (i := 1) R3.out
    obtain ⟨y2, f2⟩ := blk_cell (i := 2) R3.out
    obtain ⟨y3, f3⟩ := blk_cell (i := 3) R3.out
    obtain ⟨y4, f4⟩ := blk_cell (i := 4) R3.out
    obtain ⟨y5, f5⟩ := blk_cell (i := 5) R3.out
    obtain ⟨y6, f6⟩ := blk_cell (i := 6) R3.out
    obtain ⟨y7, f7⟩ := blk_cell (i := 7) R3.out
    simp at y0 y1 y2 y3 y4 y5 y6 y7
    clear f0 f1 f2 f3 f4 f5 f6 f7
    go_upto_region 8 with fail
    obtain ⟨w4, hw4⟩ : ∃ w4, w4 = w3.alloc (.cells #[.string (headS i), .slice va 2 vc] 42) := ⟨_, rfl⟩
    rw [← hw4]
    have hb4 : Below w3.heap.size w3 w4 := by rw [hw4]; ((repeat' (first | exact Below.refl _ _ | refine below_drewN ?_ _ | refine Below.drew ?_ | refine Below.alloc ?_ ?_ _ | refine Below.trans ?_ (Below.mono (by assumption) ?_))); all_goals (first | exact Nat.le_refl _ | exact Below.size (by assumption) | omega | (simp; done) | (simp; omega)))
    have T4 := Lib.hid (show w4.heap[w3.heap.size]? = some (.cells #[.string (headS i), .slice va 2 vc] 42 (0, 0)) from by rw [hw4]; exact heap_alloc_new _ _)
    have R4 := Lib.hid (blk19 hb4 R3.out)
    have HB4 := Lib.hid (call19 HB3.out hb4)
    have HO4 := Lib.hid (SlE.ext HO3.out hb4)
    clear hw4 hb4 R3 HB3 HO3 y0 y1 y2 y3 y4 y5 y6 y7
    obtain ⟨y0, f0⟩ := blk_cell (i := 0) R4.out
    obtain ⟨y1, f1⟩ := blk_cell (i := 1) R4.out
    obtain ⟨y2, f2⟩ := blk_cell (i := 2) R4.out
    obtain ⟨y3, f3⟩ := blk_cell (i := 3) R4.out
    obtain ⟨y4, f4⟩ := blk_cell (i := 4) R4.out
    obtain ⟨y5, f5⟩ := blk_cell (i := 5) R4.out
    obtain ⟨y6, f6⟩ := blk_cell (i := 6) R4.out
    obtain ⟨y7, f7⟩ := blk_cell (i := 7) R4.out
    simp at y0 y1 y2 y3 y4 y5 y6 y7
    clear f0 f1 f2 f3 f4 f5 f6 f7
    go_wp2_with fail
    refine (HM2.out w4 HB4.out HOK.out).mono ?_
    rintro e w5 ⟨rfl, hb5⟩
    have T5 := Lib.hid (blk19 hb5 T4.out)
    have R5 := Lib.hid (blk19 hb5 R4.out)
    have HB5 := Lib.hid (call19 HB4.out hb5)
    have HO5 := Lib.hid (SlE.ext HO4.out hb5)
    clear hb5 T4 R4 HB4 HO4 y0 y1 y2 y3 y4 y5 y6 y7
    go_upto_region 12 with fail
    obtain ⟨wa, hwa⟩ : ∃ wa, wa = w5.alloc (.cells #[.string ⟨#[]⟩, .slice none 0 0] 42) := ⟨_, rfl⟩
    obtain ⟨p, hp⟩ : ∃ p, p = w5.heap.size := ⟨_, rfl⟩
    rw [← hwa, ← hp]
    have hba : Below w5.heap.size w5 wa := by rw [hwa]; ((repeat' (first | exact Below.refl _ _ | refine below_drewN ?_ _ | refine Below.drew ?_ | refine Below.alloc ?_ ?_ _ | refine Below.trans ?_ (Below.mono (by assumption) ?_))); all_goals (first | exact Nat.le_refl _ | exact Below.size (by assumption) | omega | (simp; done) | (simp; omega)))
    have PA := Lib.hid (show wa.heap[p]? = some (.cells #[.string ⟨#[]⟩, .slice none 0 0] 42 (0, 0)) from by rw [hwa, hp]; exact heap_alloc_new _ _)
    have TA := Lib.hid (blk19 hba T5.out)
    have RA := Lib.hid (blk19 hba R5.out)
    have HBA := Lib.hid (call19 HB5.out hba)
    have HO4P : Hid (SlE Enc.op (fun b => b < p) wa (.slice va 2 vc) [⟨2, 0, 0, ⟨#[]⟩, []⟩, ⟨9, 0, 0, keyH, pkD h⟩]) := Lib.hid (SlE.ext (SlE.weak (A' := fun b => b < p) HO5.out fun b hb _ => by rw [hp]; exact hb) hba)
    have hpw : w.heap.size ≤ p := by rw [hp]; exact HB5.out.size
    have htp : w3.heap.size < p := by rw [hp]; exact (Array.getElem?_eq_some_iff.1 T5.out).1
    have h3p : ∀ b, b < p → b < wa.heap.size := fun b hb => by have := (Array.getElem?_eq_some_iff.1 PA.out).1; omega
    have H3P := Lib.hid h3p
    clear hwa hba hp T5 R5 HB5 HO5 h3p
    obtain ⟨y0, f0⟩ := blk_cell (i := 0) RA.out
    obtain ⟨y1, f1⟩ := blk_cell (i := 1) RA.out
    obtain ⟨y2, f2⟩ := blk_cell (i := 2) RA.out
    obtain ⟨y3, f3⟩ := blk_cell (i := 3) RA.out
    obtain ⟨y4, f4⟩ := blk_cell (i := 4) RA.out
    obtain ⟨y5, f5⟩ := blk_cell (i := 5) RA.out
    obtain ⟨y6, f6⟩ := blk_cell (i := 6) RA.out
    obtain ⟨y7, f7⟩ := blk_cell (i := 7) RA.out
    simp at y0 y1 y2 y3 y4 y5 y6 y7
    obtain ⟨q0, k0⟩ := blk_cell (i := 0) PA.out
    obtain ⟨q1, k1⟩ := blk_cell (i := 1) PA.out
    simp at q0 q1
    clear f0 f1 f2 f3 f4 f5 f6 f7
    have hcl : Hid (∀ W, Below wa.heap.size wa W → W.cell? ⟨w.heap.size, 0, none⟩ = some (.int .i64 h.u) ∧ W.cell? ⟨w.heap.size, 1, none⟩ = some (.int .i64 h.c) ∧ W.cell? ⟨w.heap.size, 2, none⟩ = some (.int .i64 h.o) ∧ W.cell? ⟨w.heap.size, 3, none⟩ = some (.int .i64 h.size) ∧ W.cell? ⟨w.heap.size, 4, none⟩ = some (.slice ma h.map.length mc) ∧ W.cell? ⟨w.heap.size, 5, none⟩ = some (.slice sa h.snaps.length sc) ∧ W.cell? ⟨w.heap.size, 6, none⟩ = some (.int .i64 h.last) ∧ W.cell? ⟨w.heap.size, 7, none⟩ = some (.int .i64 h.seq)) := Lib.hid fun W h => ⟨cellExt h y0, cellExt h y1, cellExt h y2, cellExt h y3, cellExt h y4, cellExt h y5, cellExt h y6, cellExt h y7⟩
    have hqc : Hid (∀ W, Below wa.heap.size wa W → W.cell? ⟨p, 0, none⟩ = some (.string ⟨#[]⟩) ∧ W.cell? ⟨p, 1, none⟩ = some (.slice none 0 0) ∧ W.frozen? ⟨p, 0, none⟩ = false ∧ W.frozen? ⟨p, 1, none⟩ = false) := Lib.hid fun W h => ⟨(blk_cell (i := 0) (blk19 h PA.out)).1, (blk_cell (i := 1) (blk19 h PA.out)).1, (blk_cell (i := 0) (blk19 h PA.out)).2, (blk_cell (i := 1) (blk19 h PA.out)).2⟩
    clear y0 y1 y2 y3 y4 y5 y6 y7
    go_cut [11] (fun s11 wx => s11 = .pointer (some ⟨p, 0, none⟩) ∧ WantO wa p i h wx)
    case first =>
      refine wp_region_sink (n := 8) (fun W => W.cell? ⟨w.heap.size, 0, none⟩ = some (.int .i64 h.u) ∧ W.cell? ⟨w.heap.size, 1, none⟩ = some (.int .i64 h.c) ∧ W.cell? ⟨w.heap.size, 2, none⟩ = some (.int .i64 h.o) ∧ W.cell? ⟨w.heap.size, 3, none⟩ = some (.int .i64 h.size) ∧ W.cell? ⟨w.heap.size, 4, none⟩ = some (.slice ma h.map.length mc) ∧ W.cell? ⟨w.heap.size, 5, none⟩ = some (.slice sa h.snaps.length sc) ∧ W.cell? ⟨w.heap.size, 6, none⟩ = some (.int .i64 h.last) ∧ W.cell? ⟨w.heap.size, 7, none⟩ = some (.int .i64 h.seq)) (by kernel_rfl) (by kernel_rfl) (by kernel_rfl) (by kernel_rfl) rfl (hcl.out _ (Below.drew (Below.refl _ _))) (fun hHeld => ?_)
      refine wpAnyH_take (i := 0) (oi := { dst := some 41, op := Op.move (Operand.tmp 0), type := 3, pos := "law.go:87", after := #[], guard := none }) (v := ?v0) rfl (by kernel_rfl) (by kernel_rfl) (by kernel_rfl) (fun _ _ _ h => h) (Or.inl ⟨by rfl, ?hy0⟩) hHeld ?r0
      case hy0 => (intro W hSW; (try dsimp only at hSW); go_simp; try (with_reducible rfl))
      simp only [Act.put, List.setIfInBounds_toArray, List.set_cons_zero, List.set_cons_succ]
      refine wpAnyH_take (i := 2) (oi := { dst := some 43, op := Op.build 47 #[(0, Operand.const (Value.int IntKind.i64 2))], type := 47, pos := "law.go:87", after := #[], guard := none }) (v := ?v2) rfl (by kernel_rfl) (by kernel_rfl) (by kernel_rfl) (fun _ _ _ h => h) (Or.inl ⟨by rfl, ?hy2⟩) hHeld ?r2
      case hy2 => (intro W hSW; (try dsimp only at hSW); go_simp; try (with_reducible rfl))
      simp only [Act.put, List.setIfInBounds_toArray, List.set_cons_zero, List.set_cons_succ]
      refine wpAnyH_take (i := 3) (oi := { dst := some 44, op := Op.load 27 (Operand.tmp 5), type := 27, pos := "law.go:87", after := #[], guard := none }) (v := ?v3) rfl (by kernel_rfl) (by kernel_rfl) (by kernel_rfl) (fun _ _ _ h => h) (Or.inl ⟨by rfl, ?hy3⟩) hHeld ?r3
      case hy3 => (intro W hSW; (try dsimp only at hSW); go_simp; try (with_reducible rfl))
      simp only [Act.put, List.setIfInBounds_toArray, List.set_cons_zero, List.set_cons_succ]
      refine wpAnyH_ready (rs := [1]) (by kernel_rfl) (by simp) (AllReadyH.cons (o := { dst := some 42, op := Op.call { callee := Callee.value (Operand.func 17), args := #[Operand.tmp 41], argTypes := #[3] }, type := 9, pos := "law.go:87", after := #[{ on := 0, ground := Ground.data }], guard := none }) rfl (fun K hK => ?_) AllReadyH.nil)
      go_simp
      go_wp2_with (go_at_call 17; refine (rhead_any i _).mono ?_; rintro e wH ⟨rfl, hbH⟩)
      have hzH : Below wa.heap.size wa wH := Below.trans (Below.drew (Below.refl wa.heap.size wa)) hbH
      refine hK.out _ _ (hcl.out _ hzH) (fun hHeld => ?_)
      clear hK K hbH
      refine wpAnyH_ready (rs := [4]) (by kernel_rfl) (by simp) (AllReadyH.cons (o := { dst := some 45, op := Op.call { callee := Callee.value (Operand.func 18), args := #[Operand.tmp 44], argTypes := #[27] }, type := 28, pos := "law.go:87", after := #[{ on := 3, ground := Ground.data }, { on := 1, ground := Ground.chain }], guard := none }) rfl (fun K hK => ?_) AllReadyH.nil)
      go_simp
      go_wp2_with (go_at_call 18; refine (HP2.out _ (HBA.out.trans (hzH.mono HBA.out.size))).mono ?_; rintro e wP ⟨g, gc, rfl, hobP, hbP⟩)
      have hzP : Below wa.heap.size wa wP := Below.trans hzH (Below.mono hbP hzH.size)
      have HOB := Lib.hid (RB.weak (A' := fun b => wa.heap.size ≤ b) hobP.rb fun b _ hb => Nat.le_trans hzH.size hb)
      refine hK.out _ _ (hcl.out _ hzP) (fun hHeld => ?_)
      clear hK K hbP hobP
      refine wpAnyH_take (i := 5) (oi := { dst := some 46, op := Op.build 47 #[(0, Operand.const (Value.int IntKind.i64 9)), (3, Operand.const (Value.string { data := #[104, 101, 97, 100] })), (4, Operand.tmp 45)], type := 47, pos := "law.go:87", after := #[{ on := 4, ground := Ground.data }], guard := none }) (v := ?va5) rfl (by kernel_rfl) (by kernel_rfl) (by kernel_rfl) (fun _ _ _ h => h) (Or.inl ⟨by rfl, ?hya5⟩) hHeld ?ra5
      case hya5 => (intro W hSW; (try dsimp only at hSW); go_simp; try (with_reducible rfl))
      simp only [Act.put, List.setIfInBounds_toArray, List.set_cons_zero, List.set_cons_succ]
      refine wpAnyH_ready (rs := [6]) (by kernel_rfl) (by simp) (AllReadyH.cons (o := { dst := some 47, op := Op.buildSlice 40 2 #[(0, Operand.tmp 43), (1, Operand.tmp 46)], type := 40, pos := "law.go:87", after := #[{ on := 2, ground := Ground.data }, { on := 5, ground := Ground.data }], guard := none }) rfl (fun K hK => ?_) AllReadyH.nil)
      go_simp
      refine hK.out _ _ (hcl.out _ (Below.alloc hzP hzP.size _)) (fun hHeld => ?_)
      clear hK K
      refine wpAnyH_take (i := 7) (oi := { dst := some 48, op := Op.build 42 #[(0, Operand.tmp 42), (1, Operand.tmp 47)], type := 42, pos := "law.go:87", after := #[{ on := 1, ground := Ground.data }, { on := 6, ground := Ground.data }], guard := none }) (v := ?va7) rfl (by kernel_rfl) (by kernel_rfl) (by kernel_rfl) (fun _ _ _ h => h) (Or.inl ⟨by rfl, ?hya7⟩) hHeld ?ra7
      case hya7 => (intro W hSW; (try dsimp only at hSW); go_simp; try (with_reducible rfl))
      simp only [Act.put, List.setIfInBounds_toArray, List.set_cons_zero, List.set_cons_succ]
      refine wpAnyH_done (by kernel_rfl) (sink_end (o := { dst := none, op := Op.store 42 (Operand.tmp 11) (Operand.tmp 48), type := 0, pos := "law.go:87", after := #[{ on := 7, ground := Ground.data }, { on := 4, ground := Ground.chain }, { on := 0, ground := Ground.phase }, { on := 1, ground := Ground.phase }, { on := 2, ground := Ground.phase }, { on := 3, ground := Ground.phase }, { on := 4, ground := Ground.phase }, { on := 5, ground := Ground.phase }, { on := 6, ground := Ground.phase }, { on := 7, ground := Ground.phase }], guard := none }) rfl fun K hK => ?_) _
      obtain ⟨q0, q1, k0, k1⟩ := hqc.out wP hzP
      have hpl : p < wP.heap.size := Nat.lt_of_lt_of_le (Array.getElem?_eq_some_iff.1 PA.out).1 hzP.size
      go_simp
      refine hK _ _ ?_
      clear hK K hHeld q0 q1 k0 k1
      go_wp2_with fail
      go_meet
      exact ⟨rfl, WantO.a hzP PA.out HOB.out⟩
    case rest =>
      obtain ⟨rfl, hwt⟩ := hcut
      obtain ⟨og, hpx, hsx⟩ := hwt.ex
      have hb6 := hwt.bl w.heap.size hpw HBA.out.size
      have TX := Lib.hid ((hwt.st w3.heap.size (H3P.out _ htp) (by omega)).trans TA.out)
      have hsm := same9_yes (fun b => b < p) (fun _ => True) ⟨headS i, [⟨2, 0, 0, ⟨#[]⟩, []⟩, ⟨9, 0, 0, keyH, pkD h⟩]⟩ (.slice va 2 vc) (.slice (some ⟨og, 0, none⟩) 2 2) wc (SlE.mono HO4P.out ⟨(hwt.bl 0 (Nat.zero_le _) (Nat.zero_le _)).size, fun b hb hl => hwt.st b hl (by omega)⟩) hsx (Nat.le_of_ble_eq_true rfl)
      have HSM := Lib.hid hsm
      have HB6 := Lib.hid (HBA.out.trans hb6)
      obtain ⟨t0, -⟩ := blk_cell (i := 0) TX.out
      obtain ⟨t1, -⟩ := blk_cell (i := 1) TX.out
      obtain ⟨z0, -⟩ := blk_cell (i := 0) hpx
      obtain ⟨z1, -⟩ := blk_cell (i := 1) hpx
      simp at t0 t1 z0 z1
      clear hpx hsx hwt hsm hb6
      go_wp2_with (first
        | (go_at_call 19; refine HSM.out.mono ?_; rintro e w7 ⟨rfl, hb7⟩; have HB7 := Lib.hid (call19 HB6.out hb7); clear hb7)
        | (go_at_call 20; refine (pdata_any i n _ (HL.out.ext HB7.out)).mono ?_; rintro e w8 ⟨rfl, hb8⟩; have HB8 := Lib.hid (call19 HB7.out hb8); clear hb8)
        | (go_at_call 21; refine (rdata_any i n _).mono ?_; rintro e w9 ⟨rfl, hb9⟩; have HB9 := Lib.hid (call19 HB8.out hb9); clear hb9)
        | (go_at_call 22; refine (phead_any i _).mono ?_; rintro e w10 ⟨rfl, rfl⟩)
        | (go_at_call 17; refine (rhead_any i _).mono ?_; rintro e w11 ⟨rfl, hb11⟩; have HB11 := Lib.hid (call19 HB9.out hb11); clear hb11)
        | (go_at_call 23; refine (pmark_any n _ (HL.out.ext HB11.out)).mono ?_; rintro e w12 ⟨rfl, hb12⟩; have HB12 := Lib.hid (call19 HB11.out hb12); clear hb12)
        | (go_at_call 24; refine (rmark_any n _).mono ?_; rintro e w13 ⟨rfl, hb13⟩; have HB13 := Lib.hid (call19 HB12.out hb13); clear hb13))
      go_ret
      exact ⟨by simp, HB13.out⟩
end Go.Proofs.YtlekdfajcpmolaaGreatDoor
