/- The walk of the reference's Append. -/
import Derived.Test.YtfeonfihlleoeaaDoorEf20
namespace Go.Proofs.YtfeonfihlleoeaaDoor
open Go.RowKit Go.WideShapes

theorem EnR.of_blk {α : Type} {E : Enc α} {t : TypeId} {base g : Nat} {w : World} {cs : List (List Value)} {l : List α} (h1 : cs.length = l.length) (h2 : ∀ (i : Nat) (x : α) (c : List Value), l[i]? = some x → cs[i]? = some c → E.rd (fun b => base ≤ b ∧ b ≠ g) w c x)
    (hb : w.heap[g]? = some (.cells cs.flatten.toArray t (0, 0))) (hg : base ≤ g) (hl : l.length ≤ 1000) : EnR E t base w (.slice (some ⟨g, 0, none⟩) l.length l.length) l := by
  have hlen : cs.flatten.length = l.length * E.size := by
    have : ∀ (cs : List (List Value)) (l : List α), cs.length = l.length → (∀ (i : Nat) (x : α) (c : List Value), l[i]? = some x → cs[i]? = some c → c.length = E.size) → cs.flatten.length = l.length * E.size := by
      intro cs
      induction cs with
      | nil => intro l h _; cases l with
        | nil => simp
        | cons => simp at h
      | cons c cs ih =>
        intro l h hh
        cases l with
        | nil => simp at h
        | cons x l =>
          have := ih l (by simpa using h) fun i y d hi hd => hh (i + 1) y d (by simpa using hi) (by simpa using hd)
          have h0 := hh 0 x c rfl rfl
          simp [this, h0, Nat.add_mul, Nat.add_comm]
    exact this cs l h1 fun i x c hi hc => E.len (h2 i x c hi hc)
  refine ⟨⟨cs, h1, fun i x c hi hc => E.weak (h2 i x c hi hc) fun b _ hb => ⟨hb.1, fun e => hb.2 (Option.some.inj e).symm⟩, hlen, .inr ⟨g, l.length, cs.flatten.toArray, rfl, hg, hb, Nat.le_refl _, by unfold maxLen; omega, by simpa using hlen, ?_⟩⟩⟩
  rw [← hlen]
  exact List.take_length
set_option maxRecDepth 100000 in
set_option maxHeartbeats 16000000 in
theorem rappend_any (A : Nat → Prop) (i : Int) (e : EnD) (a : Option Addr) (c : Nat) (w : World) (hv : RB A w (.slice a e.data.length c) e.data) (hdl : e.data.length ≤ 1000000) : Calls Tryd.prog 8 #[.int .i64 i, enV e (.slice a e.data.length c)] w (AppO i e w) := by
  obtain ⟨i0, hi, hz0, hz1, hz2⟩ := info_parts infoOp20
  have hck := fun W => rmayE_any e a c W
  have hpk := fun W (h : Below w.heap.size w W) => repack_any A e a c W (hv.ext h) hdl
  have hat : appT i e = if mayE e then ⟨jrnS i, appL e⟩ else ⟨⟨#[]⟩, []⟩ := rfl
  have hal : appL e = [⟨4, 0, e.seq, ⟨#[]⟩, []⟩, ⟨9, 0, 0, enK e.seq, pkE e⟩] ++ (if 8 < e.seq then [⟨10, 0, 0, enK (e.seq - 8), []⟩] else []) ++ [⟨12, 0, e.seq, ⟨#[]⟩, []⟩] := rfl
  have hms : mayE e = true → 1 ≤ e.seq ∧ e.seq ≤ 1099511627776 := fun h => (kind_ways h).2.1
  obtain ⟨s, o, k, f, n, p, d⟩ := e
  simp only [enV] at *
  have HPK := Lib.hid hpk
  have HCC := Lib.hid hck
  have HAT := Lib.hid hat
  have HAL := Lib.hid hal
  have HMS := Lib.hid hms
  generalize pkE ⟨s, o, k, f, n, p, d⟩ = PK at *
  clear hck hpk hat hal hv hms
  go_enter Tryd.func8, Tryd.ntmps8
  go_upto_region 1 with fail
  obtain ⟨wq, hwq⟩ : ∃ wq, wq = (w.alloc (.cells #[.int .i64 s, .int .i64 o, .int .i64 k, .int .i64 f, .int .i64 n, .int .i64 p, .slice a d.length c] 24)).alloc (.cells #[.string ⟨#[]⟩, .slice none 0 0] 28) := ⟨_, rfl⟩
  try rw [← hwq]
  have BX : Hid (wq.heap[w.heap.size]? = some (.cells #[.int .i64 s, .int .i64 o, .int .i64 k, .int .i64 f, .int .i64 n, .int .i64 p, .slice a d.length c] 24 (0, 0))) := Lib.hid (by rw [hwq]; exact dnew (heap_alloc_new _ _) _)
  have RX : Hid (wq.heap[w.heap.size + 1]? = some (.cells #[.string ⟨#[]⟩, .slice none 0 0] 28 (0, 0))) := Lib.hid (by rw [hwq]; exact heap_alloc2_new _ _ _)
  have HB : Hid (Below w.heap.size w wq) := Lib.hid (by rw [hwq]; ((repeat' (first | exact Below.refl _ _ | refine below_drewN ?_ _ | refine Below.drew ?_ | refine Below.alloc ?_ ?_ _ | refine Below.trans ?_ (Below.mono (by assumption) ?_))); all_goals (first | exact Nat.le_refl _ | exact Below.size (by assumption) | omega | (simp; done) | (simp; omega))))
  clear hwq
  obtain ⟨y0, e0⟩ := blk_cell (i := 0) (BX.out)
  obtain ⟨y1, e1⟩ := blk_cell (i := 1) (BX.out)
  obtain ⟨y2, e2⟩ := blk_cell (i := 2) (BX.out)
  obtain ⟨y3, e3⟩ := blk_cell (i := 3) (BX.out)
  obtain ⟨y4, e4⟩ := blk_cell (i := 4) (BX.out)
  obtain ⟨y5, e5⟩ := blk_cell (i := 5) (BX.out)
  obtain ⟨y6, e6⟩ := blk_cell (i := 6) (BX.out)
  simp at y0 y1 y2 y3 y4 y5 y6
  go_wp2_with fail
  refine (HCC.out _).mono ?_
  rintro x w1 ⟨rfl, hb1⟩
  replace HB := Lib.hid (dcall HB.out hb1)
  replace BX := Lib.hid (dblk hb1 BX.out)
  replace RX := Lib.hid (dblk hb1 RX.out)
  clear hb1 y0 y1 y2 y3 y4 y5 y6 e0 e1 e2 e3 e4 e5 e6
  obtain ⟨y0, e0⟩ := blk_cell (i := 0) (BX.out)
  obtain ⟨y1, e1⟩ := blk_cell (i := 1) (BX.out)
  obtain ⟨y2, e2⟩ := blk_cell (i := 2) (BX.out)
  obtain ⟨y3, e3⟩ := blk_cell (i := 3) (BX.out)
  obtain ⟨y4, e4⟩ := blk_cell (i := 4) (BX.out)
  obtain ⟨y5, e5⟩ := blk_cell (i := 5) (BX.out)
  obtain ⟨y6, e6⟩ := blk_cell (i := 6) (BX.out)
  simp at y0 y1 y2 y3 y4 y5 y6
  cases hm : mayE ⟨s, o, k, f, n, p, d⟩ with
  | false =>
    have hc : chkN ⟨s, o, k, f, n, p, d⟩ = 70 := by rw [chkN, hm]; rfl
    have HT : Hid (appT i ⟨s, o, k, f, n, p, d⟩ = ⟨⟨#[]⟩, []⟩) := Lib.hid (by rw [HAT.out, hm]; rfl)
    have HCK := Lib.hid hc
    clear hm hc
    obtain ⟨u0, h0⟩ := blk_cell (i := 0) RX.out
    obtain ⟨u1, h1⟩ := blk_cell (i := 1) RX.out
    simp at u0 u1
    have hrs := (Array.getElem?_eq_some_iff.1 RX.out).1
    go_wp2
    refine bodyPost_ret (results_cell_w1 rfl _ _ (w.heap.size + 1) 28 _ (0, 0) _ rfl (set2w RX.out) Tryd.underlying28 rfl (by kernel_rfl)) rfl ?_
    refine ⟨none, 0, by rw [HT.out, HCK.out]; rfl, by rw [HT.out]; exact SlE.nil _ _ _, (HB.out.setCell (show w.heap.size ≤ (⟨w.heap.size + 1, 0, none⟩ : Addr).block from Nat.le_succ _) _).setCell (show w.heap.size ≤ (⟨w.heap.size + 1, 1, none⟩ : Addr).block from Nat.le_succ _) _⟩
  | true =>
    have hc : chkN ⟨s, o, k, f, n, p, d⟩ = 0 := by rw [chkN, hm]; rfl
    have HT0 : Hid (appT i ⟨s, o, k, f, n, p, d⟩ = ⟨jrnS i, appL ⟨s, o, k, f, n, p, d⟩⟩) := Lib.hid (by rw [HAT.out, hm]; rfl)
    have HCK := Lib.hid hc
    obtain ⟨hs1, hs2⟩ := HMS.out hm
    have hwp0 : w.heap.size + 1 < w1.heap.size := (Array.getElem?_eq_some_iff.1 RX.out).1
    obtain ⟨base, hbase⟩ : ∃ base, base = w1.heap.size := ⟨_, rfl⟩
    have hb0 : base ≤ w1.heap.size := by omega
    have hbw : w.heap.size + 1 < base := by omega
    clear hm hc HAT HMS hbase
    go_upto_region 4 with fail
    go_cut [7] (fun q wx => ∃ xa xc, q = .slice xa 2 xc ∧ EnR Enc.op 48 base wx (.slice xa 2 xc) [⟨4, 0, s, ⟨#[]⟩, []⟩, ⟨9, 0, 0, enK s, PK⟩] ∧ Below w1.heap.size w1 wx)
    case first =>
      have hcells : Hid (∀ W : World, Below w1.heap.size w1 W → Below w1.heap.size w1 W ∧ W.cell? ⟨w.heap.size, 0, none⟩ = some (.int .i64 s) ∧ W.cell? ⟨w.heap.size, 1, none⟩ = some (.int .i64 o) ∧ W.cell? ⟨w.heap.size, 2, none⟩ = some (.int .i64 k) ∧ W.cell? ⟨w.heap.size, 3, none⟩ = some (.int .i64 f) ∧ W.cell? ⟨w.heap.size, 4, none⟩ = some (.int .i64 n) ∧ W.cell? ⟨w.heap.size, 5, none⟩ = some (.int .i64 p) ∧ W.cell? ⟨w.heap.size, 6, none⟩ = some (.slice a d.length c)) := Lib.hid fun W h =>
        ⟨h, cellExt h y0, cellExt h y1, cellExt h y2, cellExt h y3, cellExt h y4, cellExt h y5, cellExt h y6⟩
      clear y0 y1 y2 y3 y4 y5 y6 e0 e1 e2 e3 e4 e5 e6
      go_region_held3 (fun W => Below w1.heap.size w1 W ∧ W.cell? ⟨w.heap.size, 0, none⟩ = some (.int .i64 s) ∧ W.cell? ⟨w.heap.size, 1, none⟩ = some (.int .i64 o) ∧ W.cell? ⟨w.heap.size, 2, none⟩ = some (.int .i64 k) ∧ W.cell? ⟨w.heap.size, 3, none⟩ = some (.int .i64 f) ∧ W.cell? ⟨w.heap.size, 4, none⟩ = some (.int .i64 n) ∧ W.cell? ⟨w.heap.size, 5, none⟩ = some (.int .i64 p) ∧ W.cell? ⟨w.heap.size, 6, none⟩ = some (.slice a d.length c))
        ((refine hcells.out _ ?_; first
          | (with_reducible exact Below.drew (Below.refl _ _))
          | (with_reducible exact hz8)
          | (with_reducible exact below_nw hz8 _)
          | (with_reducible exact hz7)
          | (rename_i hh _ _; with_reducible exact hh.1)))
        (first
          | (go_at_call 22; refine (rename_any s _).mono ?_; rintro x w7 ⟨rfl, hb7⟩; have hz7 : Below w1.heap.size w1 w7 := Below.trans (Below.drew (Below.refl w1.heap.size w1)) (Below.mono hb7 (Nat.le_refl _)))
          | (go_at_call 23; refine (HPK.out _ (dcall HB.out hz7)).mono ?_; rintro x w8 ⟨v8, rfl, hv8, hb8⟩; obtain ⟨pa, pc, rfl⟩ := hv8.rb.shape; have hz8 : Below w1.heap.size w1 w8 := Below.trans hz7 (Below.mono hb8 hz7.size); have HV8 := Lib.hid (hv8.rb.weak (A' := fun b => base ≤ b ∧ b < w8.heap.size) fun b hl hb => ⟨Nat.le_trans (Nat.le_trans hb0 hz7.size) hb, hl⟩)))
      all_goals
        go_wp2
        go_meet
        refine ⟨_, _, rfl, EnR.of_blk (α := OpD) (E := Enc.op) (cs := [[.int .i64 4, .int .i64 0, .int .i64 s, .string ⟨#[]⟩, .slice none 0 0], [.int .i64 9, .int .i64 0, .int .i64 0, .string (enK s), .slice pa PK.length pc]]) (l := [⟨4, 0, s, ⟨#[]⟩, []⟩, ⟨9, 0, 0, enK s, PK⟩]) rfl (fun j x cc hj hc => ?_) (heap_alloc_new _ _) (Nat.le_trans (Nat.le_trans hb0 hz7.size) (by have := hz8.size; have := hb8.size; omega)) (by simp), below_nw hz8 _⟩
        match j, hj, hc with
        | 0, hj, hc => cases hj; cases hc; exact ⟨_, rfl, RB.nil _ _⟩
        | 1, hj, hc => cases hj; cases hc; exact ⟨_, rfl, (HV8.out.ext ((Below.refl _ _).alloc (Nat.le_refl _) _)).weak fun b _ hb => ⟨hb.1, by omega⟩⟩
    case rest =>
      obtain ⟨xa, xc, rfl, hro, hbc⟩ := hcut
      have RO := Lib.hid hro
      replace BX := Lib.hid (dblk hbc BX.out)
      replace RX := Lib.hid (dblk hbc RX.out)
      replace HB := Lib.hid (dcall HB.out hbc)
      have hbq : base ≤ wc.heap.size := Nat.le_trans hb0 hbc.size
      clear hro hbc hb0 hwp0 y0 y1 y2 y3 y4 y5 y6 e0 e1 e2 e3 e4 e5 e6
      obtain ⟨wq, hwq⟩ : ∃ wq, wq = wc := ⟨_, rfl⟩
      subst hwq
      obtain ⟨y0, e0⟩ := blk_cell (i := 0) (BX.out)
      obtain ⟨y1, e1⟩ := blk_cell (i := 1) (BX.out)
      obtain ⟨y2, e2⟩ := blk_cell (i := 2) (BX.out)
      obtain ⟨y3, e3⟩ := blk_cell (i := 3) (BX.out)
      obtain ⟨y4, e4⟩ := blk_cell (i := 4) (BX.out)
      obtain ⟨y5, e5⟩ := blk_cell (i := 5) (BX.out)
      obtain ⟨y6, e6⟩ := blk_cell (i := 6) (BX.out)
      simp at y0 y1 y2 y3 y4 y5 y6
      by_cases h8 : 8 < s
      · have HT : Hid (appT i ⟨s, o, k, f, n, p, d⟩ = ⟨jrnS i, [⟨4, 0, s, ⟨#[]⟩, []⟩, ⟨9, 0, 0, enK s, PK⟩] ++ [⟨10, 0, 0, enK (s - 8), []⟩] ++ [⟨12, 0, s, ⟨#[]⟩, []⟩]⟩) := Lib.hid (by rw [HT0.out, HAL.out, if_pos h8])
        go_wp2_with fail
        refine (rename_any (s - 8) _).mono ?_
        rintro x w7 ⟨rfl, hb7⟩
        replace RO := Lib.hid (RO.out.ext hb7)
        replace BX := Lib.hid (dblk hb7 BX.out)
        replace RX := Lib.hid (dblk hb7 RX.out)
        replace HB := Lib.hid (dcall HB.out hb7)
        have hbq : base ≤ w7.heap.size := Nat.le_trans hbq hb7.size
        clear hb7 y0 y1 y2 y3 y4 y5 y6 e0 e1 e2 e3 e4 e5 e6
        obtain ⟨wq, hwq⟩ : ∃ wq, wq = w7 := ⟨_, rfl⟩
        subst hwq
        obtain ⟨y0, e0⟩ := blk_cell (i := 0) (BX.out)
        obtain ⟨y1, e1⟩ := blk_cell (i := 1) (BX.out)
        obtain ⟨y2, e2⟩ := blk_cell (i := 2) (BX.out)
        obtain ⟨y3, e3⟩ := blk_cell (i := 3) (BX.out)
        obtain ⟨y4, e4⟩ := blk_cell (i := 4) (BX.out)
        obtain ⟨y5, e5⟩ := blk_cell (i := 5) (BX.out)
        obtain ⟨y6, e6⟩ := blk_cell (i := 6) (BX.out)
        simp at y0 y1 y2 y3 y4 y5 y6
        go_wp2_with (first | (at_builtin; refine stop_in ?_) | go_in)
        unfold Stop
        refine wpList_pushR wq (by rfl) (.tmp 26) (.tmp 32) 26 (by rfl) Enc.op base 48 i0 _ 64 Tryd.underlying26 hi hz0 hz1 hz2 (by rfl) (by decide) (by decide) _ [⟨4, 0, s, ⟨#[]⟩, []⟩, ⟨9, 0, 0, enK s, PK⟩] (by rfl) RO.out [.int .i64 10, .int .i64 0, .int .i64 0, .string (enK (s - 8)), .slice none 0 0] 48 ⟨10, 0, 0, enK (s - 8), []⟩ (by rfl) ⟨_, rfl, RB.nil _ _⟩ (by simp) hbq ?_
        intro v' wz hE hBz
        obtain ⟨ya, yc, rfl⟩ := hE.shape
        replace RO := Lib.hid hE
        replace BX := Lib.hid ((hBz.block _ (by omega)).trans BX.out)
        replace RX := Lib.hid ((hBz.block _ (by omega)).trans RX.out)
        replace HB := Lib.hid (HB.out.trans (hBz.mono (by omega)))
        have hbq : base ≤ wz.heap.size := Nat.le_trans hbq hBz.size
        clear hE hBz y0 y1 y2 y3 y4 y5 y6 e0 e1 e2 e3 e4 e5 e6
        obtain ⟨wq, hwq⟩ : ∃ wq, wq = wz := ⟨_, rfl⟩
        subst hwq
        obtain ⟨y0, e0⟩ := blk_cell (i := 0) (BX.out)
        obtain ⟨y1, e1⟩ := blk_cell (i := 1) (BX.out)
        obtain ⟨y2, e2⟩ := blk_cell (i := 2) (BX.out)
        obtain ⟨y3, e3⟩ := blk_cell (i := 3) (BX.out)
        obtain ⟨y4, e4⟩ := blk_cell (i := 4) (BX.out)
        obtain ⟨y5, e5⟩ := blk_cell (i := 5) (BX.out)
        obtain ⟨y6, e6⟩ := blk_cell (i := 6) (BX.out)
        simp at y0 y1 y2 y3 y4 y5 y6
        go_wp2_with (first | (at_builtin; refine stop_in ?_) | go_in)
        unfold Stop
        refine wpList_pushR wq (by rfl) (.tmp 34) (.tmp 38) 26 (by rfl) Enc.op base 48 i0 _ 64 Tryd.underlying26 hi hz0 hz1 hz2 (by rfl) (by decide) (by decide) _ ([⟨4, 0, s, ⟨#[]⟩, []⟩, ⟨9, 0, 0, enK s, PK⟩] ++ [⟨10, 0, 0, enK (s - 8), []⟩]) (by rfl) RO.out [.int .i64 12, .int .i64 0, .int .i64 s, .string ⟨#[]⟩, .slice none 0 0] 48 ⟨12, 0, s, ⟨#[]⟩, []⟩ (by rfl) ⟨_, rfl, RB.nil _ _⟩ (by simp) hbq ?_
        intro v' wz hE hBz
        obtain ⟨ya, yc, rfl⟩ := hE.shape
        replace RO := Lib.hid hE
        replace BX := Lib.hid ((hBz.block _ (by omega)).trans BX.out)
        replace RX := Lib.hid ((hBz.block _ (by omega)).trans RX.out)
        replace HB := Lib.hid (HB.out.trans (hBz.mono (by omega)))
        have hbq : base ≤ wz.heap.size := Nat.le_trans hbq hBz.size
        clear hE hBz y0 y1 y2 y3 y4 y5 y6 e0 e1 e2 e3 e4 e5 e6
        obtain ⟨wq, hwq⟩ : ∃ wq, wq = wz := ⟨_, rfl⟩
        subst hwq
        obtain ⟨y0, e0⟩ := blk_cell (i := 0) (BX.out)
        obtain ⟨y1, e1⟩ := blk_cell (i := 1) (BX.out)
        obtain ⟨y2, e2⟩ := blk_cell (i := 2) (BX.out)
        obtain ⟨y3, e3⟩ := blk_cell (i := 3) (BX.out)
        obtain ⟨y4, e4⟩ := blk_cell (i := 4) (BX.out)
        obtain ⟨y5, e5⟩ := blk_cell (i := 5) (BX.out)
        obtain ⟨y6, e6⟩ := blk_cell (i := 6) (BX.out)
        simp at y0 y1 y2 y3 y4 y5 y6
        go_wp2_with fail
        refine (rjname_any i _).mono ?_
        rintro x wz ⟨rfl, hb⟩
        replace RO := Lib.hid (RO.out.ext hb)
        replace BX := Lib.hid (dblk hb BX.out)
        replace RX := Lib.hid (dblk hb RX.out)
        replace HB := Lib.hid (dcall HB.out hb)
        clear hb y0 y1 y2 y3 y4 y5 y6 e0 e1 e2 e3 e4 e5 e6
        obtain ⟨u0, h0⟩ := blk_cell (i := 0) RX.out
        obtain ⟨u1, h1⟩ := blk_cell (i := 1) RX.out
        simp at u0 u1
        have hrs := (Array.getElem?_eq_some_iff.1 RX.out).1
        go_wp2
        refine bodyPost_ret (results_cell_w1 rfl _ _ (w.heap.size + 1) 28 _ (0, 0) _ rfl (set2w RX.out) Tryd.underlying28 rfl (by kernel_rfl)) rfl ?_
        refine ⟨_, _, by rw [HT.out, HCK.out]; rfl, ?_, (HB.out.setCell (show w.heap.size ≤ (⟨w.heap.size + 1, 0, none⟩ : Addr).block from Nat.le_succ _) _).setCell (show w.heap.size ≤ (⟨w.heap.size + 1, 1, none⟩ : Addr).block from Nat.le_succ _) _⟩
        rw [HT.out]
        have hro := SlE.weak (A' := fun b => b ≠ w.heap.size + 1 ∧ w.heap.size ≤ b) RO.out.sle fun b _ hb => ⟨by omega, by omega⟩
        exact SlE.weak (SlE.mono hro ⟨by simp [World.setCell], fun b hb _ => (Below.heap_setCell _ _ _ _ hb.1).trans (Below.heap_setCell _ _ _ _ hb.1)⟩) fun b _ hb => hb.2
      · have HT : Hid (appT i ⟨s, o, k, f, n, p, d⟩ = ⟨jrnS i, [⟨4, 0, s, ⟨#[]⟩, []⟩, ⟨9, 0, 0, enK s, PK⟩] ++ [⟨12, 0, s, ⟨#[]⟩, []⟩]⟩) := Lib.hid (by rw [HT0.out, HAL.out, if_neg h8, List.append_nil])
        go_wp2_with (first | (at_builtin; refine stop_in ?_) | go_in)
        unfold Stop
        refine wpList_pushR wq (by rfl) (.tmp 34) (.tmp 38) 26 (by rfl) Enc.op base 48 i0 _ 64 Tryd.underlying26 hi hz0 hz1 hz2 (by rfl) (by decide) (by decide) _ [⟨4, 0, s, ⟨#[]⟩, []⟩, ⟨9, 0, 0, enK s, PK⟩] (by rfl) RO.out [.int .i64 12, .int .i64 0, .int .i64 s, .string ⟨#[]⟩, .slice none 0 0] 48 ⟨12, 0, s, ⟨#[]⟩, []⟩ (by rfl) ⟨_, rfl, RB.nil _ _⟩ (by simp) hbq ?_
        intro v' wz hE hBz
        obtain ⟨ya, yc, rfl⟩ := hE.shape
        replace RO := Lib.hid hE
        replace BX := Lib.hid ((hBz.block _ (by omega)).trans BX.out)
        replace RX := Lib.hid ((hBz.block _ (by omega)).trans RX.out)
        replace HB := Lib.hid (HB.out.trans (hBz.mono (by omega)))
        have hbq : base ≤ wz.heap.size := Nat.le_trans hbq hBz.size
        clear hE hBz y0 y1 y2 y3 y4 y5 y6 e0 e1 e2 e3 e4 e5 e6
        obtain ⟨wq, hwq⟩ : ∃ wq, wq = wz := ⟨_, rfl⟩
        subst hwq
        obtain ⟨y0, e0⟩ := blk_cell (i := 0) (BX.out)
        obtain ⟨y1, e1⟩ := blk_cell (i := 1) (BX.out)
        obtain ⟨y2, e2⟩ := blk_cell (i := 2) (BX.out)
        obtain ⟨y3, e3⟩ := blk_cell (i := 3) (BX.out)
        obtain ⟨y4, e4⟩ := blk_cell (i := 4) (BX.out)
        obtain ⟨y5, e5⟩ := blk_cell (i := 5) (BX.out)
        obtain ⟨y6, e6⟩ := blk_cell (i := 6) (BX.out)
        simp at y0 y1 y2 y3 y4 y5 y6
        go_wp2_with fail
        refine (rjname_any i _).mono ?_
        rintro x wz ⟨rfl, hb⟩
        replace RO := Lib.hid (RO.out.ext hb)
        replace BX := Lib.hid (dblk hb BX.out)
        replace RX := Lib.hid (dblk hb RX.out)
        replace HB := Lib.hid (dcall HB.out hb)
        clear hb y0 y1 y2 y3 y4 y5 y6 e0 e1 e2 e3 e4 e5 e6
        obtain ⟨u0, h0⟩ := blk_cell (i := 0) RX.out
        obtain ⟨u1, h1⟩ := blk_cell (i := 1) RX.out
        simp at u0 u1
        have hrs := (Array.getElem?_eq_some_iff.1 RX.out).1
        go_wp2
        refine bodyPost_ret (results_cell_w1 rfl _ _ (w.heap.size + 1) 28 _ (0, 0) _ rfl (set2w RX.out) Tryd.underlying28 rfl (by kernel_rfl)) rfl ?_
        refine ⟨_, _, by rw [HT.out, HCK.out]; rfl, ?_, (HB.out.setCell (show w.heap.size ≤ (⟨w.heap.size + 1, 0, none⟩ : Addr).block from Nat.le_succ _) _).setCell (show w.heap.size ≤ (⟨w.heap.size + 1, 1, none⟩ : Addr).block from Nat.le_succ _) _⟩
        rw [HT.out]
        have hro := SlE.weak (A' := fun b => b ≠ w.heap.size + 1 ∧ w.heap.size ≤ b) RO.out.sle fun b _ hb => ⟨by omega, by omega⟩
        exact SlE.weak (SlE.mono hro ⟨by simp [World.setCell], fun b hb _ => (Below.heap_setCell _ _ _ _ hb.1).trans (Below.heap_setCell _ _ _ _ hb.1)⟩) fun b _ hb => hb.2
end Go.Proofs.YtfeonfihlleoeaaDoor
