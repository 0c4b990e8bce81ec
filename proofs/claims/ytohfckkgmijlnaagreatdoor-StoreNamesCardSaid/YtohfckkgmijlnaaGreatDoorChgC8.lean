/- The walk of object.change, the rest; object.change at any kind. -/
import Derived.Test.YtohfckkgmijlnaaGreatDoorPG
import Derived.Test.YtohfckkgmijlnaaGreatDoorPH
namespace Go.Proofs.YtohfckkgmijlnaaGreatDoor
open Go.RowKit Go.WideShapes

theorem any_find {p : KyD → Bool} {ks : List KyD} : (ks.find? p = none → ks.any p = false) ∧ (∀ x, ks.find? p = some x → ks.any p = true) := by
  constructor
  · intro h
    rw [List.any_eq_false]
    intro x hx
    have := List.find?_eq_none.1 h x hx
    simpa using this
  · intro x h
    rw [List.any_eq_true]
    exact ⟨x, List.mem_of_find?_eq_some h, List.find?_some h⟩
set_option maxRecDepth 100000 in
set_option maxHeartbeats 8000000 in
theorem change_clone (base pb : Nat) (dv kv : Value) (o : ObD) (off n : Int) (nm : ByteArray) (A : Nat → Prop) (oa : Option Addr) (oc : Nat) (d : List UInt8) (w : World)
    (hO : IsO base pb w dv kv o) (hm : mayB o = true) (hd : RB A w (.slice oa d.length oc) d) (_hl : d.length ≤ 50000) (hA : ∀ b, A b → b ≠ pb ∧ b < base) :
    Calls Tryz.prog 67 #[.pointer (some ⟨pb, 0, none⟩), opV 11 off n nm oa d.length oc] w (ChR base pb 11 (changeB o ⟨11, off, n, nm, d⟩) w) := by
  obtain ⟨hm1, hm2, hm3, hm4, hf⟩ := (mayB_iff o).1 hm
  have HF := Lib.hid hf
  have HM := Lib.hid hm
  have hlt := hO.lt
  have hle := hO.le
  obtain ⟨a0, c0, rfl⟩ : ∃ a c, dv = .slice a o.data.length c := hO.own.data.rb.shape
  obtain ⟨kA, kc, rfl⟩ : ∃ a c, kv = .slice a o.keys.length c := by
    obtain ⟨cs, h, -⟩ := hO.own.ex
    exact owns_shape h
  have HO := Lib.hid hO
  have HV := Lib.hid hd
  have HA := Lib.hid hA
  have hpl : pb < w.heap.size := by omega
  clear hO hd hA hf hm
  have hw : Below w.heap.size w (w.alloc (.cells #[.int .i64 11, .int .i64 off, .int .i64 n, .string nm, .slice oa d.length oc] 57)) := (Below.refl _ w).alloc (Nat.le_refl _) _
  have HW := Lib.hid hw
  clear hw
  have hA2 : ∀ b, (Value.slice a0 o.data.length c0).ownBlock = some b → b ≠ pb ∧ (Value.slice kA o.keys.length kc).ownBlock ≠ some b := fun b hb => by
    obtain ⟨cs, h, -⟩ := HO.out.own.ex
    refine ⟨by have := (HO.out.own.data.lt b hb).1; omega, fun e => ?_⟩
    rcases own_ne HO.out.own.data h (by decide) with e1 | e1
    · rw [e1] at hb; cases hb
    · exact e1 (hb.trans e.symm)
  have hrb : RB (fun b => (Value.slice a0 o.data.length c0).ownBlock = some b) w (.slice a0 o.data.length c0) o.data := by
    have h := HO.out.own.data.rb
    refine ⟨h.1, h.2.imp id ?_⟩
    rintro ⟨b, off, cap, e, h1, h2, h3⟩
    exact ⟨b, off, cap, e, h1, by rw [e]; rfl, h3⟩
  have HC : Hid (∀ W, Below w.heap.size w W → Calls Tryz.prog 85 #[.pointer (some ⟨pb, 0, none⟩), opV 11 off n nm oa d.length oc, .slice a0 o.data.length c0] W (ChR base pb 11 (keyOp o nm o.data) W)) := fun W hW =>
    key_any base pb _ _ o 11 off n nm oa _ oc _ _ o.data W (HO.out.ext hW) HF.out hm2 (hrb.ext hW) (by omega) hA2
  unfold opV at HC ⊢
  have hobv : Hid (∀ W, Below w.heap.size w W → ObV (fun b => base ≤ b) W (.agg #[.slice a0 o.data.length c0, .slice kA o.keys.length kc, .int .i64 o.seq]) o) := fun W hW => (HO.out.ext hW).own.obv
  have hokl : Hid o.okl := ⟨by omega, by omega, fun k hk => by
    obtain ⟨i, hi, rfl⟩ := List.getElem_of_mem hk
    have := (HF.out.key i _ (List.getElem?_eq_getElem hi)).2
    omega⟩
  clear hA2 hrb
  go_enter Tryz.func67, Tryz.ntmps67
  go_upto_region 16 with fail
  obtain ⟨w0, hw0⟩ : ∃ w0, w0 = w.alloc (.cells #[.int .i64 11, .int .i64 off, .int .i64 n, .string nm, .slice oa d.length oc] 57) := ⟨_, rfl⟩
  rw [← hw0]
  have hw : Below w.heap.size w w0 := by rw [hw0]; ((repeat' (first | exact Below.refl _ _ | refine below_drewN ?_ _ | refine Below.drew ?_ | refine Below.alloc ?_ ?_ _ | refine Below.trans ?_ (Below.mono (by assumption) ?_))); all_goals (first | exact Nat.le_refl _ | exact Below.size (by assumption) | omega | (simp; done) | (simp; omega)))
  have K := heap_alloc_new w (.cells #[.int .i64 11, .int .i64 off, .int .i64 n, .string nm, .slice oa d.length oc] 57)
  rw [← hw0] at K
  have hO0 := HO.out.ext hw
  have HW0 := Lib.hid hw
  have y0 : ∀ n : After w0, n.w.cell? ⟨pb, 0, none⟩ = some _ := after_cell (by have := (blk_cell (i := 0) hO0.blk).1; simpa using this)
  have y1 : ∀ n : After w0, n.w.cell? ⟨pb, 1, none⟩ = some _ := after_cell (by have := (blk_cell (i := 1) hO0.blk).1; simpa using this)
  have y2 : ∀ n : After w0, n.w.cell? ⟨pb, 2, none⟩ = some _ := after_cell (by have := (blk_cell (i := 2) hO0.blk).1; simpa using this)
  have y3 : ∀ n : After w0, n.w.cell? ⟨w.heap.size, 3, none⟩ = some (.string nm) := after_cell (blk_cell (i := 3) K).1
  have HFN : Hid (∀ m : After w0, Calls Tryz.prog 88 #[.agg #[.slice a0 o.data.length c0, .slice kA o.keys.length kc, .int .i64 o.seq], .string nm] m.w (IdxR (fromB nm) o.keys m.w)) := fun m => from_any _ _ o nm _ (hobv.out _ (HW0.out.trans (m.h.mono HW0.out.size))) hokl.out
  have HK := Lib.hid K
  clear hw0 hw K hO0
  rcases ix_ways (fromB nm) o.keys with ⟨e1, e2⟩ | ⟨k, hlt2, e1, e2⟩
  · have HX : Hid (changeB o ⟨11, off, n, nm, d⟩ = keyOp o nm o.data) := by show changeB _ _ = _; simp [changeB, any_find.1 e2]
    have HFN2 : Hid (∀ m : After w0, Calls Tryz.prog 88 #[.agg #[.slice a0 o.data.length c0, .slice kA o.keys.length kc, .int .i64 o.seq], .string nm] m.w (fun e w' => e = .returned (.int .i64 (-1)) ∧ Below m.w.heap.size m.w w')) := fun m => by have := HFN.out m; unfold IdxR at this; rwa [e1] at this
    clear e1 e2 HFN
    (refine wp_region_after (by kernel_rfl) (by kernel_rfl) ?_
     repeat (first | go_big_quiet_skip | (go_big_quiet_want; go_big_quiet_op; (first | go_big_quiet_on | (apply Exists.intro; refine ⟨fun _ => ?_, ?_⟩; (focus ((go_at_call 88; exact calls_after (HFN2.out _)))); go_big_quiet_on))))
     refine wpQuiet_nil ?_
     intro _ hw'
     obtain ⟨nq, hw''⟩ := hw'
     subst hw''
     have hq := nq.h)
    obtain ⟨w1, hw1⟩ : ∃ w1, w1 = nq.w := ⟨_, rfl⟩
    rw [← hw1] at hq ⊢
    have hB1 : Below w.heap.size w w1 := HW0.out.trans (hq.mono HW0.out.size)
    have hO1 := HO.out.ext hB1
    have K1 : w1.heap[w.heap.size]? = _ := (hq.block _ ((Array.getElem?_eq_some_iff.1 HK.out).1)).trans HK.out
    obtain ⟨x0, f0⟩ := blk_cell (i := 0) hO1.blk
    obtain ⟨z0, g0⟩ := blk_cell (i := 0) K1
    obtain ⟨z1, g1⟩ := blk_cell (i := 1) K1
    obtain ⟨z2, g2⟩ := blk_cell (i := 2) K1
    obtain ⟨z3, g3⟩ := blk_cell (i := 3) K1
    obtain ⟨z4, g4⟩ := blk_cell (i := 4) K1
    simp at x0 z0 z1 z2 z3 z4
    have HB1 := Lib.hid hB1
    have HKY := Lib.hid (HC.out w1.drew hB1.drew)
    clear hw1 hq hB1 hO1 K1 y0 y1 y2 y3 HFN2 HW0 HW HC
    go_wp2
    go_region_with (go_at_call 85; refine (HKY.out).mono ?_; intro e w2 h; obtain ⟨v, rfl, hv, h⟩ := h.ways; have HH := Lib.hid (h.pre HB1.out.drew); clear h)
    all_goals
      rcases hv with rfl | rfl
      · go_wp2
        go_ret
        exact (by have := HH.out; rw [← HX.out] at this; exact this)
      · go_wp2
        go_ret
        exact (by have := HH.out; rw [← HX.out] at this; exact this)
  · have HX : Hid (changeB o ⟨11, off, n, nm, d⟩ = some o) := by show changeB _ _ = _; simp [changeB, any_find.2 _ e2]
    have HFN2 : Hid (∀ m : After w0, Calls Tryz.prog 88 #[.agg #[.slice a0 o.data.length c0, .slice kA o.keys.length kc, .int .i64 o.seq], .string nm] m.w (fun e w' => e = .returned (.int .i64 (k : Nat)) ∧ Below m.w.heap.size m.w w')) := fun m => by have := HFN.out m; unfold IdxR at this; rwa [e1] at this
    clear e1 e2 HFN
    (refine wp_region_after (by kernel_rfl) (by kernel_rfl) ?_
     repeat (first | go_big_quiet_skip | (go_big_quiet_want; go_big_quiet_op; (first | go_big_quiet_on | (apply Exists.intro; refine ⟨fun _ => ?_, ?_⟩; (focus ((go_at_call 88; exact calls_after (HFN2.out _)))); go_big_quiet_on))))
     refine wpQuiet_nil ?_
     intro _ hw'
     obtain ⟨nq, hw''⟩ := hw'
     subst hw''
     have hq := nq.h)
    obtain ⟨w1, hw1⟩ : ∃ w1, w1 = nq.w := ⟨_, rfl⟩
    rw [← hw1] at hq ⊢
    have hB1 : Below w.heap.size w w1 := HW0.out.trans (hq.mono HW0.out.size)
    have HB1 := Lib.hid hB1
    clear hw1 hq hB1 y0 y1 y2 y3 HFN2 HW0 HW HC
    go_wp2
    go_ret
    exact ChR.yes HX.out (HO.out.ext HB1.out) (Fr.ext HB1.out)
set_option maxRecDepth 100000 in
set_option maxHeartbeats 8000000 in
theorem change_from (base pb : Nat) (dv kv : Value) (o : ObD) (off n : Int) (nm : ByteArray) (A : Nat → Prop) (oa : Option Addr) (oc : Nat) (d : List UInt8) (w : World)
    (hO : IsO base pb w dv kv o) (hm : mayB o = true) (hd : RB A w (.slice oa d.length oc) d) (_hl : d.length ≤ 50000) (hA : ∀ b, A b → b ≠ pb ∧ b < base) :
    Calls Tryz.prog 67 #[.pointer (some ⟨pb, 0, none⟩), opV 14 off n nm oa d.length oc] w (ChR base pb 14 (changeB o ⟨14, off, n, nm, d⟩) w) := by
  obtain ⟨hm1, hm2, hm3, hm4, hf⟩ := (mayB_iff o).1 hm
  have HF := Lib.hid hf
  have HM := Lib.hid hm
  have hlt := hO.lt
  have hle := hO.le
  obtain ⟨a0, c0, rfl⟩ : ∃ a c, dv = .slice a o.data.length c := hO.own.data.rb.shape
  obtain ⟨kA, kc, rfl⟩ : ∃ a c, kv = .slice a o.keys.length c := by
    obtain ⟨cs, h, -⟩ := hO.own.ex
    exact owns_shape h
  have HO := Lib.hid hO
  have HV := Lib.hid hd
  have HA := Lib.hid hA
  have hpl : pb < w.heap.size := by omega
  clear hO hd hA hf hm
  have hw : Below w.heap.size w (w.alloc (.cells #[.int .i64 14, .int .i64 off, .int .i64 n, .string nm, .slice oa d.length oc] 57)) := (Below.refl _ w).alloc (Nat.le_refl _) _
  have HW := Lib.hid hw
  clear hw
  have hlm := fun b W => limit_any 14 off n nm oa d.length oc b W
  have hobv : Hid (∀ W, Below w.heap.size w W → ObV (fun b => base ≤ b) W (.agg #[.slice a0 o.data.length c0, .slice kA o.keys.length kc, .int .i64 o.seq]) o) := fun W hW => (HO.out.ext hW).own.obv
  have hokl : Hid o.okl := ⟨by omega, by omega, fun k hk => by
    obtain ⟨i, hi, rfl⟩ := List.getElem_of_mem hk
    have := (HF.out.key i _ (List.getElem?_eq_getElem hi)).2
    omega⟩
  have hAT : Hid (∀ W, Below w.heap.size w W → Calls Tryz.prog 89 #[.agg #[.slice a0 o.data.length c0, .slice kA o.keys.length kc, .int .i64 o.seq], .string nm] W (NewB W (atD o nm))) := fun W hW => at_any _ _ o nm W (hobv.out W hW) hokl.out
  unfold opV at hlm ⊢
  obtain ⟨x0, f0⟩ := blk_cell (i := 0) HO.out.blk
  obtain ⟨x1, f1⟩ := blk_cell (i := 1) HO.out.blk
  obtain ⟨x2, f2⟩ := blk_cell (i := 2) HO.out.blk
  simp at x0 x1 x2
  have HC : Hid (changeB o ⟨14, off, n, nm, d⟩ = if (atD o nm).length ≤ 64 then some ⟨atD o nm, o.keys, o.seq⟩ else none) := rfl
  generalize hD : atD o nm = D at *
  have HDD := Lib.hid hD
  clear hD
  go_enter Tryz.func67, Tryz.ntmps67
  go_upto_region 22 with fail
  obtain ⟨w0, hw0⟩ : ∃ w0, w0 = w.alloc (.cells #[.int .i64 14, .int .i64 off, .int .i64 n, .string nm, .slice oa d.length oc] 57) := ⟨_, rfl⟩
  rw [← hw0]
  have hw : Below w.heap.size w w0 := by rw [hw0]; ((repeat' (first | exact Below.refl _ _ | refine below_drewN ?_ _ | refine Below.drew ?_ | refine Below.alloc ?_ ?_ _ | refine Below.trans ?_ (Below.mono (by assumption) ?_))); all_goals (first | exact Nat.le_refl _ | exact Below.size (by assumption) | omega | (simp; done) | (simp; omega)))
  have K := heap_alloc_new w (.cells #[.int .i64 14, .int .i64 off, .int .i64 n, .string nm, .slice oa d.length oc] 57)
  rw [← hw0] at K
  have hO0 := HO.out.ext hw
  obtain ⟨x0, f0⟩ := blk_cell (i := 0) hO0.blk
  obtain ⟨x1, f1⟩ := blk_cell (i := 1) hO0.blk
  obtain ⟨x2, f2⟩ := blk_cell (i := 2) hO0.blk
  obtain ⟨z3, g3⟩ := blk_cell (i := 3) K
  simp at x0 x1 x2 z3
  have HW0 := Lib.hid hw
  have HO0 := Lib.hid hO0
  have HK := Lib.hid K
  have hpl0 : pb < w0.heap.size := by have := hw.size; omega
  have HAW := Lib.hid (hAT.out w0.drew hw.drew)
  clear hw0 hw K hO0 HW
  go_region_with (go_at_call 89; refine (HAW.out).mono ?_; rintro e w2 ⟨v2, rfl, h2, hb2⟩; obtain ⟨a2, c2, rfl⟩ := h2.rb.shape; have e0 := cellExt hb2 x0; have e1 := cellExt hb2 x1; have e2 := cellExt hb2 x2; have g0 : w2.frozen? ⟨pb, 0, none⟩ = false := (hb2.frozen (p := ⟨pb, 0, none⟩) hpl0).trans f0; have e3 := cellExt hb2 z3; have H2 : Hid (OB w0.heap.size w2 _ _) := Lib.hid h2; have HB2 : Hid (Below w0.heap.size w0 w2) := Lib.hid (((Below.refl _ w0).drew).trans hb2); clear h2 hb2)
  all_goals
    have hbw : Below w.heap.size w w2 := HW0.out.trans (HB2.out.mono HW0.out.size)
    have K2 : w2.heap[w.heap.size]? = _ := (HB2.out.block _ ((Array.getElem?_eq_some_iff.1 HK.out).1)).trans HK.out
    have HH := Lib.hid (set_data HO.out hbw H2.out HW0.out.size)
    obtain ⟨w3, hw3⟩ : ∃ w3, w3 = w2.setCell ⟨pb, 0, none⟩ (.slice a2 D.length c2) := ⟨_, rfl⟩
    rw [← hw3] at HH ⊢
    have K3 : w3.heap[w.heap.size]? = some (.cells #[.int .i64 14, .int .i64 off, .int .i64 n, .string nm, .slice oa d.length oc] 57 (0, 0)) := by rw [hw3]; exact (Below.heap_setCell _ ⟨pb, 0, none⟩ _ _ (by show w.heap.size ≠ pb; omega)).trans K2
    obtain ⟨y0, g0⟩ := blk_cell (i := 0) HH.out.1.blk
    obtain ⟨z0, g5⟩ := blk_cell (i := 0) K3
    obtain ⟨z1, g6⟩ := blk_cell (i := 1) K3
    obtain ⟨z2, g7⟩ := blk_cell (i := 2) K3
    obtain ⟨z3, g8⟩ := blk_cell (i := 3) K3
    obtain ⟨z4, g9⟩ := blk_cell (i := 4) K3
    simp at y0 z0 z1 z2 z3 z4
    clear hw3 hbw K2 K3 x0 x1 x2 f0 f1 f2 e0 e1 e2 e3
    by_cases h1 : (D.length : Int) ≤ 64
    · have HX : Hid (changeB o ⟨14, off, n, nm, d⟩ = some ⟨D, o.keys, o.seq⟩) := by
        show changeB _ _ = _
        have h1' : D.length ≤ 64 := by omega
        rw [HC.out, if_pos h1']
      go_wp2
      go_region_with (go_at_call 84; refine (hlm _ _).mono ?_; rintro e w4 ⟨rfl, hb4⟩; have HH2 := Lib.hid (IsO.after HH.out ((Below.refl _ w3).drew.trans hb4)); clear hb4)
      all_goals
        go_wp2
        go_ret
        exact ChR.yes HX.out HH2.out.1 HH2.out.2
    · have HX : Hid (changeB o ⟨14, off, n, nm, d⟩ = none) := by
        show changeB _ _ = _
        have h1' : ¬ D.length ≤ 64 := by omega
        rw [HC.out, if_neg h1']
      go_wp2
      go_region_with (go_at_call 84; refine (hlm _ _).mono ?_; rintro e w4 ⟨rfl, hb4⟩; have HH2 := Lib.hid (IsO.after HH.out ((Below.refl _ w3).drew.trans hb4)); clear hb4)
      all_goals
        go_wp2
        go_ret
        exact ChR.no HX.out HH2.out.2
set_option maxRecDepth 100000 in
set_option maxHeartbeats 8000000 in
/-- the kinds that change nothing -/
theorem change_else (base pb : Nat) (dv kv : Value) (o : ObD) (k off n : Int) (nm : ByteArray) (oa : Option Addr) (ol oc : Nat) (d : List UInt8) (w : World) (hO : IsO base pb w dv kv o)
    (hk : k ≠ 5 ∧ k ≠ 6 ∧ k ≠ 7 ∧ k ≠ 8 ∧ k ≠ 9 ∧ k ≠ 10 ∧ k ≠ 11 ∧ k ≠ 12 ∧ k ≠ 14) :
    Calls Tryz.prog 67 #[.pointer (some ⟨pb, 0, none⟩), opV k off n nm oa ol oc] w (ChR base pb k (changeB o ⟨k, off, n, nm, d⟩) w) := by
  obtain ⟨k5, k6, k7, k8, k9, k10, k11, k12, k14⟩ := hk
  have HX : Hid (changeB o ⟨k, off, n, nm, d⟩ = some o) := by show changeB _ _ = _; simp [changeB, k5, k6, k7, k8, k9, k10, k11, k12, k14]
  obtain ⟨a5, b5⟩ := (kne k5).out
  obtain ⟨a6, b6⟩ := (kne k6).out
  obtain ⟨a7, b7⟩ := (kne k7).out
  obtain ⟨a8, b8⟩ := (kne k8).out
  obtain ⟨a9, b9⟩ := (kne k9).out
  obtain ⟨a10, b10⟩ := (kne k10).out
  obtain ⟨a11, b11⟩ := (kne k11).out
  obtain ⟨a12, b12⟩ := (kne k12).out
  obtain ⟨a14, b14⟩ := (kne k14).out
  have HO := Lib.hid hO
  clear hO k5 k6 k7 k8 k9 k10 k11 k12 k14
  unfold opV
  go_enter Tryz.func67, Tryz.ntmps67
  go_wp2
  go_ret
  exact ChR.yes HX.out (HO.out.ext (by ((repeat' (first | exact Below.refl _ _ | refine below_drewN ?_ _ | refine Below.drew ?_ | refine Below.alloc ?_ ?_ _ | refine Below.trans ?_ (Below.mono (by assumption) ?_))); all_goals (first | exact Nat.le_refl _ | exact Below.size (by assumption) | omega | (simp; done) | (simp; omega))))) (Fr.ext (by ((repeat' (first | exact Below.refl _ _ | refine below_drewN ?_ _ | refine Below.drew ?_ | refine Below.alloc ?_ ?_ _ | refine Below.trans ?_ (Below.mono (by assumption) ?_))); all_goals (first | exact Nat.le_refl _ | exact Below.size (by assumption) | omega | (simp; done) | (simp; omega)))))
end Go.Proofs.YtohfckkgmijlnaaGreatDoor
