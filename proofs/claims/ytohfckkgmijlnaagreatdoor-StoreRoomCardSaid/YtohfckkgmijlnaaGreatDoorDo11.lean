/- The walk of (*store.Store).Do. -/
import Derived.Test.YtohfckkgmijlnaaGreatDoorPR
namespace Go.Proofs.YtohfckkgmijlnaaGreatDoor
open Go.RowKit Go.Maps Go.WideShapes
attribute [local go_sem ↓] Go.wp_at_zero Go.wp_at_succ

theorem TDoOut.split {x : TDoR} {w w' : World} {e : Ending} (h : TDoOut x w e w') : ∃ a c u q, e = .returned (.tuple #[.agg #[.slice a x.o.data.length c, .slice u x.o.keys.length q, .int .i64 x.o.seq], .bool x.there, .int .i64 x.e]) ∧ Own8 w.heap.size w' (.slice a x.o.data.length c) (.slice u x.o.keys.length q) x.o ∧ Below w.heap.size w w' := by
  obtain ⟨dv, kv, rfl, h1, h2⟩ := h
  obtain ⟨⟨a4, c4, rfl⟩, ⟨u4, q4, rfl⟩⟩ := own8_shape h1
  exact ⟨a4, c4, u4, q4, rfl, h1, h2⟩
section
variable {s : StD} {t : TxD} {xo : ObD} {xe : Int} {xt : Bool}
theorem stw_bad (h : txDo (s.obj t.obj) (s.is t.obj) t = ⟨xo, xt, xe⟩) (he : xe ≠ 0) : stDo s t = (s, xe) := by
  have h1 : (txDo (s.obj t.obj) (s.is t.obj) t).e = xe := by rw [h]
  rw [stDo_bad (by rw [h1]; exact he), h1]
theorem stw_gone (h : txDo (s.obj t.obj) (s.is t.obj) t = ⟨xo, false, 0⟩) : stDo s t = (⟨s.room, delS t.obj s.l⟩, 0) := stDo_gone (by rw [h]) (by rw [h])
theorem stw_full (h : txDo (s.obj t.obj) (s.is t.obj) t = ⟨xo, true, 0⟩) (h2 : s.is t.obj = false) (h3 : s.room ≤ s.l.length) : stDo s t = (s, 110) := stDo_full (by rw [h]) (by rw [h]) h2 h3
theorem stw_put (h : txDo (s.obj t.obj) (s.is t.obj) t = ⟨xo, true, 0⟩) (h2 : ¬ (s.is t.obj = false ∧ s.room ≤ s.l.length)) : stDo s t = (⟨s.room, putS t.obj xo s.l⟩, 0) := by
  rw [stDo_put (by rw [h]) (by rw [h]) h2, h]
end
theorem belowN {B : Nat} {w w' : World} (h : Below B w w') (n : Nat) : Below B w (w'.drewN n) := ⟨h.os, h.tape, h.output, h.size, h.block⟩
theorem IsSt.turn {w w' : World} {p b : Nat} {s : StD} {l : List (ByteArray × ObD)} (h : IsSt w p b s) (hm : IsSm w' b l) (hf : Fr (fun k => k = b) w w') : IsSt w' p b ⟨s.room, l⟩ :=
  ⟨(hf.block p h.lt.1 fun e => by
    have e : p = b := e
    subst e
    exact h.map.no_cells _ _ _ h.box).trans h.box, hm⟩
set_option maxRecDepth 100000 in
set_option maxHeartbeats 4000000 in
theorem sdo_any (B : Nat → Prop) (p b : Nat) (s : StD) (t : TxD) (va : Value) (w : World) (hS : IsSt w p b s) (hok : StOk s) (h : SlE Enc.op B w va t.ops) (hop : ∀ op ∈ t.ops, op.data.length ≤ 50000) (hob : t.obj.size ≤ 1000000) (hE : ErrT w) :
    Calls Tryz.prog 13 #[.pointer (some ⟨p, 0, none⟩), .agg #[.string t.obj, va]] w fun e w' => e = .returned (.int .i64 (stDo s t).2) ∧ IsSt w' p b (stDo s t).1 ∧ Fr (fun k => k = b) w w' := by
  obtain ⟨hpl, hbl⟩ := hS.lt
  obtain ⟨v, hv, hlook⟩ := hS.map.look t.obj (by unfold maxLen; omega)
  replace hv : ObV (fun _ => True) w v (s.obj t.obj) := hv
  replace hlook : ∀ W : World, W.heap[b]? = w.heap[b]? → (Instr.lookup 65 (.map (some b)) (.string t.obj) true).run Tryz.prog W = .ok (.tuple #[v, .bool (s.is t.obj)]) W := hlook
  have hokl := okl_of (hok.obj t.obj)
  obtain ⟨dv, kv, rfl, hvd, hvk⟩ := hv
  obtain ⟨da, dc, rfl⟩ := hvd.shape
  obtain ⟨ka, kc, rfl⟩ := hvk.shape
  have HV : Hid (ObV (fun _ => True) w (.agg #[.slice da (s.obj t.obj).data.length dc, .slice ka (s.obj t.obj).keys.length kc, .int .i64 (s.obj t.obj).seq]) (s.obj t.obj)) := Lib.hid ⟨_, _, rfl, hvd, hvk⟩
  obtain ⟨ta, tc, rfl⟩ := h.shape
  have HT := Lib.hid h
  have HOP := Lib.hid hop
  have HER := Lib.hid hE
  have HK := Lib.hid hokl
  have HL := Lib.hid hlook
  have HS := Lib.hid hS
  have HOK := Lib.hid hok
  clear hvd hvk hokl hlook hS hok h hop hE
  obtain ⟨o, ho⟩ : ∃ o, o = s.obj t.obj := ⟨_, rfl⟩
  obtain ⟨is, his⟩ : ∃ is, is = s.is t.obj := ⟨_, rfl⟩
  have HO := Lib.hid ho
  have HI := Lib.hid his
  rw [← ho] at HV HK HL
  rw [← his] at HL
  clear ho his
  go_enter Tryz.func13, Tryz.ntmps13
  go_upto_region 3 with fail
  obtain ⟨w1, hw1⟩ : ∃ w1, w1 = w.alloc (.cells #[.string t.obj, .slice ta t.ops.length tc] 33) := ⟨_, rfl⟩
  rw [← hw1]
  have hb1 : Below w.heap.size w w1 := by rw [hw1]; ((repeat' (first | exact Below.refl _ _ | refine below_drewN ?_ _ | refine Below.drew ?_ | refine Below.alloc ?_ ?_ _ | refine Below.trans ?_ (Below.mono (by assumption) ?_))); all_goals (first | exact Nat.le_refl _ | exact Below.size (by assumption) | omega | (simp; done) | (simp; omega)))
  have hs1 : w1.heap.size = w.heap.size + 1 := by rw [hw1]; simp
  have R1 : w1.heap[w.heap.size]? = some (.cells #[.string t.obj, .slice ta t.ops.length tc] 33 (0, 0)) := by rw [hw1]; exact heap_alloc_new _ _
  obtain ⟨t0, e0⟩ := blk_cell (i := 0) R1
  simp at t0
  have P1 := (hb1.block p hpl).trans HS.out.box
  obtain ⟨x1, -⟩ := blk_cell (i := 1) P1
  simp at x1
  obtain ⟨w2, hw2⟩ : ∃ w2, w2 = (w1.alloc (.cells #[.slice none 0 0, .slice none 0 0, .int .i64 0] 41)).drew := ⟨_, rfl⟩
  have hb2 : Below w1.heap.size w1 w2 := by rw [hw2]; exact ((Below.refl _ w1).alloc (Nat.le_refl _) _).drew
  have hl1 := HL.out w2 ((hb2.block b (by have := hb1.size; omega)).trans (hb1.block b hbl))
  have x2 := cellExt hb2 x1
  have t2 := cellExt hb2 t0
  rw [hw2] at hl1 x2 t2
  have hl0 := HL.out w1.drew (hb1.block b hbl)
  obtain ⟨t1, -⟩ := blk_cell (i := 1) R1
  simp at t1
  have u0 : (w1.alloc (.cells #[.slice da o.data.length dc, .slice ka o.keys.length kc, .int .i64 o.seq] 41)).cell? ⟨w.heap.size, 0, none⟩ = some (.string t.obj) := cellExt ((Below.refl _ w1).alloc (Nat.le_refl _) _) t0
  have u1 : (w1.alloc (.cells #[.slice da o.data.length dc, .slice ka o.keys.length kc, .int .i64 o.seq] 41)).cell? ⟨w.heap.size, 1, none⟩ = some (.slice ta t.ops.length tc) := cellExt ((Below.refl _ w1).alloc (Nat.le_refl _) _) t1
  clear t1
  have HR := Lib.hid R1
  have HW := Lib.hid hb1
  have HS1 := Lib.hid hs1
  clear hw1 hb1 R1 P1 hs1 hb2 hw2 w2
  have HOB := Lib.hid hob
  clear hob
  go_region
  all_goals
    obtain ⟨w3, hw3⟩ : ∃ w3, w3 = (w1.alloc (.cells #[.slice da o.data.length dc, .slice ka o.keys.length kc, .int .i64 o.seq] 41)).drew := ⟨_, rfl⟩
    rw [← hw3]
    have hb3 : Below w1.heap.size w1 w3 := by rw [hw3]; exact ((Below.refl _ w1).alloc (Nat.le_refl _) _).drew
    have hs3 : w3.heap.size = w.heap.size + 2 := by rw [hw3, World.drew, World.size_alloc, HS1.out]
    have R3 : w3.heap[w1.heap.size]? = some (.cells #[.slice da o.data.length dc, .slice ka o.keys.length kc, .int .i64 o.seq] 41 (0, 0)) := by rw [hw3]; exact heap_alloc_new _ _
    have T3 := dblk hb3 HR.out
    have HW3 := Lib.hid (dcall HW.out hb3)
    have HT3 := Lib.hid T3
    clear hw3 hb3 hl0 hl1 x2 t2 x1 t0 e0 HR HW u0 u1
    obtain ⟨y0, g0⟩ := blk_cell (i := 0) R3
    obtain ⟨y1, g1⟩ := blk_cell (i := 1) R3
    obtain ⟨y2, g2⟩ := blk_cell (i := 2) R3
    obtain ⟨z0, k0⟩ := blk_cell (i := 0) T3
    obtain ⟨z1, k1⟩ := blk_cell (i := 1) T3
    simp at y0 y1 y2 z0 z1
    clear R3 T3 g0 g1 g2 k0 k1
    obtain ⟨X, hX⟩ : ∃ X, X = txDo o is t := ⟨_, rfl⟩
    obtain ⟨xo, xt, xe⟩ := X
    have HX := Lib.hid hX
    have HXX : Hid (txDo (s.obj t.obj) (s.is t.obj) t = ⟨xo, xt, xe⟩) := Lib.hid (by rw [← HO.out, ← HI.out]; exact hX.symm)
    clear hX
    try go_wp2_with fail
    refine (tdo_any _ B _ _ o is t _ (HV.out.ext HW3.out) HK.out (HT.out.ext HW3.out) HOP.out (HER.out.ext HW3.out)).mono ?_
    rw [← HX.out]
    intro e w4 h4
    obtain ⟨a, c, u, q, rfl, ho4, hb4⟩ := h4.split
    simp only at ho4
    have HO4 := Lib.hid ho4
    have HW4 := Lib.hid (dcall HW3.out hb4)
    have HT4 := Lib.hid (dblk hb4 HT3.out)
    clear h4 ho4 hb4 HT3 HW3 y0 y1 y2 z0 z1 HV HT HER HOP HK
    go_upto_region 5 with fail
    obtain ⟨w5, hw5⟩ : ∃ w5, w5 = w4.alloc (.cells #[.slice a xo.data.length c, .slice u xo.keys.length q, .int .i64 xo.seq] 41) := ⟨_, rfl⟩
    rw [← hw5]
    have hb5 : Below w4.heap.size w4 w5 := by rw [hw5]; exact (Below.refl _ w4).alloc (Nat.le_refl _) _
    have R5 : w5.heap[w4.heap.size]? = some (.cells #[.slice a xo.data.length c, .slice u xo.keys.length q, .int .i64 xo.seq] 41 (0, 0)) := by rw [hw5]; exact heap_alloc_new _ _
    have T5 := dblk hb5 HT4.out
    have HO5 := Lib.hid ((HO4.out.obv.weak (fun _ _ _ => trivial)).ext hb5 : ObV (fun _ => True) w5 _ xo)
    have HW5 := Lib.hid (dcall HW4.out hb5)
    have HS5 := Lib.hid (HS.out.ext HW5.out)
    have HSM : Hid (IsSm w5.drew b s.l) := Lib.hid (HS5.out.map.ext (Below.refl _ _).drew)
    obtain ⟨q0, q1⟩ := HS5.out.cells
    obtain ⟨y0, g0⟩ := blk_cell (i := 0) R5
    obtain ⟨y1, g1⟩ := blk_cell (i := 1) R5
    obtain ⟨y2, g2⟩ := blk_cell (i := 2) R5
    obtain ⟨z0, k0⟩ := blk_cell (i := 0) T5
    simp at y0 y1 y2 z0
    clear g0 g1 g2 k0 hw5 hb5 R5 T5 HO4 HT4 HW4
    by_cases he : xe = 0
    · subst he
      cases xt with
      | false =>
        go_upto_region 8 with fail
        obtain ⟨w6, hd, hm, hf, -⟩ := HSM.out.del t.obj (by have := HOB.out; unfold maxLen; omega) 0
        have HM := Lib.hid hm
        have HF := Lib.hid hf
        clear hm hf
        go_region
        go_wp2
        go_ret
        rw [stw_gone HXX.out]
        exact ⟨rfl, (HS5.out.ext (Below.refl _ _).drew).turn HM.out HF.out, (Fr.ext HW5.out.drew).trans HF.out fun k _ h => h⟩
      | true =>
        have HLL := Lib.hid (Nat.le_trans HOK.out.len HOK.out.room)
        cases is with
        | true =>
          go_upto_region 10 with fail
          go_quiet (fail)
          go_upto_region 12 with fail
          obtain ⟨w6, hd, hm, hf, -⟩ := ((HS5.out.map.ext (belowN (Below.refl _ _) _) : IsSm (w5.drewN (nq + 1)) b s.l)).put t.obj (by have := HOB.out; unfold maxLen; omega) (by have := HLL.out; unfold maxLen; omega) (HO5.out.ext (belowN (Below.refl _ _) _))
          have HM := Lib.hid hm
          have HF := Lib.hid hf
          clear hm hf
          go_region
          go_wp2
          go_ret
          rw [stw_put HXX.out (by rw [← HI.out]; simp)]
          exact ⟨rfl, (HS5.out.ext (belowN (Below.refl _ _) _)).turn HM.out HF.out, (Fr.ext (belowN HW5.out _)).trans HF.out fun k _ h => h⟩
        | false =>
          have HN := fun n => HS5.out.map.length 3 (w5.drewN n) rfl
          by_cases hr : s.room ≤ s.l.length
          · have HR := Lib.hid hr
            have hr2 : ((s.room : Nat) : Int) ≤ ((s.l.length : Nat) : Int) := by omega
            clear hr
            go_upto_region 10 with fail
            go_quiet (fail)
            go_wp2
            go_ret
            rw [stw_full HXX.out HI.out.symm HR.out]
            exact ⟨rfl, HS5.out.ext (belowN (Below.refl _ _) _), Fr.ext (belowN HW5.out _)⟩
          · have HR := Lib.hid hr
            have hr2 : ((s.l.length : Nat) : Int) < ((s.room : Nat) : Int) := by omega
            clear hr
            go_upto_region 10 with fail
            go_quiet (fail)
            go_upto_region 12 with fail
            obtain ⟨w6, hd, hm, hf, -⟩ := ((HS5.out.map.ext (belowN (Below.refl _ _) _) : IsSm (w5.drewN (nq + 1)) b s.l)).put t.obj (by have := HOB.out; unfold maxLen; omega) (by have := HLL.out; unfold maxLen; omega) (HO5.out.ext (belowN (Below.refl _ _) _))
            have HM := Lib.hid hm
            have HF := Lib.hid hf
            clear hm hf
            go_region
            go_wp2
            go_ret
            rw [stw_put HXX.out (fun h => HR.out h.2)]
            exact ⟨rfl, (HS5.out.ext (belowN (Below.refl _ _) _)).turn HM.out HF.out, (Fr.ext (belowN HW5.out _)).trans HF.out fun k _ h => h⟩
    · have HE := Lib.hid he
      go_wp2
      go_ret
      rw [stw_bad HXX.out HE.out]
      exact ⟨rfl, HS5.out, Fr.ext HW5.out⟩
set_option maxRecDepth 100000 in
theorem sdo_nil (ob : ByteArray) (va : Value) (w : World) (h : ∃ a n c, va = .slice a n c) : Calls Tryz.prog 13 #[.pointer none, .agg #[.string ob, va]] w fun e w' => e = .returned (.int .i64 1) ∧ Below w.heap.size w w' := by
  obtain ⟨a, n, c, rfl⟩ := h
  go_enter Tryz.func13, Tryz.ntmps13
  go_wp2
  go_ret
  exact ⟨rfl, (Below.refl _ _).alloc (Nat.le_refl _) _⟩
end Go.Proofs.YtohfckkgmijlnaaGreatDoor
