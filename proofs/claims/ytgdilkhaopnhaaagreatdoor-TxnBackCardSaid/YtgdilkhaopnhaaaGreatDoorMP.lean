/- The walk of terrazzoref09.Unpack. txn.Pack at any transaction; the walk of terrazzoref09.Pack. The walk of terrazzoref09.Same, at data that are the same. What is packed is unpacked; what is unpacked is packed again; one byte fewer, one more. No program is named. -/
import Derived.Test.YtgdilkhaopnhaaaGreatDoorMO
import Derived.Test.YtgdilkhaopnhaaaGreatDoorMI
import Derived.Test.YtgdilkhaopnhaaaGreatDoorMK
import Derived.Test.YtgdilkhaopnhaaaGreatDoorRowS
import Derived.Test.YtgdilkhaopnhaaaGreatDoorTpack
import Derived.Test.YtgdilkhaopnhaaaGreatDoorSam8
namespace Go.Proofs.YtgdilkhaopnhaaaGreatDoor
open Go.RowKit Go.WideShapes

def RunQ (x : TxD × Int) (w : World) (e : Ending) (w' : World) : Prop := ∃ va, e = .returned (.tuple #[.agg #[.string x.1.obj, va], .int .i64 x.2]) ∧ SlE Enc.op (fun _ => True) w' va x.1.ops ∧ Below w.heap.size w w'
theorem IsRq.set {A : Nat → Prop} {w : World} {p q j : Nat} {r : Rd} {x : Value} (h : IsRq A w p r) (hq : q ≠ p) (hA : ∀ b, A b → b ≠ q) : IsRq A (w.setCell ⟨q, j, none⟩ x) p r :=
  h.same (B := fun b => b ≠ q) ⟨by simp [World.setCell], fun b hb _ => Below.heap_setCell _ _ _ _ hb⟩ (fun e => hq e.symm) hA
theorem EnRow.same2 {α : Type} {E : Enc α} {t : TypeId} {A : Nat → Prop} {base : Nat} {w w' : World} {v : Value} {l : List α} (h : EnRow E t A base w v l) (hA : Same A w w') (hs : Same (fun b => base ≤ b ∧ b < w.heap.size) w w') : EnRow E t A base w' v l := by
  obtain ⟨cs, h1, h2, h3⟩ := h.ex
  refine ⟨⟨cs, h1, fun i x c hi hc => E.mono (h2 i x c hi hc) hA, ?_⟩⟩
  refine ⟨h3.1, h3.2.imp id ?_⟩
  rintro ⟨g, cap, cur, rfl, h4, h5, h6⟩
  exact ⟨g, cap, cur, rfl, h4, by rw [hs.block g ⟨h4, (Array.getElem?_eq_some_iff.1 h5).1⟩ (Array.getElem?_eq_some_iff.1 h5).1]; exact h5, h6⟩
theorem EnRow.lt {α : Type} {E : Enc α} {t : TypeId} {A : Nat → Prop} {base : Nat} {w : World} {v : Value} {l : List α} (h : EnRow E t A base w v l) : ∀ g, v.ownBlock = some g → base ≤ g ∧ g < w.heap.size := by
  obtain ⟨cs, h1, h2, h3⟩ := h.ex
  exact fun g hg => h3.lt g hg
theorem RunQ.ok {l : List UInt8} {y : List OpD × Rd} {va : Value} {w w' : World} (hy : unpY l = y) (h : y.2.fin.e = 0) (hE : txE ⟨⟨(unpHead l).1.toArray⟩, y.1⟩ = 0) (hv : SlE Enc.op (fun _ => True) w' va y.1) (hb : Below w.heap.size w w') :
    RunQ (txUn l) w (.returned (.tuple #[.agg #[.string ⟨(unpHead l).1.toArray⟩, va], .int .i64 0])) w' := by
  rw [txUn_ok ((unpE_chk hy h).trans hE)]
  refine ⟨va, rfl, ?_, hb⟩
  show SlE _ _ _ _ (unpY l).1
  rw [hy]
  exact hv
theorem RunQ.bad {l : List UInt8} {E : Int} {w w' : World} (h : unpE l = E) (hE : E ≠ 0) (hb : Below w.heap.size w w') : RunQ (txUn l) w (.returned (.tuple #[.agg #[.string ⟨#[]⟩, .slice none 0 0], .int .i64 E])) w' := by
  rw [txUn_bad (by rw [h]; exact hE), h]
  exact ⟨_, rfl, SlE.nil _ _ _, hb⟩
theorem three_new (w : World) (a b c : Obj) : (((w.alloc a).alloc b).alloc c).heap[w.heap.size]? = (w.alloc a).heap[w.heap.size]? ∧ (((w.alloc a).alloc b).alloc c).heap[w.heap.size + 1]? = ((w.alloc a).alloc b).heap[w.heap.size + 1]? :=
  ⟨((Below.heap_alloc _ _ _ (by simp; omega)).trans (Below.heap_alloc _ _ _ (by simp))), Below.heap_alloc _ _ _ (by simp)⟩
set_option maxRecDepth 100000 in
set_option maxHeartbeats 16000000 in
theorem runpack_any (A : Nat → Prop) (v : Value) (l : List UInt8) (w : World) (hv : RB A w v l) (hl : l.length ≤ 100000) : Calls Tryz.prog 17 #[v] w (RunQ (txUn l) w) := by
  obtain ⟨a0, c0, rfl⟩ := hv.shape
  have HV : Hid (RB (fun b => b < w.heap.size) w (.slice a0 l.length c0) l) := Lib.hid ((SlA.cut hv).weak fun b hb => hb.2)
  obtain ⟨i0, hi, hz0, hz1, hz2⟩ := info_parts infoOpT
  clear hv
  go_enter Tryz.func17, Tryz.ntmps17
  go_wp2_with fail
  obtain ⟨w0, hw0⟩ : ∃ w0, w0 = ((w.alloc (.cells #[.string ⟨#[]⟩, .slice none 0 0] 28)).alloc (.cells #[.slice a0 l.length c0, .int .i64 0] 75)).alloc (.cells #[.string ⟨#[]⟩, .slice none 0 0] 28) := ⟨_, rfl⟩
  rw [← hw0]
  have hb0 : Below w.heap.size w w0 := by rw [hw0]; ((repeat' (first | exact Below.refl _ _ | refine below_drewN ?_ _ | refine Below.drew ?_ | refine Below.alloc ?_ ?_ _ | refine Below.trans ?_ (Below.mono (by assumption) ?_))); all_goals (first | exact Nat.le_refl _ | exact Below.size (by assumption) | omega | (simp; done) | (simp; omega)))
  have RR := Lib.hid (show w0.heap[w.heap.size]? = some (.cells #[.string ⟨#[]⟩, .slice none 0 0] 28 (0, 0)) from by rw [hw0]; exact (three_new _ _ _ _).1.trans (heap_alloc_new _ _))
  have RQ : Hid (w0.heap[w.heap.size + 1]? = some (.cells #[.slice a0 l.length c0, .int .i64 ((0 : Nat) : Int)] 75 (0, 0))) := Lib.hid (by rw [hw0]; refine (three_new _ _ _ _).2.trans ?_; have := heap_alloc_new (w.alloc (.cells #[.string ⟨#[]⟩, .slice none 0 0] 28)) (.cells #[.slice a0 l.length c0, .int .i64 0] 75); simpa using this)
  have T := Lib.hid (show w0.heap[w.heap.size + 1 + 1]? = some (.cells #[.string ⟨#[]⟩, .slice none 0 0] 28 (0, 0)) from by rw [hw0]; have := heap_alloc_new ((w.alloc (.cells #[.string ⟨#[]⟩, .slice none 0 0] 28)).alloc (.cells #[.slice a0 l.length c0, .int .i64 0] 75)) (.cells #[.string ⟨#[]⟩, .slice none 0 0] 28); simpa using this)
  have hs0 : w.heap.size + 1 + 1 < w0.heap.size := by rw [hw0]; simp
  have RD : Hid (IsRq (fun b => b < w.heap.size) w0 (w.heap.size + 1) ⟨l, 0⟩) := Lib.hid ⟨⟨_, RQ.out, HV.out.ext hb0⟩, by omega⟩
  have HB := Lib.hid hb0
  have HSM : Hid (Rd.small ⟨l, 0⟩) := Lib.hid ⟨hl, (by show (0 : Nat) < 1000; decide)⟩
  clear hw0 hb0 HV RQ
  obtain ⟨p, hp⟩ : ∃ p, p = w.heap.size + 1 := ⟨_, rfl⟩
  rw [← hp] at RD T hs0 ⊢
  obtain ⟨pt, hpt⟩ : ∃ x, x = p + 1 := ⟨_, rfl⟩
  rw [← hpt] at T hs0 ⊢
  have hp1 : w.heap.size < p := by omega
  have hp2 : p < pt := by omega
  clear hp hpt
  refine (qblob_any _ p 12 ⟨l, 0⟩ _ RD.out (by omega) HSM.out.len HSM.out.err (HSM.out.num 2).err).mono ?_
  rintro e w2 ⟨vb, rfl, hvb, hr2, hf2⟩
  have HH : Hid (unpHead l = (⟨l, 0⟩ : Rd).blob 12) := Lib.hid rfl
  have HSM2 := Lib.hid (HSM.out.blob 12)
  rw [← HH.out] at hvb hr2 HSM2
  obtain ⟨ab, cb, rfl⟩ := hvb.shape
  have s2 := cnv_bytes hvb w2 (Below.refl _ _)
  have RD2 := Lib.hid hr2
  have RR2 := Lib.hid ((hf2.block _ (by omega) (by omega)).trans RR.out)
  have T2 := Lib.hid ((hf2.block _ (by omega) (by omega)).trans T.out)
  have HB2 := Lib.hid (HB.out.trans (hf2.below HB.out.size fun j hj h => by omega))
  have hs2 := hf2.size
  obtain ⟨y0, z0⟩ := blk_cell (i := 0) T2.out
  obtain ⟨y1, z1⟩ := blk_cell (i := 1) T2.out
  simp at y0 y1
  clear hvb hr2 hf2 RD RR T HB HSM HH
  go_upto_region 4 with fail
  obtain ⟨w3, hw3⟩ : ∃ w3, w3 = w2.setCell ⟨pt, 0, none⟩ (.string ⟨(unpHead l).1.toArray⟩) := ⟨_, rfl⟩
  rw [← hw3]
  have T3 := Lib.hid (show w3.heap[pt]? = some (.cells #[.string ⟨(unpHead l).1.toArray⟩, .slice none 0 0] 28 (0, 0)) from by rw [hw3]; exact setCell_blk T2.out)
  have RD3 : Hid (IsRq (fun b => b < w.heap.size) w3 p (unpHead l).2) := Lib.hid (by rw [hw3]; exact IsRq.set RD2.out (by omega) (fun b hb => by omega))
  have RR3 := Lib.hid (show w3.heap[w.heap.size]? = some (.cells #[.string ⟨#[]⟩, .slice none 0 0] 28 (0, 0)) from by rw [hw3]; exact (Below.heap_setCell _ _ _ _ (show w.heap.size ≠ pt by omega)).trans RR2.out)
  have HB3 := Lib.hid (show Below w.heap.size w w3 from by rw [hw3]; exact HB2.out.setCell (show w.heap.size ≤ pt by omega) _)
  have hs3 : pt < w3.heap.size := by rw [hw3]; simp [World.setCell]; omega
  clear hw3 RD2 RR2 T2 HB2 s2 y0 z0 y1 z1
  go_wp2_with fail
  refine (qnum_any _ p 1 _ _ RD3.out (by omega) (by omega) HSM2.out.len HSM2.out.err).mono ?_
  rintro e w4 ⟨rfl, hr4, hf4⟩
  have HN : Hid (unpN l = (unpHead l).2.num 1) := Lib.hid rfl
  have HSM4 := Lib.hid (HSM2.out.num 1)
  have hnl := Rd.num_lt (unpHead l).2 1
  rw [← HN.out] at hr4 HSM4 hnl ⊢
  have RD4 := Lib.hid hr4
  have RR4 := Lib.hid ((hf4.block _ (by omega) (by omega)).trans RR3.out)
  have T4 := Lib.hid ((hf4.block _ (by omega) (by omega)).trans T3.out)
  have HB4 := Lib.hid (HB3.out.trans (hf4.below HB3.out.size fun j hj h => by omega))
  have hs4 := hf4.size
  have HC : Hid (unpC l = if 12 < (unpN l).1 then (unpN l).2.fail 11 else (unpN l).2) := Lib.hid rfl
  have HY : Hid (unpY l = unpOps (unpN l).1 (unpC l)) := Lib.hid rfl
  clear hr4 hf4 RD3 RR3 T3 HB3 HN HSM2
  generalize unpC l = C at *
  generalize unpN l = N at *
  obtain ⟨n, rn⟩ := N
  simp only at HC HY HSM4 RD4 hnl ⊢
  go_upto_if 20 with fail
  go_cut [6] (fun s6 wx => s6 = .int .i64 (n : Nat) ∧ IsRq (fun b => b < w.heap.size) wx p C ∧ C.small ∧ wx.heap[w.heap.size]? = some (.cells #[.string ⟨#[]⟩, .slice none 0 0] 28 (0, 0)) ∧ wx.heap[pt]? = some (.cells #[.string ⟨(unpHead l).1.toArray⟩, .slice none 0 0] 28 (0, 0)) ∧ Below w.heap.size w wx)
  case first =>
    by_cases h12 : 12 < n
    · have h12' : (12 : Int) < n := by omega
      have HCC : Hid (C = rn.fail 11) := Lib.hid (by rw [HC.out, if_pos h12])
      clear h12 HC
      go_wp2_with fail
      refine (qfail_any _ p rn 11 _ RD4.out (by omega) HSM4.out.err).mono ?_
      rintro e w5 ⟨rfl, hr5, hf5⟩
      go_wp2_with fail
      go_meet
      exact ⟨rfl, by rw [HCC.out]; exact hr5, by rw [HCC.out]; exact HSM4.out.fail (by decide), (hf5.block _ (by omega) (by omega)).trans RR4.out, (hf5.block _ (by omega) (by omega)).trans T4.out, HB4.out.trans (hf5.below HB4.out.size fun j hj h => by omega)⟩
    · have h12' : ¬ (12 : Int) < n := by omega
      have HCC : Hid (C = rn) := Lib.hid (by rw [HC.out, if_neg h12])
      clear h12 HC
      go_wp2_with fail
      go_meet
      exact ⟨rfl, by rw [HCC.out]; exact RD4.out, by rw [HCC.out]; exact HSM4.out, RR4.out, T4.out, HB4.out⟩
  case rest =>
    obtain ⟨rfl, hR, hS, hRR, hT, hB⟩ := hcut
    have HS0 := Lib.hid hS
    have RD0 := Lib.hid hR
    have RR0 := Lib.hid hRR
    have T0 := Lib.hid hT
    have HB0 := Lib.hid hB
    have hpc : pt < wc.heap.size := (Array.getElem?_eq_some_iff.1 hT).1
    clear hR hS hRR hT hB RD4 RR4 T4 HB4 HSM4 HC
    go_wp2
    go_loopw [7] (fun q7 wr => ∃ k : Nat, k ≤ n ∧ q7 = .int .i64 k ∧ ∃ (r : Rd) (acc : List OpD) (va : Value), IsRq (fun b => b < w.heap.size) wr p r ∧ r.small ∧ wr.heap[w.heap.size]? = some (.cells #[.string ⟨#[]⟩, .slice none 0 0] 28 (0, 0)) ∧
      wr.heap[pt]? = some (.cells #[.string ⟨(unpHead l).1.toArray⟩, va] 28 (0, 0)) ∧ EnRow Enc.op 43 (fun b => b < w.heap.size) (pt + 1) wr va acc ∧ acc.length ≤ k ∧ unpY l = (acc ++ (unpOps (n - k) r).1, (unpOps (n - k) r).2) ∧ Below w.heap.size w wr) (fun q7 _ => n - (intOf q7).toNat)
    case atStart => exact ⟨0, Nat.zero_le _, rfl, C, [], _, RD0.out, HS0.out, RR0.out, T0.out, EnRow.nil _ _ _ _ _, Nat.zero_le _, by rw [HY.out]; rfl, HB0.out⟩
    case round =>
      obtain ⟨k, hk, rfl, r, acc, va, hR, hS, hRR, hT, hE, hal, hY, hB⟩ := hrel
      obtain ⟨ta, tc, rfl⟩ := hE.shape
      obtain ⟨vr, hbr, -⟩ := hR.ex
      obtain ⟨e0, g0⟩ := blk_cell (i := 0) hbr
      obtain ⟨e1, g1⟩ := blk_cell (i := 1) hbr
      simp at e0 e1
      have HS := Lib.hid hS
      have RD := Lib.hid hR
      have RR := Lib.hid hRR
      have T := Lib.hid hT
      have HE := Lib.hid hE
      have HYY := Lib.hid hY
      have HB := Lib.hid hB
      have hpr : pt < wr.heap.size := (Array.getElem?_eq_some_iff.1 hT).1
      clear hR hS hRR hT hE hY hB HS0 RD0 RR0 T0 HB0 HY hbr
      by_cases hlt : k < n
      · by_cases h0 : r.e = 0
        · have H0 := Lib.hid h0
          have t1 : ((r.e : Int) == 0) = true := by simp [h0]
          clear h0
          go_upto_region 11 with fail
          obtain ⟨wy, hwy⟩ : ∃ wy, wy = wr.alloc (.cells #[.int .i64 0, .int .i64 0, .int .i64 0, .string ⟨#[]⟩, .slice none 0 0] 43) := ⟨_, rfl⟩
          rw [← hwy]
          have hby : Below wr.heap.size wr wy := by rw [hwy]; ((repeat' (first | exact Below.refl _ _ | refine below_drewN ?_ _ | refine Below.drew ?_ | refine Below.alloc ?_ ?_ _ | refine Below.trans ?_ (Below.mono (by assumption) ?_))); all_goals (first | exact Nat.le_refl _ | exact Below.size (by assumption) | omega | (simp; done) | (simp; omega)))
          have OP := Lib.hid (show wy.heap[wr.heap.size]? = some (.cells #[.int .i64 0, .int .i64 0, .int .i64 0, .string ⟨#[]⟩, .slice none 0 0] 43 (0, 0)) from by rw [hwy]; exact heap_alloc_new _ _)
          have RDb : Hid (IsRq (fun b => b < w.heap.size) wy p r) := Lib.hid (RD.out.ext hby)
          have HF : Hid (Fr (fun k => k = p) wr wy) := Lib.hid (Fr.ext hby)
          have hpl : wr.heap.size < wy.heap.size := by rw [hwy]; simp
          have HU : Hid (unpOp r = (⟨(r.num 1).1, ((r.num 1).2.num 6).1, (((r.num 1).2.num 6).2.num 6).1, ⟨((((r.num 1).2.num 6).2.num 6).2.blob 12).1.toArray⟩, (((((r.num 1).2.num 6).2.num 6).2.blob 12).2.blob 2048).1⟩, (((((r.num 1).2.num 6).2.num 6).2.blob 12).2.blob 2048).2)) := Lib.hid rfl
          clear hwy hby RD e0 g0 e1 g1
          obtain ⟨po, hpo⟩ : ∃ po, po = wr.heap.size := ⟨_, rfl⟩
          have HPO := Lib.hid hpo
          rw [← hpo] at OP hpl hpr ⊢
          clear hpo
          have HSM := HS
          obtain ⟨y0, g0⟩ := blk_cell (i := 0) (OP.out)
          obtain ⟨y1, g1⟩ := blk_cell (i := 1) (OP.out)
          obtain ⟨y2, g2⟩ := blk_cell (i := 2) (OP.out)
          obtain ⟨y3, g3⟩ := blk_cell (i := 3) (OP.out)
          obtain ⟨y4, g4⟩ := blk_cell (i := 4) (OP.out)
          simp at y0 y1 y2 y3 y4
          go_wp2_with fail
          refine (qnum_any _ p 1 r _ RDb.out (by omega) (by omega) HSM.out.len HSM.out.err).mono ?_
          rintro e wa0 ⟨rfl, hr, hf⟩
          have HSM0 := Lib.hid (HSM.out.num 1)
          generalize r.num 1 = X at *
          obtain ⟨x0, r0⟩ := X
          simp only at hr HSM0 HU ⊢
          have OP0 := Lib.hid ((hf.block po (by omega) (by omega)).trans OP.out)
          have HF0 := Lib.hid (HF.out.trans hf fun _ _ h => h)
          have RDa0 := Lib.hid hr
          have hpl0 : po < wa0.heap.size := by have := hf.size; omega
          clear hr hf OP HF RDb HSM y0 g0 y1 g1 y2 g2 y3 g3 y4 g4
          have HSM := HSM0
          obtain ⟨y0, g0⟩ := blk_cell (i := 0) (OP0.out)
          obtain ⟨y1, g1⟩ := blk_cell (i := 1) (OP0.out)
          obtain ⟨y2, g2⟩ := blk_cell (i := 2) (OP0.out)
          obtain ⟨y3, g3⟩ := blk_cell (i := 3) (OP0.out)
          obtain ⟨y4, g4⟩ := blk_cell (i := 4) (OP0.out)
          simp at y0 y1 y2 y3 y4
          go_upto_region 12 with fail
          obtain ⟨wb0, hwz⟩ : ∃ wz, wz = wa0.setCell ⟨po, 0, none⟩ (.int .i64 (x0 : Nat)) := ⟨_, rfl⟩
          rw [← hwz]
          have OP := Lib.hid (show wb0.heap[po]? = some (.cells #[.int .i64 (x0 : Nat), .int .i64 0, .int .i64 0, .string ⟨#[]⟩, .slice none 0 0] 43 (0, 0)) from by rw [hwz]; exact set5_blk0 OP0.out)
          have HF : Hid (Fr (fun k => k = p) wr wb0) := Lib.hid (by rw [hwz]; exact HF0.out.setCell (a := ⟨po, 0, none⟩) (fun h => absurd h (by have := HPO.out; simp only; omega)) _)
          have RDb : Hid (IsRq (fun b => b < w.heap.size) wb0 p r0) := Lib.hid (by rw [hwz]; exact IsRq.set RDa0.out (by omega) (fun b hb => by omega))
          have hpl : po < wb0.heap.size := by rw [hwz]; simpa [World.setCell] using hpl0
          clear hwz OP0 HF0 RDa0 hpl0 y0 g0 y1 g1 y2 g2 y3 g3 y4 g4
          obtain ⟨y0, g0⟩ := blk_cell (i := 0) (OP.out)
          obtain ⟨y1, g1⟩ := blk_cell (i := 1) (OP.out)
          obtain ⟨y2, g2⟩ := blk_cell (i := 2) (OP.out)
          obtain ⟨y3, g3⟩ := blk_cell (i := 3) (OP.out)
          obtain ⟨y4, g4⟩ := blk_cell (i := 4) (OP.out)
          simp at y0 y1 y2 y3 y4
          go_wp2_with fail
          refine (qnum_any _ p 6 r0 _ RDb.out (by omega) (by omega) HSM.out.len HSM.out.err).mono ?_
          rintro e wa1 ⟨rfl, hr, hf⟩
          have HSM1 := Lib.hid (HSM.out.num 6)
          generalize r0.num 6 = X at *
          obtain ⟨x1, r1⟩ := X
          simp only at hr HSM1 HU ⊢
          have OP1 := Lib.hid ((hf.block po (by omega) (by omega)).trans OP.out)
          have HF1 := Lib.hid (HF.out.trans hf fun _ _ h => h)
          have RDa1 := Lib.hid hr
          have hpl1 : po < wa1.heap.size := by have := hf.size; omega
          clear hr hf OP HF RDb HSM y0 g0 y1 g1 y2 g2 y3 g3 y4 g4
          have HSM := HSM1
          obtain ⟨y0, g0⟩ := blk_cell (i := 0) (OP1.out)
          obtain ⟨y1, g1⟩ := blk_cell (i := 1) (OP1.out)
          obtain ⟨y2, g2⟩ := blk_cell (i := 2) (OP1.out)
          obtain ⟨y3, g3⟩ := blk_cell (i := 3) (OP1.out)
          obtain ⟨y4, g4⟩ := blk_cell (i := 4) (OP1.out)
          simp at y0 y1 y2 y3 y4
          go_upto_region 13 with fail
          obtain ⟨wb1, hwz⟩ : ∃ wz, wz = wa1.setCell ⟨po, 1, none⟩ (.int .i64 (x1 : Nat)) := ⟨_, rfl⟩
          rw [← hwz]
          have OP := Lib.hid (show wb1.heap[po]? = some (.cells #[.int .i64 (x0 : Nat), .int .i64 (x1 : Nat), .int .i64 0, .string ⟨#[]⟩, .slice none 0 0] 43 (0, 0)) from by rw [hwz]; exact set5_blk1 OP1.out)
          have HF : Hid (Fr (fun k => k = p) wr wb1) := Lib.hid (by rw [hwz]; exact HF1.out.setCell (a := ⟨po, 1, none⟩) (fun h => absurd h (by have := HPO.out; simp only; omega)) _)
          have RDb : Hid (IsRq (fun b => b < w.heap.size) wb1 p r1) := Lib.hid (by rw [hwz]; exact IsRq.set RDa1.out (by omega) (fun b hb => by omega))
          have hpl : po < wb1.heap.size := by rw [hwz]; simpa [World.setCell] using hpl1
          clear hwz OP1 HF1 RDa1 hpl1 y0 g0 y1 g1 y2 g2 y3 g3 y4 g4
          obtain ⟨y0, g0⟩ := blk_cell (i := 0) (OP.out)
          obtain ⟨y1, g1⟩ := blk_cell (i := 1) (OP.out)
          obtain ⟨y2, g2⟩ := blk_cell (i := 2) (OP.out)
          obtain ⟨y3, g3⟩ := blk_cell (i := 3) (OP.out)
          obtain ⟨y4, g4⟩ := blk_cell (i := 4) (OP.out)
          simp at y0 y1 y2 y3 y4
          go_wp2_with fail
          refine (qnum_any _ p 6 r1 _ RDb.out (by omega) (by omega) HSM.out.len HSM.out.err).mono ?_
          rintro e wa2 ⟨rfl, hr, hf⟩
          have HSM2 := Lib.hid (HSM.out.num 6)
          generalize r1.num 6 = X at *
          obtain ⟨x2, r2⟩ := X
          simp only at hr HSM2 HU ⊢
          have OP2 := Lib.hid ((hf.block po (by omega) (by omega)).trans OP.out)
          have HF2 := Lib.hid (HF.out.trans hf fun _ _ h => h)
          have RDa2 := Lib.hid hr
          have hpl2 : po < wa2.heap.size := by have := hf.size; omega
          clear hr hf OP HF RDb HSM y0 g0 y1 g1 y2 g2 y3 g3 y4 g4
          have HSM := HSM2
          obtain ⟨y0, g0⟩ := blk_cell (i := 0) (OP2.out)
          obtain ⟨y1, g1⟩ := blk_cell (i := 1) (OP2.out)
          obtain ⟨y2, g2⟩ := blk_cell (i := 2) (OP2.out)
          obtain ⟨y3, g3⟩ := blk_cell (i := 3) (OP2.out)
          obtain ⟨y4, g4⟩ := blk_cell (i := 4) (OP2.out)
          simp at y0 y1 y2 y3 y4
          go_upto_region 14 with fail
          obtain ⟨wb2, hwz⟩ : ∃ wz, wz = wa2.setCell ⟨po, 2, none⟩ (.int .i64 (x2 : Nat)) := ⟨_, rfl⟩
          rw [← hwz]
          have OP := Lib.hid (show wb2.heap[po]? = some (.cells #[.int .i64 (x0 : Nat), .int .i64 (x1 : Nat), .int .i64 (x2 : Nat), .string ⟨#[]⟩, .slice none 0 0] 43 (0, 0)) from by rw [hwz]; exact set5_blk2 OP2.out)
          have HF : Hid (Fr (fun k => k = p) wr wb2) := Lib.hid (by rw [hwz]; exact HF2.out.setCell (a := ⟨po, 2, none⟩) (fun h => absurd h (by have := HPO.out; simp only; omega)) _)
          have RDb : Hid (IsRq (fun b => b < w.heap.size) wb2 p r2) := Lib.hid (by rw [hwz]; exact IsRq.set RDa2.out (by omega) (fun b hb => by omega))
          have hpl : po < wb2.heap.size := by rw [hwz]; simpa [World.setCell] using hpl2
          clear hwz OP2 HF2 RDa2 hpl2 y0 g0 y1 g1 y2 g2 y3 g3 y4 g4
          obtain ⟨y0, g0⟩ := blk_cell (i := 0) (OP.out)
          obtain ⟨y1, g1⟩ := blk_cell (i := 1) (OP.out)
          obtain ⟨y2, g2⟩ := blk_cell (i := 2) (OP.out)
          obtain ⟨y3, g3⟩ := blk_cell (i := 3) (OP.out)
          obtain ⟨y4, g4⟩ := blk_cell (i := 4) (OP.out)
          simp at y0 y1 y2 y3 y4
          go_wp2_with fail
          refine (qblob_any _ p 12 r2 _ RDb.out (by omega) HSM.out.len HSM.out.err (HSM.out.num 2).err).mono ?_
          rintro e wa3 ⟨vb3, rfl, hvb3, hr, hf⟩
          have HSM3 := Lib.hid (HSM.out.blob 12)
          generalize r2.blob 12 = X at *
          obtain ⟨x3, r3⟩ := X
          simp only at hr HSM3 HU hvb3 ⊢
          obtain ⟨ab3, cb3, rfl⟩ := hvb3.shape
          have s3 := cnv_bytes hvb3 wa3 (Below.refl _ _)
          have OP3 := Lib.hid ((hf.block po (by omega) (by omega)).trans OP.out)
          have HF3 := Lib.hid (HF.out.trans hf fun _ _ h => h)
          have RDa3 := Lib.hid hr
          have hpl3 : po < wa3.heap.size := by have := hf.size; omega
          clear hr hf OP HF RDb HSM y0 g0 y1 g1 y2 g2 y3 g3 y4 g4
          have HSM := HSM3
          obtain ⟨y0, g0⟩ := blk_cell (i := 0) (OP3.out)
          obtain ⟨y1, g1⟩ := blk_cell (i := 1) (OP3.out)
          obtain ⟨y2, g2⟩ := blk_cell (i := 2) (OP3.out)
          obtain ⟨y3, g3⟩ := blk_cell (i := 3) (OP3.out)
          obtain ⟨y4, g4⟩ := blk_cell (i := 4) (OP3.out)
          simp at y0 y1 y2 y3 y4
          go_upto_region 15 with fail
          obtain ⟨wb3, hwz⟩ : ∃ wz, wz = wa3.setCell ⟨po, 3, none⟩ (.string ⟨x3.toArray⟩) := ⟨_, rfl⟩
          rw [← hwz]
          have OP := Lib.hid (show wb3.heap[po]? = some (.cells #[.int .i64 (x0 : Nat), .int .i64 (x1 : Nat), .int .i64 (x2 : Nat), .string ⟨x3.toArray⟩, .slice none 0 0] 43 (0, 0)) from by rw [hwz]; exact set5_blk3 OP3.out)
          have HF : Hid (Fr (fun k => k = p) wr wb3) := Lib.hid (by rw [hwz]; exact HF3.out.setCell (a := ⟨po, 3, none⟩) (fun h => absurd h (by have := HPO.out; simp only; omega)) _)
          have RDb : Hid (IsRq (fun b => b < w.heap.size) wb3 p r3) := Lib.hid (by rw [hwz]; exact IsRq.set RDa3.out (by omega) (fun b hb => by omega))
          have hpl : po < wb3.heap.size := by rw [hwz]; simpa [World.setCell] using hpl3
          clear hwz OP3 HF3 RDa3 hpl3 y0 g0 y1 g1 y2 g2 y3 g3 y4 g4 hvb3 s3
          obtain ⟨y0, g0⟩ := blk_cell (i := 0) (OP.out)
          obtain ⟨y1, g1⟩ := blk_cell (i := 1) (OP.out)
          obtain ⟨y2, g2⟩ := blk_cell (i := 2) (OP.out)
          obtain ⟨y3, g3⟩ := blk_cell (i := 3) (OP.out)
          obtain ⟨y4, g4⟩ := blk_cell (i := 4) (OP.out)
          simp at y0 y1 y2 y3 y4
          go_wp2_with fail
          refine (qblob_any _ p 2048 r3 _ RDb.out (by omega) HSM.out.len HSM.out.err (HSM.out.num 2).err).mono ?_
          rintro e wa4 ⟨vb4, rfl, hvb4, hr, hf⟩
          have HSM4 := Lib.hid (HSM.out.blob 2048)
          generalize r3.blob 2048 = X at *
          obtain ⟨x4, r4⟩ := X
          simp only at hr HSM4 HU hvb4 ⊢
          obtain ⟨ab4, cb4, rfl⟩ := hvb4.shape
          have OP4 := Lib.hid ((hf.block po (by omega) (by omega)).trans OP.out)
          have HF4 := Lib.hid (HF.out.trans hf fun _ _ h => h)
          have RDa4 := Lib.hid hr
          have hpl4 : po < wa4.heap.size := by have := hf.size; omega
          clear hr hf OP HF RDb HSM y0 g0 y1 g1 y2 g2 y3 g3 y4 g4
          have HSM := HSM4
          obtain ⟨y0, g0⟩ := blk_cell (i := 0) (OP4.out)
          obtain ⟨y1, g1⟩ := blk_cell (i := 1) (OP4.out)
          obtain ⟨y2, g2⟩ := blk_cell (i := 2) (OP4.out)
          obtain ⟨y3, g3⟩ := blk_cell (i := 3) (OP4.out)
          obtain ⟨y4, g4⟩ := blk_cell (i := 4) (OP4.out)
          simp at y0 y1 y2 y3 y4
          go_upto_region 16 with fail
          obtain ⟨wb4, hwz⟩ : ∃ wz, wz = wa4.setCell ⟨po, 4, none⟩ (.slice ab4 x4.length cb4) := ⟨_, rfl⟩
          rw [← hwz]
          have OP := Lib.hid (show wb4.heap[po]? = some (.cells #[.int .i64 (x0 : Nat), .int .i64 (x1 : Nat), .int .i64 (x2 : Nat), .string ⟨x3.toArray⟩, .slice ab4 x4.length cb4] 43 (0, 0)) from by rw [hwz]; exact set5_blk4 OP4.out)
          have HF : Hid (Fr (fun k => k = p) wr wb4) := Lib.hid (by rw [hwz]; exact HF4.out.setCell (a := ⟨po, 4, none⟩) (fun h => absurd h (by have := HPO.out; simp only; omega)) _)
          have RDb : Hid (IsRq (fun b => b < w.heap.size) wb4 p r4) := Lib.hid (by rw [hwz]; exact IsRq.set RDa4.out (by omega) (fun b hb => by omega))
          have hpl : po < wb4.heap.size := by rw [hwz]; simpa [World.setCell] using hpl4
          have HD : Hid (RB (fun b => b < w.heap.size) wb4 (.slice ab4 x4.length cb4) x4) := Lib.hid (by rw [hwz]; exact hvb4.mono (Same.setCell (Same.refl _ _) (by simp; omega) _))
          clear hwz OP4 HF4 RDa4 hpl4 y0 g0 y1 g1 y2 g2 y3 g3 y4 g4 hvb4
          obtain ⟨y0, g0⟩ := blk_cell (i := 0) (OP.out)
          obtain ⟨y1, g1⟩ := blk_cell (i := 1) (OP.out)
          obtain ⟨y2, g2⟩ := blk_cell (i := 2) (OP.out)
          obtain ⟨y3, g3⟩ := blk_cell (i := 3) (OP.out)
          obtain ⟨y4, g4⟩ := blk_cell (i := 4) (OP.out)
          simp at y0 y1 y2 y3 y4
          have hpt2 : pt < wr.heap.size := by have := HPO.out; omega
          have Tq := Lib.hid ((HF.out.block pt hpt2 (by omega)).trans T.out)
          obtain ⟨t0', u0⟩ := blk_cell (i := 0) Tq.out
          obtain ⟨t1', u1⟩ := blk_cell (i := 1) Tq.out
          simp at t0' t1'
          have EQ := Lib.hid (HE.out.same2 ⟨HF.out.size, fun b hb hl => HF.out.block b hl (by omega)⟩ ⟨HF.out.size, fun b hb hl => HF.out.block b hl (by omega)⟩)
          have hpq : pt < wb4.heap.size := by omega
          have HK1 : Hid (Enc.op.rd (fun b => b < w.heap.size) wb4 [.int .i64 (x0 : Nat), .int .i64 (x1 : Nat), .int .i64 (x2 : Nat), .string ⟨x3.toArray⟩, .slice ab4 x4.length cb4] ⟨x0, x1, x2, ⟨x3.toArray⟩, x4⟩) := Lib.hid ⟨_, rfl, HD.out⟩
          go_wp2_with (first | (at_builtin; refine stop_in ?_) | go_in)
          unfold Stop
          refine wpList_push wb4 (by rfl) (.tmp 52) (.tmp 54) 26 (by rfl) Enc.op (fun b => b < w.heap.size) (pt + 1) 43 i0 _ 64 Tryz.underlying26 hi hz0 hz1 hz2 (by rfl) (by decide) (by decide) _ acc (by rfl) EQ.out [.int .i64 (x0 : Nat), .int .i64 (x1 : Nat), .int .i64 (x2 : Nat), .string ⟨x3.toArray⟩, .slice ab4 x4.length cb4] 43 ⟨x0, x1, x2, ⟨x3.toArray⟩, x4⟩ (by rfl) HK1.out (by omega) (by omega) (fun b hb => by omega) ?_
          intro v' w' hE' hB'
          have Tw := Lib.hid ((hB'.block pt (Nat.lt_succ_self _)).trans Tq.out)
          obtain ⟨va', ca', rfl⟩ := hE'.shape
          have HYN : Hid (unpY l = ((acc ++ [⟨x0, x1, x2, ⟨x3.toArray⟩, x4⟩]) ++ (unpOps (n - (k + 1)) r4).1, (unpOps (n - (k + 1)) r4).2)) := Lib.hid (by
            have := HYY.out
            rw [show n - k = (n - (k + 1)) + 1 by omega, unpOps_go H0.out, HU.out] at this
            simpa using this)
          have HRD : Hid (IsRq (fun b => b < w.heap.size) w' p r4) := Lib.hid (RDb.out.same (B := fun b => b < pt + 1) ⟨hB'.size, fun b hb _ => hB'.block b hb⟩ (by omega) (fun b hb => by omega))
          have HRR : Hid (w'.heap[w.heap.size]? = some (.cells #[.string ⟨#[]⟩, .slice none 0 0] 28 (0, 0))) := Lib.hid ((hB'.block _ (by omega)).trans ((HF.out.block _ (by omega) (by omega)).trans RR.out))
          have HBN : Hid (Below w.heap.size w w') := Lib.hid ((HB.out.trans (HF.out.below HB.out.size fun j hj h => by omega)).trans (hB'.mono (by omega)))
          have HEN := Lib.hid (show EnRow Enc.op 43 (fun b => b < w.heap.size) (pt + 1) w' (.slice va' (acc.length + 1) ca') (acc ++ [⟨x0, x1, x2, ⟨x3.toArray⟩, x4⟩]) from by have h := hE'; rw [List.length_append] at h; exact h)
          have hpw2 : pt < w'.heap.size := by have := hB'.size; omega
          clear hE' hB' Tq EQ HK1 t0' u0 t1' u1 y0 g0 y1 g1 y2 g2 y3 g3 y4 g4 HYY HU RDb HF RR HB HE OP HD T
          obtain ⟨t0', u0⟩ := blk_cell (i := 0) Tw.out
          obtain ⟨t1', u1⟩ := blk_cell (i := 1) Tw.out
          simp at t0' t1'
          go_wp2
          go_roundw
          case rel => exact ⟨k + 1, by omega, by go_num, r4, _, _, IsRq.set HRD.out (by omega) (fun b hb => by omega), HSM.out, (Below.heap_setCell _ _ _ _ (show w.heap.size ≠ pt by omega)).trans HRR.out, set2_blk1 Tw.out, HEN.out.set (fun e => by have := HEN.out.lt _ e; omega) (by omega), by simp; omega, HYN.out, HBN.out.setCell (show w.heap.size ≤ pt by omega) _⟩
          case measure => simp [intOf]; omega
        · have HYE : Hid (unpY l = (acc, r)) := Lib.hid (by have := HYY.out; rw [unpOps_halt h0] at this; simpa using this)
          have t1 : ((r.e : Int) == 0) = false := by simp [h0]
          clear h0 HYY
          go_wp2_with fail
          refine (qend_any _ p r _ RD.out HS.out.len HS.out.err).mono ?_
          rintro e w8 ⟨rfl, hr8, hf8⟩
          have RR8 := Lib.hid ((hf8.block _ (by omega) (by omega)).trans RR.out)
          have T8 := Lib.hid ((hf8.block _ (by omega) (by omega)).trans T.out)
          have HB8 := Lib.hid (HB.out.trans (hf8.below HB.out.size fun j hj h => by omega))
          have HE8 := Lib.hid (HE.out.same2 ⟨hf8.size, fun b hb hl => hf8.block b hl (by omega)⟩ ⟨hf8.size, fun b hb hl => hf8.block b hl (by omega)⟩)
          have hwl : w.heap.size < w8.heap.size := (Array.getElem?_eq_some_iff.1 RR8.out).1
          clear hr8 hf8 RR T HB HE RD e0 g0 e1 g1
          obtain ⟨x0, f0⟩ := blk_cell (i := 0) RR8.out
          obtain ⟨x1, f1⟩ := blk_cell (i := 1) RR8.out
          obtain ⟨y0, -⟩ := blk_cell (i := 0) T8.out
          obtain ⟨y1, -⟩ := blk_cell (i := 1) T8.out
          simp at x0 x1 y0 y1
          by_cases hfe : r.fin.e = 0
          · have HFE := Lib.hid hfe
            have u0 : ((r.fin.e : Int) != 0) = false := by simp [hfe]
            have u1 : ((r.fin.e : Int) == 0) = true := by simp [hfe]
            clear hfe
            go_wp2_with fail
            refine (rcheck9_any (fun _ => True) ⟨⟨(unpHead l).1.toArray⟩, acc⟩ _ _ (HE8.out.sle (fun _ _ _ => trivial) (fun _ _ => trivial))).mono ?_
            rintro e w9 ⟨rfl, hb9⟩
            have RR9 := Lib.hid (dblk hb9 RR8.out)
            have T9 := Lib.hid (dblk hb9 T8.out)
            have HB9 := Lib.hid (dcall HB8.out hb9)
            have HE9 := Lib.hid (HE8.out.ext hb9)
            clear hb9 RR8 T8 HB8 HE8 x0 f0 x1 f1 y0 y1
            obtain ⟨x0, f0⟩ := blk_cell (i := 0) RR9.out
            obtain ⟨x1, f1⟩ := blk_cell (i := 1) RR9.out
            obtain ⟨y0, -⟩ := blk_cell (i := 0) T9.out
            obtain ⟨y1, -⟩ := blk_cell (i := 1) T9.out
            simp at x0 x1 y0 y1
            by_cases hte : txE ⟨⟨(unpHead l).1.toArray⟩, acc⟩ = 0
            · have HTE := Lib.hid hte
              rw [hte]
              clear hte
              go_wp2
              refine bodyPost_ret (results_cell_t1 rfl _ _ w.heap.size 28 _ (0, 0) _ rfl (set2_blk RR9.out) Tryz.underlying28 rfl (by kernel_rfl)) rfl ?_
              exact RunQ.ok HYE.out HFE.out HTE.out ((HE9.out.same2 ⟨by simp [World.setCell], fun b hb _ => (Below.heap_setCell _ _ _ _ (show b ≠ w.heap.size by omega)).trans (Below.heap_setCell _ _ _ _ (show b ≠ w.heap.size by omega))⟩ ⟨by simp [World.setCell], fun b hb _ => (Below.heap_setCell _ _ _ _ (show b ≠ w.heap.size by omega)).trans (Below.heap_setCell _ _ _ _ (show b ≠ w.heap.size by omega))⟩).sle (fun _ _ _ => trivial) (fun _ _ => trivial)) ((HB9.out.setCell (Nat.le_refl _) _).setCell (Nat.le_refl _) _)
            · have HBAD := Lib.hid (unpE_chk HYE.out HFE.out)
              have HTE := Lib.hid hte
              generalize txE ⟨⟨(unpHead l).1.toArray⟩, acc⟩ = E at *
              have v0 : (E != 0) = true := by simpa using hte
              have v1 : (E == 0) = false := by simpa using hte
              clear hte
              go_wp2
              refine bodyPost_ret (results_cell_t1 rfl _ _ w.heap.size 28 _ (0, 0) _ rfl (set2_blk RR9.out) Tryz.underlying28 rfl (by kernel_rfl)) rfl ?_
              exact RunQ.bad HBAD.out HTE.out ((HB9.out.setCell (Nat.le_refl _) _).setCell (Nat.le_refl _) _)
          · have HBAD := Lib.hid (unpE_fin HYE.out hfe)
            have u0 : ((r.fin.e : Int) != 0) = true := by simp [hfe]
            have u1 : ((r.fin.e : Int) == 0) = false := by simp [hfe]
            have HTE : Hid ((r.fin.e : Int) ≠ 0) := Lib.hid (by simpa using hfe)
            clear hfe
            go_wp2
            refine bodyPost_ret (results_cell_t1 rfl _ _ w.heap.size 28 _ (0, 0) _ rfl (set2_blk RR8.out) Tryz.underlying28 rfl (by kernel_rfl)) rfl ?_
            exact RunQ.bad HBAD.out HTE.out ((HB8.out.setCell (Nat.le_refl _) _).setCell (Nat.le_refl _) _)
      · obtain rfl : k = n := by omega
        have HYE : Hid (unpY l = (acc, r)) := Lib.hid (by have := HYY.out; simp [unpOps] at this; exact this)
        clear HYY
        go_wp2_with fail
        refine (qend_any _ p r _ RD.out HS.out.len HS.out.err).mono ?_
        rintro e w8 ⟨rfl, hr8, hf8⟩
        have RR8 := Lib.hid ((hf8.block _ (by omega) (by omega)).trans RR.out)
        have T8 := Lib.hid ((hf8.block _ (by omega) (by omega)).trans T.out)
        have HB8 := Lib.hid (HB.out.trans (hf8.below HB.out.size fun j hj h => by omega))
        have HE8 := Lib.hid (HE.out.same2 ⟨hf8.size, fun b hb hl => hf8.block b hl (by omega)⟩ ⟨hf8.size, fun b hb hl => hf8.block b hl (by omega)⟩)
        have hwl : w.heap.size < w8.heap.size := (Array.getElem?_eq_some_iff.1 RR8.out).1
        clear hr8 hf8 RR T HB HE RD e0 g0 e1 g1
        obtain ⟨x0, f0⟩ := blk_cell (i := 0) RR8.out
        obtain ⟨x1, f1⟩ := blk_cell (i := 1) RR8.out
        obtain ⟨y0, -⟩ := blk_cell (i := 0) T8.out
        obtain ⟨y1, -⟩ := blk_cell (i := 1) T8.out
        simp at x0 x1 y0 y1
        by_cases hfe : r.fin.e = 0
        · have HFE := Lib.hid hfe
          have u0 : ((r.fin.e : Int) != 0) = false := by simp [hfe]
          have u1 : ((r.fin.e : Int) == 0) = true := by simp [hfe]
          clear hfe
          go_wp2_with fail
          refine (rcheck9_any (fun _ => True) ⟨⟨(unpHead l).1.toArray⟩, acc⟩ _ _ (HE8.out.sle (fun _ _ _ => trivial) (fun _ _ => trivial))).mono ?_
          rintro e w9 ⟨rfl, hb9⟩
          have RR9 := Lib.hid (dblk hb9 RR8.out)
          have T9 := Lib.hid (dblk hb9 T8.out)
          have HB9 := Lib.hid (dcall HB8.out hb9)
          have HE9 := Lib.hid (HE8.out.ext hb9)
          clear hb9 RR8 T8 HB8 HE8 x0 f0 x1 f1 y0 y1
          obtain ⟨x0, f0⟩ := blk_cell (i := 0) RR9.out
          obtain ⟨x1, f1⟩ := blk_cell (i := 1) RR9.out
          obtain ⟨y0, -⟩ := blk_cell (i := 0) T9.out
          obtain ⟨y1, -⟩ := blk_cell (i := 1) T9.out
          simp at x0 x1 y0 y1
          by_cases hte : txE ⟨⟨(unpHead l).1.toArray⟩, acc⟩ = 0
          · have HTE := Lib.hid hte
            rw [hte]
            clear hte
            go_wp2
            refine bodyPost_ret (results_cell_t1 rfl _ _ w.heap.size 28 _ (0, 0) _ rfl (set2_blk RR9.out) Tryz.underlying28 rfl (by kernel_rfl)) rfl ?_
            exact RunQ.ok HYE.out HFE.out HTE.out ((HE9.out.same2 ⟨by simp [World.setCell], fun b hb _ => (Below.heap_setCell _ _ _ _ (show b ≠ w.heap.size by omega)).trans (Below.heap_setCell _ _ _ _ (show b ≠ w.heap.size by omega))⟩ ⟨by simp [World.setCell], fun b hb _ => (Below.heap_setCell _ _ _ _ (show b ≠ w.heap.size by omega)).trans (Below.heap_setCell _ _ _ _ (show b ≠ w.heap.size by omega))⟩).sle (fun _ _ _ => trivial) (fun _ _ => trivial)) ((HB9.out.setCell (Nat.le_refl _) _).setCell (Nat.le_refl _) _)
          · have HBAD := Lib.hid (unpE_chk HYE.out HFE.out)
            have HTE := Lib.hid hte
            generalize txE ⟨⟨(unpHead l).1.toArray⟩, acc⟩ = E at *
            have v0 : (E != 0) = true := by simpa using hte
            have v1 : (E == 0) = false := by simpa using hte
            clear hte
            go_wp2
            refine bodyPost_ret (results_cell_t1 rfl _ _ w.heap.size 28 _ (0, 0) _ rfl (set2_blk RR9.out) Tryz.underlying28 rfl (by kernel_rfl)) rfl ?_
            exact RunQ.bad HBAD.out HTE.out ((HB9.out.setCell (Nat.le_refl _) _).setCell (Nat.le_refl _) _)
        · have HBAD := Lib.hid (unpE_fin HYE.out hfe)
          have u0 : ((r.fin.e : Int) != 0) = true := by simp [hfe]
          have u1 : ((r.fin.e : Int) == 0) = false := by simp [hfe]
          have HTE : Hid ((r.fin.e : Int) ≠ 0) := Lib.hid (by simpa using hfe)
          clear hfe
          go_wp2
          refine bodyPost_ret (results_cell_t1 rfl _ _ w.heap.size 28 _ (0, 0) _ rfl (set2_blk RR8.out) Tryz.underlying28 rfl (by kernel_rfl)) rfl ?_
          exact RunQ.bad HBAD.out HTE.out ((HB8.out.setCell (Nat.le_refl _) _).setCell (Nat.le_refl _) _)
end Go.Proofs.YtgdilkhaopnhaaaGreatDoor
namespace Go.Proofs.YtgdilkhaopnhaaaGreatDoor
open Go.RowKit Go.WideShapes

/-- a transaction's bytes; none, if it may not be -/
def packL (t : TxD) : List UInt8 := if txE t = 0 then txL t t.ops.length else []
theorem tpack_bad (A : Nat → Prop) (t : TxD) (va : Value) (w : World) (h : SlE Enc.op A w va t.ops) (hE : txE t ≠ 0) : Calls Tryz.prog 18 #[.agg #[.string t.obj, va]] w fun e w' => ∃ v, e = .returned v ∧ OB w.heap.size w' v [] ∧ Below w.heap.size w w' := by
  obtain ⟨a, c, rfl⟩ := h.shape
  obtain ⟨ob, ops⟩ := t
  simp only at *
  have HS := Lib.hid h
  have HE := Lib.hid (bne_iff_ne.2 hE)
  clear h hE
  go_enter Tryz.func18, Tryz.ntmps18
  go_wp2_with fail
  refine (tcheck_any A ⟨ob, ops⟩ _ _ (HS.out.ext ((Below.refl _ w).alloc (Nat.le_refl _) _))).mono ?_
  rintro e w1 ⟨rfl, hb1⟩
  have HW : Hid (Below w.heap.size w w1) := ((Below.refl _ w).alloc (Nat.le_refl _) _).trans (hb1.mono (by simp))
  have hne := HE.out
  have hne' : txE ⟨ob, ops⟩ ≠ 0 := bne_iff_ne.1 hne
  generalize txE ⟨ob, ops⟩ = E at *
  clear hb1
  go_wp2
  go_ret
  exact ⟨_, rfl, OB.nil _ _, HW.out⟩
theorem tpackL_any (A : Nat → Prop) (t : TxD) (va : Value) (w : World) (h : SlE Enc.op A w va t.ops) : Calls Tryz.prog 18 #[.agg #[.string t.obj, va]] w fun e w' => ∃ v, e = .returned v ∧ OB w.heap.size w' v (packL t) ∧ Below w.heap.size w w' := by
  by_cases hE : txE t = 0
  · rw [show packL t = txL t t.ops.length from if_pos hE]
    exact tpack_ok A t va w h hE
  · rw [show packL t = [] from if_neg hE]
    exact tpack_bad A t va w h hE
theorem rpack_bad (A : Nat → Prop) (t : TxD) (va : Value) (w : World) (h : SlE Enc.op A w va t.ops) (hE : txE t ≠ 0) : Calls Tryz.prog 19 #[.agg #[.string t.obj, va]] w fun e w' => ∃ v, e = .returned v ∧ OB w.heap.size w' v [] ∧ Below w.heap.size w w' := by
  obtain ⟨a, c, rfl⟩ := h.shape
  obtain ⟨ob, ops⟩ := t
  simp only at *
  have HS := Lib.hid h
  have HE := Lib.hid (bne_iff_ne.2 hE)
  clear h hE
  go_enter Tryz.func19, Tryz.ntmps19
  go_wp2_with fail
  refine (rcheck9_any A ⟨ob, ops⟩ _ _ (HS.out.ext ((Below.refl _ w).alloc (Nat.le_refl _) _))).mono ?_
  rintro e w1 ⟨rfl, hb1⟩
  have HW : Hid (Below w.heap.size w w1) := ((Below.refl _ w).alloc (Nat.le_refl _) _).trans (hb1.mono (by simp))
  have hne := HE.out
  have hne' : txE ⟨ob, ops⟩ ≠ 0 := bne_iff_ne.1 hne
  generalize txE ⟨ob, ops⟩ = E at *
  clear hb1
  go_wp2
  go_ret
  exact ⟨_, rfl, OB.nil _ _, HW.out⟩
/-- what an append of bytes leaves: the blocks that the row does not lie in stay -/
def AppOut (base : Nat) (W : World) (v : Value) (l : List UInt8) (v' : Value) (W' : World) : Prop :=
  OB base W' v' l ∧ Below base W W' ∧ ∀ (p : Nat) (o : Obj), W.heap[p]? = some o → v.ownBlock ≠ some p → W'.heap[p]? = some o ∧ v'.ownBlock ≠ some p
section
variable {ops : Array Oper} {rest : List Oper} {o : Oper} {a : Act} {Q : Exit → Act → World → Prop}
/-- 'append(out, src...)', and what stays -/
theorem wpList_appO (w : World) (hgd : o.guard = none) (s x : Operand) (ho : o.op = .call { callee := .builtin .append, args := #[s, x], argTypes := #[22, 22] })
    (base : Nat) (v : Value) (l : List UInt8) (hs : a.eval s = v) (hown : OB base w v l) (A : Nat → Prop) (sv : Value) (m : List UInt8)
    (hx : a.eval x = sv) (hsl : RB A w sv m) (hl : l.length + m.length ≤ 1000000) (hbase : base ≤ w.heap.size)
    (h : ∀ v' w', AppOut base w v (l ++ m) v' w' → wpList Tryz.prog ops Q rest (a.put o.dst v') w') : wpList Tryz.prog ops Q (o :: rest) a w := by
  obtain ⟨i0, hi, hz0, hz1, hz2⟩ := info_parts infoByte
  have fin : ∀ v' w', w'.ownsRow base 5 1 v' (l.length + m.length) (l.map bv ++ m.map bv) → w.grownBy w' v.ownBlock → (v'.ownBlock = v.ownBlock ∨ v'.ownBlock = some w.heap.size) → wpList Tryz.prog ops Q rest (a.put o.dst v') w' := by
    intro v' w' h4 h5 h6
    refine h v' w' ⟨OB.cast h4 (by simp) (by simp), (Below.refl base w).grown h5 hbase fun j hj => (hown.lt j hj).1, fun p ob hp hne => ?_⟩
    have hlt := (Array.getElem?_eq_some_iff.1 hp).1
    refine ⟨(h5.block p hlt fun e => hne e.symm).trans hp, ?_⟩
    rcases h6 with e | e
    · rw [e]; exact hne
    · rw [e]
      simp only [ne_eq, Option.some.injEq]
      omega
  rcases hsl.2 with ⟨⟨a0, rfl⟩, hm0⟩ | ⟨b, off, cap, rfl, hlb, hA, hc, hcell⟩
  · have hn : m = [] := List.length_eq_zero_iff.1 hm0
    subst hn
    cases a0 with
    | none => exact wpList_append_own_none hgd s x 22 ho base 5 i0 1 Tryz.underlying22 hi v l.length (l.map bv) hs hown hx (fin v w (by rw [List.map_nil, List.append_nil]; exact hown) (World.grownBy.refl w _) (.inl rfl))
    | some p => exact wpList_append_own_at w hgd s x 22 ho base 5 i0 (.int .u8 0) 1 1 Tryz.underlying22 hi hz0 hz1 hz2 rfl (by decide) v l.length (l.map bv) hs hown p 0 0 [] hx (by simp) (fun j u hj => by simp at hj) (by simp) (by unfold maxLen; simp at hl; omega) (by simp at hl; omega) hbase fun v' w' h2 h3 _ h6 => fin v' w' (by simpa using h2) h3 h6
  · refine wpList_append_own_at w hgd s x 22 ho base 5 i0 (.int .u8 0) 1 1 Tryz.underlying22 hi hz0 hz1 hz2 rfl (by decide) v l.length (l.map bv) hs hown ⟨b, off, none⟩ m.length cap (m.map bv) hx (by simp) (fun j u hj => ?_) (one_bytes m) (by unfold maxLen; omega) (by omega) hbase fun v' w' h2 h3 _ h6 => fin v' w' h2 h3 h6
    have hjl : j < m.length * 1 := by have := (List.getElem?_eq_some_iff.1 hj).1; simpa using this
    rw [add_plain, hcell j hjl, hj]
end
/-- a row of the call's own that two boxes are no part of -/
structure St (w : World) (p q : Nat) (op oq : Obj) (W : World) (v : Value) (l : List UInt8) : Prop where
  bp : W.heap[p]? = some op
  bq : W.heap[q]? = some oq
  np : v.ownBlock ≠ some p
  nq : v.ownBlock ≠ some q
  ob : OB w.heap.size W v l
  bl : Below w.heap.size w W
theorem St.call {w : World} {p q : Nat} {op oq : Obj} {W W' : World} {v : Value} {l : List UInt8} (h : St w p q op oq W v l) (hb : Below W.heap.size W W') : St w p q op oq W' v l :=
  ⟨blkk hb h.bp, blkk hb h.bq, h.np, h.nq, h.ob.ext hb, below_call h.bl hb⟩
theorem St.app {w : World} {p q : Nat} {op oq : Obj} {W W' : World} {v v' : Value} {l l' : List UInt8} (h : St w p q op oq W v l) (ha : AppOut w.heap.size W v l' v' W') : St w p q op oq W' v' l' :=
  ⟨(ha.2.2 p op h.bp h.np).1, (ha.2.2 q oq h.bq h.nq).1, (ha.2.2 p op h.bp h.np).2, (ha.2.2 q oq h.bq h.nq).2, ha.1, h.bl.trans ha.2.1⟩
theorem OB.not_at {base p : Nat} {W : World} {v : Value} {l : List UInt8} (h : OB base W v l) (hp : p < base ∨ W.heap.size ≤ p) : v.ownBlock ≠ some p := fun e => by
  have := h.lt p e
  omega
/-- a new box beside it -/
theorem St.box {w : World} {p : Nat} {op : Obj} {W : World} {v : Value} {l : List UInt8} (h : St w p p op op W v l) (o : Obj) : St w p W.heap.size op o (W.alloc o) v l :=
  ⟨blka h.bp o, heap_alloc_new W o, h.np, h.ob.not_at (.inr (Nat.le_refl _)), h.ob.ext ((Below.refl _ W).alloc (Nat.le_refl _) _), below_new h.bl o⟩
theorem St.one {w : World} {p q : Nat} {op oq : Obj} {W : World} {v : Value} {l : List UInt8} (h : St w p q op oq W v l) : St w p p op op W v l := ⟨h.bp, h.bp, h.np, h.np, h.ob, h.bl⟩
theorem St.cast {w : World} {p q : Nat} {op oq : Obj} {W : World} {v : Value} {l l' : List UInt8} (h : St w p q op oq W v l) (e : l = l') : St w p q op oq W v l' := e ▸ h
set_option maxRecDepth 100000 in
set_option maxHeartbeats 8000000 in
theorem rpack_ok (A : Nat → Prop) (t : TxD) (va : Value) (w : World) (h : SlE Enc.op A w va t.ops) (hE : txE t = 0) : Calls Tryz.prog 19 #[.agg #[.string t.obj, va]] w fun e w' => ∃ v, e = .returned v ∧ OB w.heap.size w' v (txL t t.ops.length) ∧ Below w.heap.size w w' := by
  obtain ⟨a, c, rfl⟩ := h.shape
  obtain ⟨hl, hnm, hall⟩ := txE_ok hE
  have hol := nameB_len hnm
  obtain ⟨ob, ops⟩ := t
  simp only at *
  have HS := Lib.hid h
  have HALL : Hid (∀ o ∈ ops, opP o) := fun o ho => of_decide_eq_true (List.all_eq_true.1 hall o ho)
  have HE := Lib.hid hE
  have hobl : ob.data.toList.length = ob.size := by simp
  have HOBL := Lib.hid hobl
  clear h hnm hall hE hobl
  go_enter Tryz.func19, Tryz.ntmps19
  go_wp2_with fail
  refine (rcheck9_any A ⟨ob, ops⟩ _ _ (HS.out.ext ((Below.refl _ w).alloc (Nat.le_refl _) _))).mono ?_
  rintro e w1 ⟨rfl, hb1⟩
  rw [HE.out]
  have B1 := Lib.hid ((hb1.block w.heap.size (by simp)).trans (heap_alloc_new w _))
  have HW : Hid (Below w.heap.size w w1) := ((Below.refl _ w).alloc (Nat.le_refl _) _).trans (hb1.mono (by simp))
  obtain ⟨x0, -⟩ := blk_cell (i := 0) B1.out
  simp at x0
  have lx := (Array.getElem?_eq_some_iff.1 B1.out).1
  have hcs := fun W : World => run_bytes_of_string (P := Tryz.prog) W 9 22 5 ob Tryz.underlying9 Tryz.underlying22 Tryz.underlying5
  clear hb1
  go_wp2_with fail
  refine (bblob_any (fun b => w1.heap.size ≤ b) _ ob.data.toList _ (str_row w1 ob) (by rw [HOBL.out]; omega)).mono ?_
  rintro e w2 ⟨v2, rfl, ho2, hb2⟩
  have hb12 : Below w1.heap.size w1 w2 := (str_below w1 ob).trans (hb2.mono (str_below w1 ob).size)
  have B2 := Lib.hid (blkk hb12 B1.out)
  have HW2 : Hid (Below w.heap.size w w2) := below_call HW.out hb12
  have HS2 : Hid (St w w.heap.size w.heap.size (.cells #[.string ob, .slice a ops.length c] 28) (.cells #[.string ob, .slice a ops.length c] 28) w2 v2 (be 2 ob.data.toList.length ++ ob.data.toList)) := ⟨B2.out, B2.out, ho2.not_at (.inl (Nat.lt_of_lt_of_le lx (str_below w1 ob).size)), ho2.not_at (.inl (Nat.lt_of_lt_of_le lx (str_below w1 ob).size)), ho2.base_le (Nat.le_trans HW.out.size (str_below w1 ob).size), HW2.out⟩
  obtain ⟨x1, -⟩ := blk_cell (i := 1) B2.out
  simp at x1
  have lx2 := (Array.getElem?_eq_some_iff.1 B2.out).1
  clear ho2 hb2 hb12 B1 x0 lx hcs HW B2
  go_wp2_with fail
  refine (bnum_any 1 ops.length (by omega) (by omega) (by omega) _).mono ?_
  rintro e w3 ⟨v3, rfl, ho3, hb3⟩
  have HS3 := Lib.hid (HS2.out.call hb3)
  have HO3 := Lib.hid ho3
  have hsz3 := HS3.out.bl.size
  have lx3 := (Array.getElem?_eq_some_iff.1 HS3.out.bp).1
  clear ho3 hb3 lx2 HW2 HS2 x1
  go_wp2_with (first | (at_builtin; refine wpList_appO _ rfl _ _ rfl w.heap.size _ _ rfl HS3.out.ob _ _ _ rfl HO3.out.rb (by rw [List.length_append, HOBL.out]; simp [be_length]; omega) hsz3 ?_) | go_in)
  intro v4 w4 ho4
  have HS4 : Hid (St w w.heap.size w.heap.size (.cells #[.string ob, .slice a ops.length c] 28) (.cells #[.string ob, .slice a ops.length c] 28) w4 v4 (txL ⟨ob, ops⟩ 0)) := by
    have := HS3.out.app ho4
    show St _ _ _ _ _ _ _ _
    unfold txL
    simpa using this
  have HL0 : Hid ((txL ⟨ob, ops⟩ 0).length ≤ 100) := by
    show _ ≤ _
    unfold txL
    simp [be_length]
    omega
  clear ho4 HS3 HO3 hsz3 lx3
  go_wp2
  go_loopw [3, 4] (fun q3 q4 wr => ∃ (k : Nat), k ≤ ops.length ∧ q4 = .int .i64 k ∧ St w w.heap.size w.heap.size (.cells #[.string ob, .slice a ops.length c] 28) (.cells #[.string ob, .slice a ops.length c] 28) wr q3 (txL ⟨ob, ops⟩ k) ∧ (txL ⟨ob, ops⟩ k).length ≤ 100 + 3000 * k) (fun _ q4 _ => ops.length - (intOf q4).toNat)
  case atStart => exact ⟨0, Nat.zero_le _, rfl, HS4.out, by have := HL0.out; omega⟩
  case round =>
    obtain ⟨k, hk, rfl, hst, hlk⟩ := hrel
    have HLK := Lib.hid hlk
    have HST := Lib.hid hst
    obtain ⟨x1, -⟩ := blk_cell (i := 1) hst.bp
    simp at x1
    have lx := (Array.getElem?_eq_some_iff.1 hst.bp).1
    generalize u3 = v at *
    clear hst HL0 hlk HS4
    by_cases hlt : k < ops.length
    · have HSU := Lib.hid (txL_succ ⟨ob, ops⟩ k hlt)
      have HOP : Hid (opP ops[k]) := HALL.out _ (List.getElem_mem hlt)
      obtain ⟨b, off, v0, rfl, hb, -, c0, c1, c2, c3, c4, hv⟩ := Ops.at HS.out hlt
      replace c0 := cellB HST.out.bl hb c0
      replace c1 := cellB HST.out.bl hb c1
      replace c2 := cellB HST.out.bl hb c2
      replace c3 := cellB HST.out.bl hb c3
      replace c4 := cellB HST.out.bl hb c4
      replace hb := Nat.lt_of_lt_of_le hb HST.out.bl.size
      obtain ⟨va, vc, rfl⟩ := hv.shape
      have HV := Lib.hid hv
      simp only at HSU
      generalize ops[k] = o at *
      obtain ⟨k1, f1, n1, nm, d1⟩ := o
      obtain ⟨p1, p2, p3, p4, p5, p6, p7, p8⟩ := HOP.out
      simp only at p1 p2 p3 p4 p5 p6 p7 p8 c0 c1 c2 c3 c4
      obtain ⟨k1, rfl⟩ := Int.eq_ofNat_of_zero_le (by omega : 0 ≤ k1)
      obtain ⟨f1, rfl⟩ := Int.eq_ofNat_of_zero_le p3
      obtain ⟨n1, rfl⟩ := Int.eq_ofNat_of_zero_le p5
      have p7' : nm.size ≤ 12 := by omega
      have p8' : d1.length ≤ 2048 := by omega
      have hnl : nm.data.toList.length = nm.size := by simp
      have HNL := Lib.hid hnl
      simp only [Int.toNat_natCast] at HSU
      have hcs := fun W : World => run_bytes_of_string (P := Tryz.prog) W 9 22 5 nm Tryz.underlying9 Tryz.underlying22 Tryz.underlying5
      have T0 := Lib.hid (HST.out.box (.cells #[.int .i64 (k1 : Nat), .int .i64 (f1 : Nat), .int .i64 (n1 : Nat), .string nm, .slice va d1.length vc] 43))
      have hz0 := T0.out.bl.size
      clear hv hnl HOP HST
      go_wp2_with fail
      refine (bnum_any 1 k1 (by omega) (by omega) (by omega) _).mono ?_
      rintro e z0 ⟨r0, rfl, ho, hb⟩
      have T0c := Lib.hid (T0.out.call hb)
      have HR0 := Lib.hid ho
      have hz0c := T0c.out.bl.size
      clear ho hb  c0 c1 c2 c3 c4 T0 hz0
      go_wp2_with (first | (at_builtin; refine wpList_appO _ rfl _ _ rfl w.heap.size _ _ rfl T0c.out.ob _ _ _ rfl HR0.out.rb (by have := HLK.out; have := HNL.out; simp [be_length]; omega) hz0c ?_) | go_in)
      intro v0' t0 ho
      have T1 := Lib.hid (T0c.out.app ho)
      have hz1 := T1.out.bl.size
      have lk0 := (Array.getElem?_eq_some_iff.1 T1.out.bq).1
      obtain ⟨y1, -⟩ := blk_cell (i := 1) T1.out.bq
      simp at y1
      clear ho T0c HR0 hz0c 
      go_wp2_with fail
      refine (bnum_any 6 f1 (by omega) (by omega) (by omega) _).mono ?_
      rintro e z1 ⟨r1, rfl, ho, hb⟩
      have T1c := Lib.hid (T1.out.call hb)
      have HR1 := Lib.hid ho
      have hz1c := T1c.out.bl.size
      clear ho hb  y1 T1 hz1
      go_wp2_with (first | (at_builtin; refine wpList_appO _ rfl _ _ rfl w.heap.size _ _ rfl T1c.out.ob _ _ _ rfl HR1.out.rb (by have := HLK.out; have := HNL.out; simp [be_length]; omega) hz1c ?_) | go_in)
      intro v1' t1 ho
      have T2 := Lib.hid (T1c.out.app ho)
      have hz2 := T2.out.bl.size
      have lk1 := (Array.getElem?_eq_some_iff.1 T2.out.bq).1
      obtain ⟨y2, -⟩ := blk_cell (i := 2) T2.out.bq
      simp at y2
      clear ho T1c HR1 hz1c lk0
      go_wp2_with fail
      refine (bnum_any 6 n1 (by omega) (by omega) (by omega) _).mono ?_
      rintro e z2 ⟨r2, rfl, ho, hb⟩
      have T2c := Lib.hid (T2.out.call hb)
      have HR2 := Lib.hid ho
      have hz2c := T2c.out.bl.size
      clear ho hb  y2 T2 hz2
      go_wp2_with (first | (at_builtin; refine wpList_appO _ rfl _ _ rfl w.heap.size _ _ rfl T2c.out.ob _ _ _ rfl HR2.out.rb (by have := HLK.out; have := HNL.out; simp [be_length]; omega) hz2c ?_) | go_in)
      intro v2' t2 ho
      have T3 := Lib.hid (T2c.out.app ho)
      have hz3 := T3.out.bl.size
      have lk2 := (Array.getElem?_eq_some_iff.1 T3.out.bq).1
      obtain ⟨y3, -⟩ := blk_cell (i := 3) T3.out.bq
      simp at y3
      clear ho T2c HR2 hz2c lk1
      go_wp2_with fail
      refine (bblob_any (fun b => t2.heap.size ≤ b) _ nm.data.toList _ (str_row t2 nm) (by rw [HNL.out]; omega)).mono ?_
      rintro e z3 ⟨r3, rfl, ho, hb0⟩
      have hb : Below t2.heap.size t2 z3 := (str_below t2 nm).trans (hb0.mono (str_below t2 nm).size)
      have T3c := Lib.hid (T3.out.call hb)
      have HR3 := Lib.hid ho
      have hz3c := T3c.out.bl.size
      clear ho hb hb0 hcs y3 T3 hz3
      go_wp2_with (first | (at_builtin; refine wpList_appO _ rfl _ _ rfl w.heap.size _ _ rfl T3c.out.ob _ _ _ rfl HR3.out.rb (by have := HLK.out; have := HNL.out; simp [be_length]; omega) hz3c ?_) | go_in)
      intro v3' t3 ho
      have T4 := Lib.hid (T3c.out.app ho)
      have hz4 := T4.out.bl.size
      have lk3 := (Array.getElem?_eq_some_iff.1 T4.out.bq).1
      obtain ⟨y4, -⟩ := blk_cell (i := 4) T4.out.bq
      simp at y4
      clear ho T3c HR3 hz3c lk2
      go_wp2_with fail
      refine (bblob_any A _ d1 _ (HV.out.ext T4.out.bl) (by omega)).mono ?_
      rintro e z4 ⟨r4, rfl, ho, hb⟩
      have T4c := Lib.hid (T4.out.call hb)
      have HR4 := Lib.hid ho
      have hz4c := T4c.out.bl.size
      clear ho hb  y4 T4 hz4
      go_wp2_with (first | (at_builtin; refine wpList_appO _ rfl _ _ rfl w.heap.size _ _ rfl T4c.out.ob _ _ _ rfl HR4.out.rb (by have := HLK.out; have := HNL.out; simp [be_length]; omega) hz4c ?_) | go_in)
      intro v4' t4 ho
      have T5 := Lib.hid (T4c.out.app ho)
      have hz5 := T5.out.bl.size
      clear ho T4c HR4 hz4c lk3
      have HT := Lib.hid (T5.out.one.cast (l' := txL ⟨ob, ops⟩ (k + 1)) (by rw [HSU.out]; simp))
      have HL9 : Hid ((txL ⟨ob, ops⟩ (k + 1)).length ≤ 100 + 3000 * (k + 1)) := by
        show _ ≤ _
        rw [HSU.out]
        have := HLK.out
        have := HNL.out
        simp [be_length]
        omega
      obtain ⟨x2, -⟩ := blk_cell (i := 1) HT.out.bp
      simp at x2
      clear T5 x1
      go_wp2
      go_roundw
      case rel => exact ⟨k + 1, by omega, by go_num, HT.out, HL9.out⟩
      case measure => simp [intOf]; omega
    · obtain rfl : k = ops.length := by omega
      go_wp2
      go_ret
      exact ⟨_, rfl, HST.out.ob, HST.out.bl⟩
theorem rpackL_any (A : Nat → Prop) (t : TxD) (va : Value) (w : World) (h : SlE Enc.op A w va t.ops) : Calls Tryz.prog 19 #[.agg #[.string t.obj, va]] w fun e w' => ∃ v, e = .returned v ∧ OB w.heap.size w' v (packL t) ∧ Below w.heap.size w w' := by
  by_cases hE : txE t = 0
  · rw [show packL t = txL t t.ops.length from if_pos hE]
    exact rpack_ok A t va w h hE
  · rw [show packL t = [] from if_neg hE]
    exact rpack_bad A t va w h hE
end Go.Proofs.YtgdilkhaopnhaaaGreatDoor
namespace Go.Proofs.YtgdilkhaopnhaaaGreatDoor
open Go.RowKit Go.WideShapes

/-- a call that answers yes and makes nothing but memory -/
def Yes9 (w : World) (e : Ending) (w' : World) : Prop := e = .returned (.bool true) ∧ Below w.heap.size w w'
set_option maxRecDepth 100000 in
set_option maxHeartbeats 4000000 in
theorem same9_yes (A B : Nat → Prop) (t : TxD) (va vb : Value) (w : World) (ha : SlE Enc.op A w va t.ops) (hb : SlE Enc.op B w vb t.ops) (hl : t.ops.length ≤ 100000) :
    Calls Tryz.prog 20 #[.agg #[.string t.obj, va], .agg #[.string t.obj, vb]] w (Yes9 w) := by
  obtain ⟨aa, ca, rfl⟩ := ha.shape
  obtain ⟨ab, cb, rfl⟩ := hb.shape
  obtain ⟨ob, ops⟩ := t
  simp only at *
  have HA := Lib.hid ha
  have HB := Lib.hid hb
  clear ha hb
  go_enter Tryz.func20, Tryz.ntmps20
  go_wp2
  obtain ⟨w0, hw0⟩ : ∃ w0, w0 = (w.alloc (.cells #[.string ob, .slice aa ops.length ca] 28)).alloc (.cells #[.string ob, .slice ab ops.length cb] 28) := ⟨_, rfl⟩
  rw [← hw0]
  have B0 : w0.heap[w.heap.size]? = some (.cells #[.string ob, .slice aa ops.length ca] 28 (0, 0)) := by rw [hw0]; exact (Below.heap_alloc _ _ _ (by simp)).trans (heap_alloc_new _ _)
  have B1 : w0.heap[w.heap.size + 1]? = some (.cells #[.string ob, .slice ab ops.length cb] 28 (0, 0)) := by rw [hw0]; exact heap_alloc2_new _ _ _
  have hw : Below w.heap.size w w0 := by rw [hw0]; ((repeat' (first | exact Below.refl _ _ | refine below_drewN ?_ _ | refine Below.drew ?_ | refine Below.alloc ?_ ?_ _ | refine Below.trans ?_ (Below.mono (by assumption) ?_))); all_goals (first | exact Nat.le_refl _ | exact Below.size (by assumption) | omega | (simp; done) | (simp; omega)))
  have HA0 := Lib.hid (HA.out.ext hw)
  have HB0 := Lib.hid (HB.out.ext hw)
  have HW := Lib.hid hw
  have HB0' := Lib.hid B0
  have HB1' := Lib.hid B1
  clear hw0 hw B0 B1 HA HB
  go_loopw [5] (fun q wr => ∃ k : Nat, k ≤ ops.length ∧ q = .int .i64 k ∧ Below w0.heap.size w0 wr) (fun q _ => ops.length - (intOf q).toNat)
  case atStart => exact ⟨0, Nat.zero_le _, rfl, Below.refl _ _⟩
  case round =>
    obtain ⟨k, hk, rfl, hbr⟩ := hrel
    have HBR := Lib.hid hbr
    have h0 : w.heap.size < w0.heap.size := (Array.getElem?_eq_some_iff.1 HB0'.out).1
    have h1 : w.heap.size + 1 < w0.heap.size := (Array.getElem?_eq_some_iff.1 HB1'.out).1
    have hsr := hbr.size
    have hl0 : w.heap.size < wr.heap.size := by omega
    have hl1 : w.heap.size + 1 < wr.heap.size := by omega
    obtain ⟨x1, f1⟩ := blk_cell (i := 1) ((hbr.block _ h0).trans HB0'.out)
    obtain ⟨y1, g1⟩ := blk_cell (i := 1) ((hbr.block _ h1).trans HB1'.out)
    simp at x1 y1
    clear hbr
    by_cases hlt : k < ops.length
    · have HAr := Lib.hid (HA0.out.ext HBR.out)
      have HBr := Lib.hid (HB0.out.ext HBR.out)
      obtain ⟨b, off, v, rfl, hb, -, c0, c1, c2, c3, c4, hv⟩ := Ops.at HAr.out hlt
      obtain ⟨b', off', v', rfl, hb', -, d0, d1, d2, d3, d4, hv'⟩ := Ops.at HBr.out hlt
      obtain ⟨va, vc, rfl⟩ := hv.shape
      obtain ⟨va', vc', rfl⟩ := hv'.shape
      have s1 : ∀ o1 o2, (Go.convert 22 9 (.slice va (ops[k]).data.length vc)).run Tryz.prog ((wr.alloc o1).alloc o2) = .ok (.string ⟨(ops[k]).data.toArray⟩) ((wr.alloc o1).alloc o2) := fun o1 o2 => cnv_bytes hv _ (by ((repeat' (first | exact Below.refl _ _ | refine below_drewN ?_ _ | refine Below.drew ?_ | refine Below.alloc ?_ ?_ _ | refine Below.trans ?_ (Below.mono (by assumption) ?_))); all_goals (first | exact Nat.le_refl _ | exact Below.size (by assumption) | omega | (simp; done) | (simp; omega))))
      have s2 : ∀ o1 o2, (Go.convert 22 9 (.slice va' (ops[k]).data.length vc')).run Tryz.prog ((wr.alloc o1).alloc o2) = .ok (.string ⟨(ops[k]).data.toArray⟩) ((wr.alloc o1).alloc o2) := fun o1 o2 => cnv_bytes hv' _ (by ((repeat' (first | exact Below.refl _ _ | refine below_drewN ?_ _ | refine Below.drew ?_ | refine Below.alloc ?_ ?_ _ | refine Below.trans ?_ (Below.mono (by assumption) ?_))); all_goals (first | exact Nat.le_refl _ | exact Below.size (by assumption) | omega | (simp; done) | (simp; omega))))
      clear hv hv'
      go_wp2
      go_roundw
      case rel => exact ⟨k + 1, by omega, by go_num, HBR.out.trans (Below.mono (by ((repeat' (first | exact Below.refl _ _ | refine below_drewN ?_ _ | refine Below.drew ?_ | refine Below.alloc ?_ ?_ _ | refine Below.trans ?_ (Below.mono (by assumption) ?_))); all_goals (first | exact Nat.le_refl _ | exact Below.size (by assumption) | omega | (simp; done) | (simp; omega))) : Below wr.heap.size wr _) hsr)⟩
      case measure => simp [intOf]; omega
    · go_wp2
      go_ret
      exact ⟨rfl, HW.out.trans (HBR.out.mono HW.out.size)⟩
end Go.Proofs.YtgdilkhaopnhaaaGreatDoor
namespace Go.Proofs.YtgdilkhaopnhaaaGreatDoor
open Go.RowKit

namespace Rd
theorem take_inv {r : Rd} {n : Nat} (h : (r.take n).2.e = 0) : r.e = 0 ∧ r.l = (r.take n).1 ++ (r.take n).2.l ∧ (r.take n).1.length = n := by
  by_cases h0 : r.e = 0
  · by_cases h1 : r.l.length < n
    · exfalso
      unfold take at h
      rw [if_neg (fun g => g h0), if_pos h1] at h
      cases h
    · have e : r.take n = (r.l.take n, ⟨r.l.drop n, 0⟩) := by
        unfold take
        rw [if_neg (fun g => g h0), if_neg h1]
      rw [e]
      exact ⟨h0, by simp, by simp; omega⟩
  · exfalso
    unfold take at h
    rw [if_pos h0] at h
    exact h0 h
theorem num_inv {r : Rd} {w : Nat} (h : (r.num w).2.e = 0) : r.e = 0 ∧ r.l = be w (r.num w).1 ++ (r.num w).2.l := by
  obtain ⟨h0, h1, h2⟩ := take_inv (n := w) h
  refine ⟨h0, ?_⟩
  have e : be w (r.num w).1 = (r.take w).1 := by
    have := be_nb (r.take w).1
    rw [h2] at this
    exact this
  rw [e]
  exact h1
theorem fail_ne {r : Rd} {x : Nat} (hx : x ≠ 0) : (r.fail x).e ≠ 0 := by
  unfold fail
  split
  · exact hx
  · rename_i h
    exact fun h0 => h ⟨h0, hx⟩
theorem blob_inv {r : Rd} {m : Nat} (h : (r.blob m).2.e = 0) : r.e = 0 ∧ r.l = be 2 (r.blob m).1.length ++ ((r.blob m).1 ++ (r.blob m).2.l) := by
  by_cases h1 : m < (r.num 2).1
  · exfalso
    unfold blob at h
    rw [if_pos h1] at h
    exact fail_ne (by decide) h
  · have e : r.blob m = (r.num 2).2.take (r.num 2).1 := by
      unfold blob
      rw [if_neg h1]
    rw [e] at h ⊢
    obtain ⟨k0, k1, k2⟩ := take_inv h
    obtain ⟨j0, j1⟩ := num_inv k0
    refine ⟨j0, ?_⟩
    rw [k2, ← k1]
    exact j1
theorem fin_inv {r : Rd} (h : r.fin.e = 0) : r.e = 0 ∧ r.l = [] := by
  unfold fin at h
  split at h
  · exact absurd h (fail_ne (by decide))
  · rename_i h1
    exact ⟨h, List.eq_nil_of_length_eq_zero (by omega)⟩
theorem take_bad {r : Rd} (h : r.e ≠ 0) (n : Nat) : r.take n = ([], r) := if_pos h
theorem take_short {l : List UInt8} {n : Nat} (h : l.length < n) : (⟨l, 0⟩ : Rd).take n = ([], ⟨[], 10⟩) := by
  unfold take
  rw [if_neg (by simp), if_pos h]
theorem num_short {l : List UInt8} {w : Nat} (h : l.length < w) : (⟨l, 0⟩ : Rd).num w = (0, ⟨[], 10⟩) := by
  unfold num
  rw [take_short h]
  rfl
end Rd
theorem unpOp_inv {r : Rd} (h : (unpOp r).2.e = 0) : r.e = 0 ∧ r.l = opBytes (unpOp r).1 ++ (unpOp r).2.l := by
  unfold unpOp at h ⊢
  simp only at h ⊢
  obtain ⟨a4, b4⟩ := Rd.blob_inv h
  obtain ⟨a3, b3⟩ := Rd.blob_inv a4
  obtain ⟨a2, b2⟩ := Rd.num_inv a3
  obtain ⟨a1, b1⟩ := Rd.num_inv a2
  obtain ⟨a0, b0⟩ := Rd.num_inv a1
  refine ⟨a0, ?_⟩
  rw [b0, b1, b2, b3, b4]
  unfold opBytes
  simp [List.append_assoc]
theorem unpOps_inv : ∀ (n : Nat) {r : Rd}, (unpOps n r).2.e = 0 → r.e = 0 ∧ r.l = (unpOps n r).1.flatMap opBytes ++ (unpOps n r).2.l ∧ (unpOps n r).1.length = n
  | 0, r, h => ⟨h, by simp [unpOps], rfl⟩
  | n + 1, r, h => by
    by_cases h0 : r.e = 0
    · rw [unpOps_go h0] at h ⊢
      simp only at h ⊢
      obtain ⟨k0, k1, k2⟩ := unpOps_inv n h
      obtain ⟨j0, j1⟩ := unpOp_inv k0
      refine ⟨j0, ?_, by simp [k2]⟩
      rw [j1, k1]
      simp [List.append_assoc]
    · rw [unpOps_halt h0] at h
      exact absurd h h0
/-- bytes that are unpacked are packed again -/
theorem pack_of_un {l : List UInt8} (h : unpE l = 0) : packL (unpT l) = l := by
  have hf : (unpY l).2.fin.e = 0 := by
    unfold unpE at h
    split at h
    · assumption
    · rename_i h1
      exact absurd (by exact_mod_cast h) h1
  have hE : txE (unpT l) = 0 := by
    unfold unpE at h
    rw [if_pos hf] at h
    exact h
  obtain ⟨f0, f1⟩ := Rd.fin_inv hf
  obtain ⟨g0, g1, g2⟩ := unpOps_inv (unpN l).1 (r := unpC l) f0
  have h12 : ¬ 12 < (unpN l).1 := fun hc => by
    unfold unpC at g0
    rw [if_pos hc] at g0
    exact Rd.fail_ne (by decide) g0
  have hC : unpC l = (unpN l).2 := if_neg h12
  rw [hC] at g0
  obtain ⟨n0, n1⟩ := Rd.num_inv (r := (unpHead l).2) (w := 1) g0
  obtain ⟨-, m1⟩ := Rd.blob_inv (r := ⟨l, 0⟩) (m := 12) n0
  have e1 : l = be 2 (unpHead l).1.length ++ ((unpHead l).1 ++ (unpHead l).2.l) := m1
  have e2 : (unpHead l).2.l = be 1 (unpN l).1 ++ (unpN l).2.l := n1
  have e3 : (unpN l).2.l = (unpY l).1.flatMap opBytes ++ (unpY l).2.l := by rw [← hC]; exact g1
  have e4 : (unpY l).2.l = [] := f1
  have e5 : (unpY l).1.length = (unpN l).1 := g2
  have hp : packL (unpT l) = txL (unpT l) (unpT l).ops.length := if_pos hE
  rw [hp]
  have e6 : l = be 2 (unpHead l).1.length ++ ((unpHead l).1 ++ (be 1 (unpY l).1.length ++ ((unpY l).1.flatMap opBytes ++ []))) := by
    rw [e5, ← e4, ← e3, ← e2]
    exact e1
  unfold txL unpT
  simp only [List.take_length]
  rw [List.append_nil] at e6
  rw [List.nil_append, List.append_assoc, List.append_assoc]
  exact e6.symm
theorem un_op {o : OpD} (h : opP o) (R : List UInt8) : unpOp ⟨opBytes o ++ R, 0⟩ = (o, ⟨R, 0⟩) := by
  obtain ⟨k, f, n, nm, d⟩ := o
  obtain ⟨p1, p2, p3, p4, p5, p6, p7, p8⟩ := h
  simp only at p1 p2 p3 p4 p5 p6 p7 p8
  obtain ⟨k, rfl⟩ := Int.eq_ofNat_of_zero_le (by omega : 0 ≤ k)
  obtain ⟨f, rfl⟩ := Int.eq_ofNat_of_zero_le p3
  obtain ⟨n, rfl⟩ := Int.eq_ofNat_of_zero_le p5
  have hnl : nm.data.toList.length = nm.size := by simp
  have e : opBytes ⟨(k : Int), (f : Int), (n : Int), nm, d⟩ ++ R = be 1 k ++ (be 6 f ++ (be 6 n ++ (be 2 nm.data.toList.length ++ (nm.data.toList ++ (be 2 d.length ++ (d ++ R)))))) := by
    simp [opBytes, List.append_assoc]
  rw [e]
  have s0 := Rd.num_be 1 k (be 6 f ++ (be 6 n ++ (be 2 nm.data.toList.length ++ (nm.data.toList ++ (be 2 d.length ++ (d ++ R)))))) (by omega)
  have s1 := Rd.num_be 6 f (be 6 n ++ (be 2 nm.data.toList.length ++ (nm.data.toList ++ (be 2 d.length ++ (d ++ R))))) (by omega)
  have s2 := Rd.num_be 6 n (be 2 nm.data.toList.length ++ (nm.data.toList ++ (be 2 d.length ++ (d ++ R)))) (by omega)
  have s3 := Rd.blob_be 12 nm.data.toList (be 2 d.length ++ (d ++ R)) (by omega) (by omega)
  have s4 := Rd.blob_be 2048 d R (by omega) (by omega)
  unfold unpOp
  simp only [s0, s1, s2, s3, s4]
theorem un_ops {l : List OpD} (h : ∀ o ∈ l, opP o) (R : List UInt8) (m : Nat) : unpOps (l.length + m) ⟨l.flatMap opBytes ++ R, 0⟩ = (l ++ (unpOps m ⟨R, 0⟩).1, (unpOps m ⟨R, 0⟩).2) := by
  induction l with
  | nil => simp
  | cons o l ih =>
    have e : (o :: l).length + m = (l.length + m) + 1 := by simp; omega
    have e2 : (o :: l).flatMap opBytes ++ R = opBytes o ++ (l.flatMap opBytes ++ R) := by simp
    rw [e, e2, unpOps_go rfl, un_op (h o (by simp)), ih (fun o ho => h o (by simp [ho]))]
    rfl
/-- behind the head and the number of ops -/
theorem un_head {ob : ByteArray} (hob : nameB ob = true) {n : Nat} (hn : n ≤ 12) (R : List UInt8) :
    unpHead (be 2 ob.data.toList.length ++ ob.data.toList ++ be 1 n ++ R) = (ob.data.toList, ⟨be 1 n ++ R, 0⟩) ∧ unpN (be 2 ob.data.toList.length ++ ob.data.toList ++ be 1 n ++ R) = (n, ⟨R, 0⟩) ∧ unpC (be 2 ob.data.toList.length ++ ob.data.toList ++ be 1 n ++ R) = ⟨R, 0⟩ := by
  have hl := nameB_len hob
  have hol : ob.data.toList.length = ob.size := by simp
  have h0 : unpHead (be 2 ob.data.toList.length ++ ob.data.toList ++ be 1 n ++ R) = (ob.data.toList, ⟨be 1 n ++ R, 0⟩) := by
    unfold unpHead
    have := Rd.blob_be 12 ob.data.toList (be 1 n ++ R) (by omega) (by omega)
    rw [← this]
    simp [List.append_assoc]
  have h1 : unpN (be 2 ob.data.toList.length ++ ob.data.toList ++ be 1 n ++ R) = (n, ⟨R, 0⟩) := by
    unfold unpN
    rw [h0]
    exact Rd.num_be 1 n R (by omega)
  refine ⟨h0, h1, ?_⟩
  unfold unpC
  rw [h1, if_neg (by show ¬ 12 < n; omega)]
theorem txL_all (t : TxD) : txL t t.ops.length = be 2 t.obj.data.toList.length ++ t.obj.data.toList ++ be 1 t.ops.length ++ t.ops.flatMap opBytes := by
  unfold txL
  rw [List.take_length, List.nil_append]
theorem un_all {t : TxD} (hE : txE t = 0) (R : List UInt8) : unpT (txL t t.ops.length ++ R) = t ∧ unpY (txL t t.ops.length ++ R) = (t.ops, ⟨R, 0⟩) := by
  obtain ⟨hl, hnm, hall⟩ := txE_ok hE
  obtain ⟨-, hop⟩ := txE_ok' hE
  rw [txL_all, List.append_assoc]
  obtain ⟨h0, h1, h2⟩ := un_head hnm hl (t.ops.flatMap opBytes ++ R)
  have hY : unpY (be 2 t.obj.data.toList.length ++ t.obj.data.toList ++ be 1 t.ops.length ++ (t.ops.flatMap opBytes ++ R)) = (t.ops, ⟨R, 0⟩) := by
    unfold unpY
    rw [h1, h2]
    have := un_ops hop R 0
    simpa [unpOps] using this
  refine ⟨?_, hY⟩
  unfold unpT
  rw [h0, hY]
/-- what is packed is unpacked -/
theorem un_of_pack {t : TxD} (hE : txE t = 0) : txUn (txL t t.ops.length) = (t, 0) := by
  obtain ⟨h1, h2⟩ := un_all hE []
  rw [List.append_nil] at h1 h2
  have hE0 : unpE (txL t t.ops.length) = 0 := by
    unfold unpE
    rw [h1, h2]
    exact (if_pos (by rfl)).trans hE
  rw [txUn_ok hE0, h1]
/-- one byte more -/
theorem un_more {t : TxD} (hE : txE t = 0) (b : UInt8) : (txUn (txL t t.ops.length ++ [b])).2 = 11 := by
  obtain ⟨-, h2⟩ := un_all hE [b]
  have e : unpE (txL t t.ops.length ++ [b]) = 11 := by
    unfold unpE
    rw [h2, if_neg (by simp [Rd.fin, Rd.fail])]
    rfl
  rw [txUn_bad (by rw [e]; decide), e]
theorem un_cut_op {o : OpD} (h : opP o) : (unpOp ⟨(opBytes o).dropLast, 0⟩).2 = ⟨[], 10⟩ := by
  obtain ⟨k, f, n, nm, d⟩ := o
  obtain ⟨p1, p2, p3, p4, p5, p6, p7, p8⟩ := h
  simp only at p1 p2 p3 p4 p5 p6 p7 p8
  obtain ⟨k, rfl⟩ := Int.eq_ofNat_of_zero_le (by omega : 0 ≤ k)
  obtain ⟨f, rfl⟩ := Int.eq_ofNat_of_zero_le p3
  obtain ⟨n, rfl⟩ := Int.eq_ofNat_of_zero_le p5
  have hnl : nm.data.toList.length = nm.size := by simp
  have hne : be 2 d.length ++ d ≠ [] := by
    intro h
    have := congrArg List.length h
    simp [be_length] at this
  have e : (opBytes ⟨(k : Int), (f : Int), (n : Int), nm, d⟩).dropLast = be 1 k ++ (be 6 f ++ (be 6 n ++ (be 2 nm.data.toList.length ++ (nm.data.toList ++ (be 2 d.length ++ d).dropLast)))) := by
    have e0 : opBytes ⟨(k : Int), (f : Int), (n : Int), nm, d⟩ = (be 1 k ++ (be 6 f ++ (be 6 n ++ (be 2 nm.data.toList.length ++ nm.data.toList)))) ++ (be 2 d.length ++ d) := by
      simp [opBytes, List.append_assoc]
    rw [e0, List.dropLast_append_of_ne_nil hne]
    simp [List.append_assoc]
  rw [e]
  generalize hX : (be 2 d.length ++ d).dropLast = X
  have s0 := Rd.num_be 1 k (be 6 f ++ (be 6 n ++ (be 2 nm.data.toList.length ++ (nm.data.toList ++ X)))) (by omega)
  have s1 := Rd.num_be 6 f (be 6 n ++ (be 2 nm.data.toList.length ++ (nm.data.toList ++ X))) (by omega)
  have s2 := Rd.num_be 6 n (be 2 nm.data.toList.length ++ (nm.data.toList ++ X)) (by omega)
  have s3 := Rd.blob_be 12 nm.data.toList X (by omega) (by omega)
  have s4 : (⟨X, 0⟩ : Rd).blob 2048 = ([], ⟨[], 10⟩) := by
    by_cases hd : d = []
    · subst hd
      have hXl : X.length < 2 := by rw [← hX]; simp [be_length]
      unfold Rd.blob
      rw [Rd.num_short hXl, if_neg (by simp)]
      exact Rd.take_bad (by decide) 0
    · have hX2 : X = be 2 d.length ++ d.dropLast := by rw [← hX, List.dropLast_append_of_ne_nil hd]
      have hn2 := Rd.num_be 2 d.length d.dropLast (by omega)
      unfold Rd.blob
      rw [hX2, hn2, if_neg (by show ¬ 2048 < d.length; omega)]
      refine Rd.take_short ?_
      have : 0 < d.length := List.length_pos_iff.2 hd
      simp
      omega
  unfold unpOp
  simp only [s0, s1, s2, s3, s4]
/-- one byte fewer -/
theorem un_less {t : TxD} (hE : txE t = 0) : (txUn (txL t t.ops.length).dropLast).2 = 10 := by
  obtain ⟨hl, hnm, -⟩ := txE_ok hE
  obtain ⟨-, hop⟩ := txE_ok' hE
  have hfin : ∀ l y, unpY l = y → y.2 = ⟨[], 10⟩ → (txUn l).2 = 10 := by
    intro l y h1 h2
    have e : unpE l = 10 := by
      unfold unpE
      rw [h1, h2, if_neg (by simp [Rd.fin])]
      rfl
    rw [txUn_bad (by rw [e]; decide), e]
  rw [txL_all]
  rcases List.eq_nil_or_concat t.ops with h0 | ⟨init, o, h0⟩
  · rw [h0]
    have e : (be 2 t.obj.data.toList.length ++ t.obj.data.toList ++ be 1 ([] : List OpD).length ++ ([] : List OpD).flatMap opBytes).dropLast = be 2 t.obj.data.toList.length ++ t.obj.data.toList := by
      rw [show be 1 ([] : List OpD).length = [0] from rfl, List.flatMap_nil, List.append_nil, List.dropLast_concat]
    rw [e]
    have hol : t.obj.data.toList.length = t.obj.size := by simp
    have hnl := nameB_len hnm
    have h1 : unpHead (be 2 t.obj.data.toList.length ++ t.obj.data.toList) = (t.obj.data.toList, ⟨[], 0⟩) := by
      unfold unpHead
      have := Rd.blob_be 12 t.obj.data.toList [] (by omega) (by omega)
      rw [List.append_nil] at this
      exact this
    have h2 : unpN (be 2 t.obj.data.toList.length ++ t.obj.data.toList) = (0, ⟨[], 10⟩) := by
      unfold unpN
      rw [h1]
      exact Rd.num_short (by simp)
    refine hfin _ ([], ⟨[], 10⟩) ?_ rfl
    unfold unpY unpC
    rw [h2, if_neg (by simp)]
    rfl
  · rw [List.concat_eq_append] at h0
    rw [h0] at hop hl ⊢
    have hne : opBytes o ≠ [] := by
      intro h
      have := congrArg List.length h
      simp [opBytes, be_length] at this
    have e : (be 2 t.obj.data.toList.length ++ t.obj.data.toList ++ be 1 (init ++ [o]).length ++ (init ++ [o]).flatMap opBytes).dropLast = be 2 t.obj.data.toList.length ++ t.obj.data.toList ++ be 1 (init ++ [o]).length ++ (init.flatMap opBytes ++ (opBytes o).dropLast) := by
      have e0 : (init ++ [o]).flatMap opBytes = init.flatMap opBytes ++ opBytes o := by simp
      rw [e0, ← List.append_assoc, List.dropLast_append_of_ne_nil hne, List.append_assoc]
    rw [e]
    obtain ⟨-, h1, h2⟩ := un_head hnm hl (init.flatMap opBytes ++ (opBytes o).dropLast)
    refine hfin _ (init ++ (unpOps 1 ⟨(opBytes o).dropLast, 0⟩).1, (unpOps 1 ⟨(opBytes o).dropLast, 0⟩).2) ?_ ?_
    · unfold unpY
      rw [h1, h2]
      have := un_ops (l := init) (fun o ho => hop o (by simp [ho])) (opBytes o).dropLast 1
      simpa using this
    · have hc := un_cut_op (hop o (by simp))
      generalize (opBytes o).dropLast = X at *
      have e1 : unpOps 1 ⟨X, 0⟩ = ((unpOp ⟨X, 0⟩).1 :: (unpOps 0 (unpOp ⟨X, 0⟩).2).1, (unpOps 0 (unpOp ⟨X, 0⟩).2).2) := unpOps_go rfl
      rw [e1, hc]
      rfl
end Go.Proofs.YtgdilkhaopnhaaaGreatDoor
