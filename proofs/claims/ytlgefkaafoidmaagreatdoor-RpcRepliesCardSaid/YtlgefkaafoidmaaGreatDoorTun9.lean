/- The walk of txn.Unpack. -/
import Derived.Test.YtlgefkaafoidmaaGreatDoorGL
import Derived.Test.YtlgefkaafoidmaaGreatDoorGK
import Derived.Test.YtlgefkaafoidmaaGreatDoorGE
import Derived.Test.YtlgefkaafoidmaaGreatDoorGJ
import Derived.Test.YtlgefkaafoidmaaGreatDoorGM
namespace Go.Proofs.YtlgefkaafoidmaaGreatDoor
open Go.RowKit Go.WideShapes

def TunR (x : TxD × Int) (w : World) (e : Ending) (w' : World) : Prop := ∃ va, e = .returned (.tuple #[.agg #[.string x.1.obj, va], .int .i64 x.2]) ∧ SlE Enc.op (fun b => w.heap.size ≤ b) w' va x.1.ops ∧ Below w.heap.size w w'
theorem IsRd.set {A : Nat → Prop} {w : World} {p q j : Nat} {r : Rd} {x : Value} (h : IsRd A w p r) (hq : q ≠ p) (hA : ∀ b, A b → b ≠ q) : IsRd A (w.setCell ⟨q, j, none⟩ x) p r :=
  h.same (B := fun b => b ≠ q) ⟨by simp [World.setCell], fun b hb _ => Below.heap_setCell _ _ _ _ hb⟩ (fun e => hq e.symm) hA
section
variable {w : World} {p : Nat} {t : TypeId} {a b c d e x : Value}
theorem set5_blk0 (h : w.heap[p]? = some (.cells #[a, b, c, d, e] t (0, 0))) : (w.setCell ⟨p, 0, none⟩ x).heap[p]? = some (.cells #[x, b, c, d, e] t (0, 0)) := by simp [World.setCell, Array.getElem?_modify, h]
theorem set5_blk1 (h : w.heap[p]? = some (.cells #[a, b, c, d, e] t (0, 0))) : (w.setCell ⟨p, 1, none⟩ x).heap[p]? = some (.cells #[a, x, c, d, e] t (0, 0)) := by simp [World.setCell, Array.getElem?_modify, h]
theorem set5_blk2 (h : w.heap[p]? = some (.cells #[a, b, c, d, e] t (0, 0))) : (w.setCell ⟨p, 2, none⟩ x).heap[p]? = some (.cells #[a, b, x, d, e] t (0, 0)) := by simp [World.setCell, Array.getElem?_modify, h]
theorem set5_blk3 (h : w.heap[p]? = some (.cells #[a, b, c, d, e] t (0, 0))) : (w.setCell ⟨p, 3, none⟩ x).heap[p]? = some (.cells #[a, b, c, x, e] t (0, 0)) := by simp [World.setCell, Array.getElem?_modify, h]
theorem set5_blk4 (h : w.heap[p]? = some (.cells #[a, b, c, d, e] t (0, 0))) : (w.setCell ⟨p, 4, none⟩ x).heap[p]? = some (.cells #[a, b, c, d, x] t (0, 0)) := by simp [World.setCell, Array.getElem?_modify, h]
theorem set2_blk (h : w.heap[p]? = some (.cells #[a, b] t (0, 0))) : ((w.setCell ⟨p, 0, none⟩ x).setCell ⟨p, 1, none⟩ c).heap[p]? = some (.cells #[x, c] t (0, 0)) := by simp [World.setCell, Array.getElem?_modify, h]
theorem set2_blk1 (h : w.heap[p]? = some (.cells #[a, b] t (0, 0))) : (w.setCell ⟨p, 1, none⟩ x).heap[p]? = some (.cells #[a, x] t (0, 0)) := by simp [World.setCell, Array.getElem?_modify, h]
end
theorem results_cell_t1 {P : Program} {fn : Func} {p u1 : Tmp} {ty : TypeId} (h : fn.results = #[.cell p ty, .tmp u1]) (tmps : Array Value) (w : World) (g : Nat) (t : TypeId) (cs : Array Value) (fr : Nat × Nat) (d : TypeDesc)
    (hp : tmps.getD p undef = .pointer (some ⟨g, 0, none⟩)) (hg : w.heap[g]? = some (.cells cs t fr))
    (hu : P.underlying ty = some d) (hd : (match d with | .struct _ | .array _ _ => true | _ => false) = true) (hi : (P.info? ty).map (·.size) = some cs.size) :
    (results fn tmps).run P w = .ok (.tuple #[.agg cs, tmps.getD u1 undef]) w := by
  have hp' : tmps[p]?.getD undef = .pointer (some ⟨g, 0, none⟩) := by simpa using hp
  simp [results, h, hp', asAddr, run_loadVar_row w g t ty cs fr d hg hu hd hi]
theorem infoOpT : (Tryz.prog.info? 58).map (fun i => (i.zero, i.size, i.bytes)) = some (some (.agg #[.int .i64 0, .int .i64 0, .int .i64 0, .string ⟨#[]⟩, .slice none 0 0]), 5, 64) := by kernel_rfl
theorem txUn_ok {l : List UInt8} (h : unpE l = 0) : txUn l = (unpT l, 0) := if_pos h
theorem txUn_bad {l : List UInt8} (h : unpE l ≠ 0) : txUn l = (⟨ByteArray.empty, []⟩, unpE l) := if_neg h
theorem unpE_fin {l : List UInt8} {y : List OpD × Rd} (hy : unpY l = y) (h : y.2.fin.e ≠ 0) : unpE l = y.2.fin.e := by unfold unpE; rw [hy, if_neg h]
theorem unpE_chk {l : List UInt8} {y : List OpD × Rd} (hy : unpY l = y) (h : y.2.fin.e = 0) : unpE l = txE ⟨⟨(unpHead l).1.toArray⟩, y.1⟩ := by unfold unpE unpT; rw [hy, if_pos h]
theorem TunR.ok {l : List UInt8} {y : List OpD × Rd} {va : Value} {w w' : World} (hy : unpY l = y) (h : y.2.fin.e = 0) (hE : txE ⟨⟨(unpHead l).1.toArray⟩, y.1⟩ = 0) (hv : SlE Enc.op (fun b => w.heap.size ≤ b) w' va y.1) (hb : Below w.heap.size w w') :
    TunR (txUn l) w (.returned (.tuple #[.agg #[.string ⟨(unpHead l).1.toArray⟩, va], .int .i64 0])) w' := by
  rw [txUn_ok ((unpE_chk hy h).trans hE)]
  refine ⟨va, rfl, ?_, hb⟩
  show SlE _ _ _ _ (unpY l).1
  rw [hy]
  exact hv
theorem TunR.bad {l : List UInt8} {E : Int} {w w' : World} (h : unpE l = E) (hE : E ≠ 0) (hb : Below w.heap.size w w') : TunR (txUn l) w (.returned (.tuple #[.agg #[.string ⟨#[]⟩, .slice none 0 0], .int .i64 E])) w' := by
  rw [txUn_bad (by rw [h]; exact hE), h]
  exact ⟨_, rfl, SlE.nil _ _ _, hb⟩
set_option maxRecDepth 100000 in
set_option maxHeartbeats 16000000 in
theorem tunpack_any (A : Nat → Prop) (v : Value) (l : List UInt8) (w : World) (hv : RB A w v l) (hl : l.length ≤ 100000) : Calls Tryz.prog 29 #[v] w (TunR (txUn l) w) := by
  obtain ⟨a0, c0, rfl⟩ := hv.shape
  have HV := Lib.hid hv
  obtain ⟨i0, hi, hz0, hz1, hz2⟩ := info_parts infoOpT
  clear hv
  go_enter Tryz.func29, Tryz.ntmps29
  go_wp2_with fail
  obtain ⟨w0, hw0⟩ : ∃ w0, w0 = w.alloc (.cells #[.string ⟨#[]⟩, .slice none 0 0] 24) := ⟨_, rfl⟩
  rw [← hw0]
  have hb0 : Below w.heap.size w w0 := by rw [hw0]; ((repeat' (first | exact Below.refl _ _ | refine below_drewN ?_ _ | refine Below.drew ?_ | refine Below.alloc ?_ ?_ _ | refine Below.trans ?_ (Below.mono (by assumption) ?_))); all_goals (first | exact Nat.le_refl _ | exact Below.size (by assumption) | omega | (simp; done) | (simp; omega)))
  have R0 := Lib.hid (show w0.heap[w.heap.size]? = some (.cells #[.string ⟨#[]⟩, .slice none 0 0] 24 (0, 0)) from by rw [hw0]; exact heap_alloc_new _ _)
  have hs0 : w.heap.size < w0.heap.size := by rw [hw0]; simp
  refine (read_any A _ l _ (HV.out.ext hb0) hl).mono ?_
  rintro e w1 ⟨p, rfl, hr1, hp1, hb1⟩
  have RD := Lib.hid hr1
  have RR := Lib.hid (dblk hb1 R0.out)
  have HB := Lib.hid (dcall hb0 hb1)
  have HSM : Hid (Rd.small ⟨l, 0⟩) := Lib.hid ⟨hl, (by show (0 : Nat) < 1000; decide)⟩
  have hpw : p < w1.heap.size := hr1.lt
  clear hw0 hb0 R0 hr1 hb1 HV
  generalize w0.heap.size = s0 at *
  go_wp2_with fail
  refine (rblob_any _ p 12 _ _ RD.out (by omega) HSM.out.len HSM.out.err (HSM.out.num 2).err).mono ?_
  rintro e w2 ⟨vb, rfl, hvb, hr2, hf2⟩
  have HH : Hid (unpHead l = (⟨l, 0⟩ : Rd).blob 12) := Lib.hid rfl
  have HSM2 := Lib.hid (HSM.out.blob 12)
  rw [← HH.out] at hvb hr2 HSM2
  obtain ⟨ab, cb, rfl⟩ := hvb.shape
  have s2 := cnv_bytes hvb w2 (Below.refl _ _)
  have RD2 := Lib.hid hr2
  have RR2 := Lib.hid ((hf2.block _ (by omega) (by omega)).trans RR.out)
  have HB2 := Lib.hid (HB.out.trans (hf2.below HB.out.size fun j hj h => by omega))
  have hs2 := hf2.size
  clear hvb hr2 hf2 RD RR HB HSM HH
  go_upto_region 3 with fail
  obtain ⟨w3, hw3⟩ : ∃ w3, w3 = w2.alloc (.cells #[.string ⟨(unpHead l).1.toArray⟩, .slice none 0 0] 24) := ⟨_, rfl⟩
  rw [← hw3]
  have hb3 : Below w2.heap.size w2 w3 := by rw [hw3]; ((repeat' (first | exact Below.refl _ _ | refine below_drewN ?_ _ | refine Below.drew ?_ | refine Below.alloc ?_ ?_ _ | refine Below.trans ?_ (Below.mono (by assumption) ?_))); all_goals (first | exact Nat.le_refl _ | exact Below.size (by assumption) | omega | (simp; done) | (simp; omega)))
  have T3 := Lib.hid (show w3.heap[w2.heap.size]? = some (.cells #[.string ⟨(unpHead l).1.toArray⟩, .slice none 0 0] 24 (0, 0)) from by rw [hw3]; exact heap_alloc_new _ _)
  have RD3 := Lib.hid (RD2.out.ext hb3)
  have RR3 := Lib.hid (dblk hb3 RR2.out)
  have HB3 := Lib.hid (dcall HB2.out hb3)
  have hs3 : w2.heap.size < w3.heap.size := by rw [hw3]; simp
  have hpt : p < w2.heap.size := by omega
  clear hw3 hb3 RD2 RR2 HB2 s2
  generalize w2.heap.size = pt at *
  go_wp2_with fail
  refine (rnum_any _ p 1 _ _ RD3.out (by omega) (by omega) HSM2.out.len HSM2.out.err).mono ?_
  rintro e w4 ⟨rfl, hr4, hf4⟩
  have HN : Hid (unpN l = (unpHead l).2.num 1) := Lib.hid rfl
  have HSM4 := Lib.hid (HSM2.out.num 1)
  have hnl := Rd.num_lt (unpHead l).2 1
  rw [← HN.out] at hr4 HSM4 hnl ⊢
  have RD4 := Lib.hid hr4
  have RR4 := Lib.hid ((hf4.block _ (by omega) (by omega)).trans RR3.out)
  have T4 := Lib.hid ((hf4.block _ (by omega) (by omega)).trans T3.out)
  have HB4 := Lib.hid (HB3.out.trans (hf4.below HB3.out.size fun j hj h => by omega))
  have hs4 := hf4.size
  have HC : Hid (unpC l = if 12 < (unpN l).1 then (unpN l).2.fail 11 else (unpN l).2) := Lib.hid rfl
  have HY : Hid (unpY l = unpOps (unpN l).1 (unpC l)) := Lib.hid rfl
  clear hr4 hf4 RD3 RR3 T3 HB3 HN HSM2
  generalize unpC l = C at *
  generalize unpN l = N at *
  obtain ⟨n, rn⟩ := N
  simp only at HC HY HSM4 RD4 hnl ⊢
  go_upto_if 18 with fail
  go_cut [6] (fun s6 wx => s6 = .int .i64 (n : Nat) ∧ IsRd (fun b => s0 ≤ b ∧ b < p) wx p C ∧ C.small ∧ wx.heap[w.heap.size]? = some (.cells #[.string ⟨#[]⟩, .slice none 0 0] 24 (0, 0)) ∧ wx.heap[pt]? = some (.cells #[.string ⟨(unpHead l).1.toArray⟩, .slice none 0 0] 24 (0, 0)) ∧ Below w.heap.size w wx)
  case first =>
    by_cases h12 : 12 < n
    · have h12' : (12 : Int) < n := by omega
      have HCC : Hid (C = rn.fail 11) := Lib.hid (by rw [HC.out, if_pos h12])
      clear h12 HC
      go_wp2_with fail
      refine (fail_any _ p rn 11 _ RD4.out (by omega) HSM4.out.err).mono ?_
      rintro e w5 ⟨rfl, hr5, hf5⟩
      go_wp2_with fail
      go_meet
      exact ⟨rfl, by rw [HCC.out]; exact hr5, by rw [HCC.out]; exact HSM4.out.fail (by decide), (hf5.block _ (by omega) (by omega)).trans RR4.out, (hf5.block _ (by omega) (by omega)).trans T4.out, HB4.out.trans (hf5.below HB4.out.size fun j hj h => by omega)⟩
    · have h12' : ¬ (12 : Int) < n := by omega
      have HCC : Hid (C = rn) := Lib.hid (by rw [HC.out, if_neg h12])
      clear h12 HC
      go_wp2_with fail
      go_meet
      exact ⟨rfl, by rw [HCC.out]; exact RD4.out, by rw [HCC.out]; exact HSM4.out, RR4.out, T4.out, HB4.out⟩
  case rest =>
    obtain ⟨rfl, hR, hS, hRR, hT, hB⟩ := hcut
    have HS0 := Lib.hid hS
    have RD0 := Lib.hid hR
    have RR0 := Lib.hid hRR
    have T0 := Lib.hid hT
    have HB0 := Lib.hid hB
    have hpc : pt < wc.heap.size := (Array.getElem?_eq_some_iff.1 hT).1
    clear hR hS hRR hT hB RD4 RR4 T4 HB4 HSM4 HC
    go_wp2
    go_loopw [22] (fun q22 wr => ∃ k : Nat, k ≤ n ∧ q22 = .int .i64 k ∧ ∃ (r : Rd) (acc : List OpD) (va : Value), IsRd (fun b => s0 ≤ b ∧ b < p) wr p r ∧ r.small ∧ wr.heap[w.heap.size]? = some (.cells #[.string ⟨#[]⟩, .slice none 0 0] 24 (0, 0)) ∧
      wr.heap[pt]? = some (.cells #[.string ⟨(unpHead l).1.toArray⟩, va] 24 (0, 0)) ∧ EnR Enc.op 58 (pt + 1) wr va acc ∧ acc.length ≤ k ∧ unpY l = (acc ++ (unpOps (n - k) r).1, (unpOps (n - k) r).2) ∧ Below w.heap.size w wr) (fun q22 _ => n - (intOf q22).toNat)
    case atStart => exact ⟨0, Nat.zero_le _, rfl, C, [], _, RD0.out, HS0.out, RR0.out, T0.out, EnR.nil _ _ _ _, Nat.zero_le _, by rw [HY.out]; rfl, HB0.out⟩
    case round =>
      obtain ⟨k, hk, rfl, r, acc, va, hR, hS, hRR, hT, hE, hal, hY, hB⟩ := hrel
      obtain ⟨ta, tc, rfl⟩ := hE.shape
      have HS := Lib.hid hS
      have RD := Lib.hid hR
      have RR := Lib.hid hRR
      have T := Lib.hid hT
      have HE := Lib.hid hE
      have HYY := Lib.hid hY
      have HB := Lib.hid hB
      have hpr : pt < wr.heap.size := (Array.getElem?_eq_some_iff.1 hT).1
      clear hR hS hRR hT hE hY hB HS0 RD0 RR0 T0 HB0 HY
      by_cases hlt : k < n
      · go_wp2_with fail
        refine (err_any _ p r _ RD.out).mono ?_
        rintro e wq ⟨rfl, rfl⟩
        by_cases h0 : r.e = 0
        · have H0 := Lib.hid h0
          have t0 : ((r.e : Int) != 0) = false := by simp [h0]
          have t1 : ((r.e : Int) == 0) = true := by simp [h0]
          clear h0
          go_upto_region 10 with fail
          obtain ⟨wy, hwy⟩ : ∃ wy, wy = wr.alloc (.cells #[.int .i64 0, .int .i64 0, .int .i64 0, .string ⟨#[]⟩, .slice none 0 0] 58) := ⟨_, rfl⟩
          rw [← hwy]
          have hby : Below wr.heap.size wr wy := by rw [hwy]; ((repeat' (first | exact Below.refl _ _ | refine below_drewN ?_ _ | refine Below.drew ?_ | refine Below.alloc ?_ ?_ _ | refine Below.trans ?_ (Below.mono (by assumption) ?_))); all_goals (first | exact Nat.le_refl _ | exact Below.size (by assumption) | omega | (simp; done) | (simp; omega)))
          have OP := Lib.hid (show wy.heap[wr.heap.size]? = some (.cells #[.int .i64 0, .int .i64 0, .int .i64 0, .string ⟨#[]⟩, .slice none 0 0] 58 (0, 0)) from by rw [hwy]; exact heap_alloc_new _ _)
          have RD0 := Lib.hid (RD.out.ext hby)
          have HF : Hid (Fr (fun k => k = p) wr wy) := Lib.hid (Fr.ext hby)
          have hpl : wr.heap.size < wy.heap.size := by rw [hwy]; simp
          have HU : Hid (unpOp r = (⟨(r.num 1).1, ((r.num 1).2.num 6).1, (((r.num 1).2.num 6).2.num 6).1, ⟨((((r.num 1).2.num 6).2.num 6).2.blob 12).1.toArray⟩, (((((r.num 1).2.num 6).2.num 6).2.blob 12).2.blob 2048).1⟩, (((((r.num 1).2.num 6).2.num 6).2.blob 12).2.blob 2048).2)) := Lib.hid rfl
          clear hwy hby RD
          obtain ⟨po, hpo⟩ : ∃ po, po = wr.heap.size := ⟨_, rfl⟩
          have HPO := Lib.hid hpo
          rw [← hpo] at OP hpl hpr ⊢
          clear hpo
          obtain ⟨y0, g0⟩ := blk_cell (i := 0) (OP.out)
          obtain ⟨y1, g1⟩ := blk_cell (i := 1) (OP.out)
          obtain ⟨y2, g2⟩ := blk_cell (i := 2) (OP.out)
          obtain ⟨y3, g3⟩ := blk_cell (i := 3) (OP.out)
          obtain ⟨y4, g4⟩ := blk_cell (i := 4) (OP.out)
          simp at y0 y1 y2 y3 y4
          go_wp2_with fail
          refine (rnum_any _ p 1 r _ RD0.out (by omega) (by omega) HS.out.len HS.out.err).mono ?_
          rintro e wa0 ⟨rfl, hr, hf⟩
          have HSM0 := Lib.hid (HS.out.num 1)
          generalize r.num 1 = X at *
          obtain ⟨x0, r0⟩ := X
          simp only at hr HSM0 HU ⊢
          have OP0 := Lib.hid ((hf.block po (by omega) (by omega)).trans OP.out)
          have HF0 := Lib.hid (HF.out.trans hf fun _ _ h => h)
          have RDa0 := Lib.hid hr
          have hpl0 : po < wa0.heap.size := by have := hf.size; omega
          clear hr hf OP HF RD0 y0 g0 y1 g1 y2 g2 y3 g3 y4 g4
          obtain ⟨y0, g0⟩ := blk_cell (i := 0) (OP0.out)
          obtain ⟨y1, g1⟩ := blk_cell (i := 1) (OP0.out)
          obtain ⟨y2, g2⟩ := blk_cell (i := 2) (OP0.out)
          obtain ⟨y3, g3⟩ := blk_cell (i := 3) (OP0.out)
          obtain ⟨y4, g4⟩ := blk_cell (i := 4) (OP0.out)
          simp at y0 y1 y2 y3 y4
          go_upto_region 11 with fail
          obtain ⟨wb0, hwz⟩ : ∃ wz, wz = wa0.setCell ⟨po, 0, none⟩ (.int .i64 (x0 : Nat)) := ⟨_, rfl⟩
          rw [← hwz]
          have OP := Lib.hid (show wb0.heap[po]? = some (.cells #[.int .i64 (x0 : Nat), .int .i64 0, .int .i64 0, .string ⟨#[]⟩, .slice none 0 0] 58 (0, 0)) from by rw [hwz]; exact set5_blk0 OP0.out)
          have HF : Hid (Fr (fun k => k = p) wr wb0) := Lib.hid (by rw [hwz]; exact HF0.out.setCell (a := ⟨po, 0, none⟩) (fun h => absurd h (by have := HPO.out; simp only; omega)) _)
          have RDb0 : Hid (IsRd (fun b => s0 ≤ b ∧ b < p) wb0 p r0) := Lib.hid (by rw [hwz]; exact IsRd.set RDa0.out (by omega) (fun b hb => by omega))
          have hpl : po < wb0.heap.size := by rw [hwz]; simpa [World.setCell] using hpl0
          clear hwz OP0 HF0 RDa0 hpl0 y0 g0 y1 g1 y2 g2 y3 g3 y4 g4
          obtain ⟨y0, g0⟩ := blk_cell (i := 0) (OP.out)
          obtain ⟨y1, g1⟩ := blk_cell (i := 1) (OP.out)
          obtain ⟨y2, g2⟩ := blk_cell (i := 2) (OP.out)
          obtain ⟨y3, g3⟩ := blk_cell (i := 3) (OP.out)
          obtain ⟨y4, g4⟩ := blk_cell (i := 4) (OP.out)
          simp at y0 y1 y2 y3 y4
          go_wp2_with fail
          refine (rnum_any _ p 6 r0 _ RDb0.out (by omega) (by omega) HSM0.out.len HSM0.out.err).mono ?_
          rintro e wa1 ⟨rfl, hr, hf⟩
          have HSM1 := Lib.hid (HSM0.out.num 6)
          generalize r0.num 6 = X at *
          obtain ⟨x1, r1⟩ := X
          simp only at hr HSM1 HU ⊢
          have OP1 := Lib.hid ((hf.block po (by omega) (by omega)).trans OP.out)
          have HF1 := Lib.hid (HF.out.trans hf fun _ _ h => h)
          have RDa1 := Lib.hid hr
          have hpl1 : po < wa1.heap.size := by have := hf.size; omega
          clear hr hf OP HF RDb0 y0 g0 y1 g1 y2 g2 y3 g3 y4 g4
          obtain ⟨y0, g0⟩ := blk_cell (i := 0) (OP1.out)
          obtain ⟨y1, g1⟩ := blk_cell (i := 1) (OP1.out)
          obtain ⟨y2, g2⟩ := blk_cell (i := 2) (OP1.out)
          obtain ⟨y3, g3⟩ := blk_cell (i := 3) (OP1.out)
          obtain ⟨y4, g4⟩ := blk_cell (i := 4) (OP1.out)
          simp at y0 y1 y2 y3 y4
          go_upto_region 12 with fail
          obtain ⟨wb1, hwz⟩ : ∃ wz, wz = wa1.setCell ⟨po, 1, none⟩ (.int .i64 (x1 : Nat)) := ⟨_, rfl⟩
          rw [← hwz]
          have OP := Lib.hid (show wb1.heap[po]? = some (.cells #[.int .i64 (x0 : Nat), .int .i64 (x1 : Nat), .int .i64 0, .string ⟨#[]⟩, .slice none 0 0] 58 (0, 0)) from by rw [hwz]; exact set5_blk1 OP1.out)
          have HF : Hid (Fr (fun k => k = p) wr wb1) := Lib.hid (by rw [hwz]; exact HF1.out.setCell (a := ⟨po, 1, none⟩) (fun h => absurd h (by have := HPO.out; simp only; omega)) _)
          have RDb1 : Hid (IsRd (fun b => s0 ≤ b ∧ b < p) wb1 p r1) := Lib.hid (by rw [hwz]; exact IsRd.set RDa1.out (by omega) (fun b hb => by omega))
          have hpl : po < wb1.heap.size := by rw [hwz]; simpa [World.setCell] using hpl1
          clear hwz OP1 HF1 RDa1 hpl1 y0 g0 y1 g1 y2 g2 y3 g3 y4 g4
          obtain ⟨y0, g0⟩ := blk_cell (i := 0) (OP.out)
          obtain ⟨y1, g1⟩ := blk_cell (i := 1) (OP.out)
          obtain ⟨y2, g2⟩ := blk_cell (i := 2) (OP.out)
          obtain ⟨y3, g3⟩ := blk_cell (i := 3) (OP.out)
          obtain ⟨y4, g4⟩ := blk_cell (i := 4) (OP.out)
          simp at y0 y1 y2 y3 y4
          go_wp2_with fail
          refine (rnum_any _ p 6 r1 _ RDb1.out (by omega) (by omega) HSM1.out.len HSM1.out.err).mono ?_
          rintro e wa2 ⟨rfl, hr, hf⟩
          have HSM2 := Lib.hid (HSM1.out.num 6)
          generalize r1.num 6 = X at *
          obtain ⟨x2, r2⟩ := X
          simp only at hr HSM2 HU ⊢
          have OP2 := Lib.hid ((hf.block po (by omega) (by omega)).trans OP.out)
          have HF2 := Lib.hid (HF.out.trans hf fun _ _ h => h)
          have RDa2 := Lib.hid hr
          have hpl2 : po < wa2.heap.size := by have := hf.size; omega
          clear hr hf OP HF RDb1 y0 g0 y1 g1 y2 g2 y3 g3 y4 g4
          obtain ⟨y0, g0⟩ := blk_cell (i := 0) (OP2.out)
          obtain ⟨y1, g1⟩ := blk_cell (i := 1) (OP2.out)
          obtain ⟨y2, g2⟩ := blk_cell (i := 2) (OP2.out)
          obtain ⟨y3, g3⟩ := blk_cell (i := 3) (OP2.out)
          obtain ⟨y4, g4⟩ := blk_cell (i := 4) (OP2.out)
          simp at y0 y1 y2 y3 y4
          go_upto_region 13 with fail
          obtain ⟨wb2, hwz⟩ : ∃ wz, wz = wa2.setCell ⟨po, 2, none⟩ (.int .i64 (x2 : Nat)) := ⟨_, rfl⟩
          rw [← hwz]
          have OP := Lib.hid (show wb2.heap[po]? = some (.cells #[.int .i64 (x0 : Nat), .int .i64 (x1 : Nat), .int .i64 (x2 : Nat), .string ⟨#[]⟩, .slice none 0 0] 58 (0, 0)) from by rw [hwz]; exact set5_blk2 OP2.out)
          have HF : Hid (Fr (fun k => k = p) wr wb2) := Lib.hid (by rw [hwz]; exact HF2.out.setCell (a := ⟨po, 2, none⟩) (fun h => absurd h (by have := HPO.out; simp only; omega)) _)
          have RDb2 : Hid (IsRd (fun b => s0 ≤ b ∧ b < p) wb2 p r2) := Lib.hid (by rw [hwz]; exact IsRd.set RDa2.out (by omega) (fun b hb => by omega))
          have hpl : po < wb2.heap.size := by rw [hwz]; simpa [World.setCell] using hpl2
          clear hwz OP2 HF2 RDa2 hpl2 y0 g0 y1 g1 y2 g2 y3 g3 y4 g4
          obtain ⟨y0, g0⟩ := blk_cell (i := 0) (OP.out)
          obtain ⟨y1, g1⟩ := blk_cell (i := 1) (OP.out)
          obtain ⟨y2, g2⟩ := blk_cell (i := 2) (OP.out)
          obtain ⟨y3, g3⟩ := blk_cell (i := 3) (OP.out)
          obtain ⟨y4, g4⟩ := blk_cell (i := 4) (OP.out)
          simp at y0 y1 y2 y3 y4
          go_wp2_with fail
          refine (rblob_any _ p 12 r2 _ RDb2.out (by omega) HSM2.out.len HSM2.out.err (HSM2.out.num 2).err).mono ?_
          rintro e wa3 ⟨vb3, rfl, hvb3, hr, hf⟩
          have HSM3 := Lib.hid (HSM2.out.blob 12)
          generalize r2.blob 12 = X at *
          obtain ⟨x3, r3⟩ := X
          simp only at hr HSM3 HU hvb3 ⊢
          obtain ⟨ab3, cb3, rfl⟩ := hvb3.shape
          have s3 := cnv_bytes hvb3 wa3 (Below.refl _ _)
          have OP3 := Lib.hid ((hf.block po (by omega) (by omega)).trans OP.out)
          have HF3 := Lib.hid (HF.out.trans hf fun _ _ h => h)
          have RDa3 := Lib.hid hr
          have hpl3 : po < wa3.heap.size := by have := hf.size; omega
          clear hr hf OP HF RDb2 y0 g0 y1 g1 y2 g2 y3 g3 y4 g4
          obtain ⟨y0, g0⟩ := blk_cell (i := 0) (OP3.out)
          obtain ⟨y1, g1⟩ := blk_cell (i := 1) (OP3.out)
          obtain ⟨y2, g2⟩ := blk_cell (i := 2) (OP3.out)
          obtain ⟨y3, g3⟩ := blk_cell (i := 3) (OP3.out)
          obtain ⟨y4, g4⟩ := blk_cell (i := 4) (OP3.out)
          simp at y0 y1 y2 y3 y4
          go_upto_region 14 with fail
          obtain ⟨wb3, hwz⟩ : ∃ wz, wz = wa3.setCell ⟨po, 3, none⟩ (.string ⟨x3.toArray⟩) := ⟨_, rfl⟩
          rw [← hwz]
          have OP := Lib.hid (show wb3.heap[po]? = some (.cells #[.int .i64 (x0 : Nat), .int .i64 (x1 : Nat), .int .i64 (x2 : Nat), .string ⟨x3.toArray⟩, .slice none 0 0] 58 (0, 0)) from by rw [hwz]; exact set5_blk3 OP3.out)
          have HF : Hid (Fr (fun k => k = p) wr wb3) := Lib.hid (by rw [hwz]; exact HF3.out.setCell (a := ⟨po, 3, none⟩) (fun h => absurd h (by have := HPO.out; simp only; omega)) _)
          have RDb3 : Hid (IsRd (fun b => s0 ≤ b ∧ b < p) wb3 p r3) := Lib.hid (by rw [hwz]; exact IsRd.set RDa3.out (by omega) (fun b hb => by omega))
          have hpl : po < wb3.heap.size := by rw [hwz]; simpa [World.setCell] using hpl3
          clear hwz OP3 HF3 RDa3 hpl3 y0 g0 y1 g1 y2 g2 y3 g3 y4 g4 hvb3
          clear s3
          obtain ⟨y0, g0⟩ := blk_cell (i := 0) (OP.out)
          obtain ⟨y1, g1⟩ := blk_cell (i := 1) (OP.out)
          obtain ⟨y2, g2⟩ := blk_cell (i := 2) (OP.out)
          obtain ⟨y3, g3⟩ := blk_cell (i := 3) (OP.out)
          obtain ⟨y4, g4⟩ := blk_cell (i := 4) (OP.out)
          simp at y0 y1 y2 y3 y4
          go_wp2_with fail
          refine (rblob_any _ p 2048 r3 _ RDb3.out (by omega) HSM3.out.len HSM3.out.err (HSM3.out.num 2).err).mono ?_
          rintro e wa4 ⟨vb4, rfl, hvb4, hr, hf⟩
          have HSM4 := Lib.hid (HSM3.out.blob 2048)
          generalize r3.blob 2048 = X at *
          obtain ⟨x4, r4⟩ := X
          simp only at hr HSM4 HU hvb4 ⊢
          obtain ⟨ab4, cb4, rfl⟩ := hvb4.shape
          have OP4 := Lib.hid ((hf.block po (by omega) (by omega)).trans OP.out)
          have HF4 := Lib.hid (HF.out.trans hf fun _ _ h => h)
          have RDa4 := Lib.hid hr
          have hpl4 : po < wa4.heap.size := by have := hf.size; omega
          clear hr hf OP HF RDb3 y0 g0 y1 g1 y2 g2 y3 g3 y4 g4
          obtain ⟨y0, g0⟩ := blk_cell (i := 0) (OP4.out)
          obtain ⟨y1, g1⟩ := blk_cell (i := 1) (OP4.out)
          obtain ⟨y2, g2⟩ := blk_cell (i := 2) (OP4.out)
          obtain ⟨y3, g3⟩ := blk_cell (i := 3) (OP4.out)
          obtain ⟨y4, g4⟩ := blk_cell (i := 4) (OP4.out)
          simp at y0 y1 y2 y3 y4
          go_upto_region 15 with fail
          obtain ⟨wb4, hwz⟩ : ∃ wz, wz = wa4.setCell ⟨po, 4, none⟩ (.slice ab4 x4.length cb4) := ⟨_, rfl⟩
          rw [← hwz]
          have OP := Lib.hid (show wb4.heap[po]? = some (.cells #[.int .i64 (x0 : Nat), .int .i64 (x1 : Nat), .int .i64 (x2 : Nat), .string ⟨x3.toArray⟩, .slice ab4 x4.length cb4] 58 (0, 0)) from by rw [hwz]; exact set5_blk4 OP4.out)
          have HF : Hid (Fr (fun k => k = p) wr wb4) := Lib.hid (by rw [hwz]; exact HF4.out.setCell (a := ⟨po, 4, none⟩) (fun h => absurd h (by have := HPO.out; simp only; omega)) _)
          have RDb4 : Hid (IsRd (fun b => s0 ≤ b ∧ b < p) wb4 p r4) := Lib.hid (by rw [hwz]; exact IsRd.set RDa4.out (by omega) (fun b hb => by omega))
          have hpl : po < wb4.heap.size := by rw [hwz]; simpa [World.setCell] using hpl4
          have HD : Hid (RB (fun b => po < b) wb4 (.slice ab4 x4.length cb4) x4) := Lib.hid (by rw [hwz]; exact (hvb4.weak (A' := fun b => po < b) (fun b hb => by omega)).mono (Same.setCell (Same.refl _ _) (by simp) _))
          clear hwz OP4 HF4 RDa4 hpl4 y0 g0 y1 g1 y2 g2 y3 g3 y4 g4 hvb4
          obtain ⟨y0, g0⟩ := blk_cell (i := 0) (OP.out)
          obtain ⟨y1, g1⟩ := blk_cell (i := 1) (OP.out)
          obtain ⟨y2, g2⟩ := blk_cell (i := 2) (OP.out)
          obtain ⟨y3, g3⟩ := blk_cell (i := 3) (OP.out)
          obtain ⟨y4, g4⟩ := blk_cell (i := 4) (OP.out)
          simp at y0 y1 y2 y3 y4
          have hpt2 : pt < wr.heap.size := by have := HPO.out; omega
          have Tq := Lib.hid ((HF.out.block pt hpt2 (by omega)).trans T.out)
          obtain ⟨t0', u0⟩ := blk_cell (i := 0) Tq.out
          obtain ⟨t1', u1⟩ := blk_cell (i := 1) Tq.out
          simp at t0' t1'
          have EQ := Lib.hid (HE.out.same2 ⟨HF.out.size, fun b hb hl => HF.out.block b hl (by omega)⟩)
          have hpq : pt < wb4.heap.size := by omega
          have HK1 : Hid (Enc.op.rd (fun b => pt + 1 ≤ b ∧ (Value.slice ta acc.length tc).ownBlock ≠ some b) wb4 [.int .i64 (x0 : Nat), .int .i64 (x1 : Nat), .int .i64 (x2 : Nat), .string ⟨x3.toArray⟩, .slice ab4 x4.length cb4] ⟨x0, x1, x2, ⟨x3.toArray⟩, x4⟩) :=
            Lib.hid ⟨_, rfl, HD.out.weak fun b _ hb => ⟨by omega, fun e => by have h1 := HE.out.lt b e; have h2 := HPO.out; omega⟩⟩
          go_wp2_with (first | (at_builtin; refine stop_in ?_) | go_in)
          unfold Stop
          refine wpList_pushR wb4 (by rfl) (.tmp 45) (.tmp 47) 22 (by rfl) Enc.op (pt + 1) 58 i0 _ 64 Tryz.underlying22 hi hz0 hz1 hz2 (by rfl) (by decide) (by decide) _ acc (by rfl) EQ.out [.int .i64 (x0 : Nat), .int .i64 (x1 : Nat), .int .i64 (x2 : Nat), .string ⟨x3.toArray⟩, .slice ab4 x4.length cb4] 58 ⟨x0, x1, x2, ⟨x3.toArray⟩, x4⟩ (by rfl) HK1.out (by omega) (by omega) ?_
          intro v' w' hE' hB'
          have Tw := Lib.hid ((hB'.block pt (Nat.lt_succ_self _)).trans Tq.out)
          obtain ⟨va', ca', rfl⟩ := hE'.shape
          have HYN : Hid (unpY l = ((acc ++ [⟨x0, x1, x2, ⟨x3.toArray⟩, x4⟩]) ++ (unpOps (n - (k + 1)) r4).1, (unpOps (n - (k + 1)) r4).2)) := Lib.hid (by
            have := HYY.out
            rw [show n - k = (n - (k + 1)) + 1 by omega, unpOps_go H0.out, HU.out] at this
            simpa using this)
          have HRD : Hid (IsRd (fun b => s0 ≤ b ∧ b < p) w' p r4) := Lib.hid (RDb4.out.same (B := fun b => b < pt + 1) ⟨hB'.size, fun b hb _ => hB'.block b hb⟩ (by omega) (fun b hb => by omega))
          have HRR : Hid (w'.heap[w.heap.size]? = some (.cells #[.string ⟨#[]⟩, .slice none 0 0] 24 (0, 0))) := Lib.hid ((hB'.block _ (by omega)).trans ((HF.out.block _ (by omega) (by omega)).trans RR.out))
          have HBN : Hid (Below w.heap.size w w') := Lib.hid ((HB.out.trans (HF.out.below HB.out.size fun j hj h => by omega)).trans (hB'.mono (by omega)))
          have HEN := Lib.hid (show EnR Enc.op 58 (pt + 1) w' (.slice va' (acc.length + 1) ca') (acc ++ [⟨x0, x1, x2, ⟨x3.toArray⟩, x4⟩]) from by have h := hE'; rw [List.length_append] at h; exact h)
          have hpw2 : pt < w'.heap.size := by have := hB'.size; omega
          clear hE' hB' Tq EQ HK1 t0' u0 t1' u1 y0 g0 y1 g1 y2 g2 y3 g3 y4 g4 HYY HU RDb4 HF RR HB HE OP HD T
          obtain ⟨t0', u0⟩ := blk_cell (i := 0) Tw.out
          obtain ⟨t1', u1⟩ := blk_cell (i := 1) Tw.out
          simp at t0' t1'
          go_wp2
          go_roundw
          case rel => exact ⟨k + 1, by omega, by go_num, r4, _, _, IsRd.set HRD.out (by omega) (fun b hb => by omega), HSM4.out, (Below.heap_setCell _ _ _ _ (show w.heap.size ≠ pt by omega)).trans HRR.out, set2_blk1 Tw.out, HEN.out.same ⟨by simp [World.setCell], fun b hb _ => Below.heap_setCell _ _ _ _ (show b ≠ pt by omega)⟩, by simp; omega, HYN.out, HBN.out.setCell (show w.heap.size ≤ pt by omega) _⟩
          case measure => simp [intOf]; omega
        · have HYE : Hid (unpY l = (acc, r)) := Lib.hid (by have := HYY.out; rw [unpOps_halt h0] at this; simpa using this)
          have t0 : ((r.e : Int) != 0) = true := by simp [h0]
          have t1 : ((r.e : Int) == 0) = false := by simp [h0]
          clear h0 HYY
          go_wp2_with fail
          refine (end_any _ p r _ RD.out HS.out.len HS.out.err).mono ?_
          rintro e w8 ⟨rfl, hr8, hf8⟩
          have RR8 := Lib.hid ((hf8.block _ (by omega) (by omega)).trans RR.out)
          have T8 := Lib.hid ((hf8.block _ (by omega) (by omega)).trans T.out)
          have HB8 := Lib.hid (HB.out.trans (hf8.below HB.out.size fun j hj h => by omega))
          have HE8 := Lib.hid (HE.out.same ⟨hf8.size, fun b hb hl => hf8.block b hl (by omega)⟩)
          have hwl : w.heap.size < w8.heap.size := (Array.getElem?_eq_some_iff.1 RR8.out).1
          clear hr8 hf8 RR T HB HE RD
          obtain ⟨x0, f0⟩ := blk_cell (i := 0) RR8.out
          obtain ⟨x1, f1⟩ := blk_cell (i := 1) RR8.out
          obtain ⟨y0, -⟩ := blk_cell (i := 0) T8.out
          obtain ⟨y1, -⟩ := blk_cell (i := 1) T8.out
          simp at x0 x1 y0 y1
          by_cases hfe : r.fin.e = 0
          · have HFE := Lib.hid hfe
            have u0 : ((r.fin.e : Int) != 0) = false := by simp [hfe]
            have u1 : ((r.fin.e : Int) == 0) = true := by simp [hfe]
            clear hfe
            go_wp2_with fail
            refine (tcheck_any _ ⟨⟨(unpHead l).1.toArray⟩, acc⟩ _ _ HE8.out.sle).mono ?_
            rintro e w9 ⟨rfl, hb9⟩
            have RR9 := Lib.hid (dblk hb9 RR8.out)
            have T9 := Lib.hid (dblk hb9 T8.out)
            have HB9 := Lib.hid (dcall HB8.out hb9)
            have HE9 := Lib.hid (HE8.out.ext hb9)
            clear hb9 RR8 T8 HB8 HE8 x0 f0 x1 f1 y0 y1
            obtain ⟨x0, f0⟩ := blk_cell (i := 0) RR9.out
            obtain ⟨x1, f1⟩ := blk_cell (i := 1) RR9.out
            obtain ⟨y0, -⟩ := blk_cell (i := 0) T9.out
            obtain ⟨y1, -⟩ := blk_cell (i := 1) T9.out
            simp at x0 x1 y0 y1
            by_cases hte : txE ⟨⟨(unpHead l).1.toArray⟩, acc⟩ = 0
            · have HTE := Lib.hid hte
              rw [hte]
              clear hte
              go_wp2
              refine bodyPost_ret (results_cell_t1 rfl _ _ w.heap.size 24 _ (0, 0) _ rfl (set2_blk RR9.out) Tryz.underlying24 rfl (by kernel_rfl)) rfl ?_
              exact TunR.ok HYE.out HFE.out HTE.out (((HE9.out.same ⟨by simp [World.setCell], fun b hb _ => (Below.heap_setCell _ _ _ _ (show b ≠ w.heap.size by omega)).trans (Below.heap_setCell _ _ _ _ (show b ≠ w.heap.size by omega))⟩).sle).weak fun b _ hb => by omega) ((HB9.out.setCell (Nat.le_refl _) _).setCell (Nat.le_refl _) _)
            · have HBAD := Lib.hid (unpE_chk HYE.out HFE.out)
              have HTE := Lib.hid hte
              generalize txE ⟨⟨(unpHead l).1.toArray⟩, acc⟩ = E at *
              have v0 : (E != 0) = true := by simpa using hte
              have v1 : (E == 0) = false := by simpa using hte
              clear hte
              go_wp2
              refine bodyPost_ret (results_cell_t1 rfl _ _ w.heap.size 24 _ (0, 0) _ rfl (set2_blk RR9.out) Tryz.underlying24 rfl (by kernel_rfl)) rfl ?_
              exact TunR.bad HBAD.out HTE.out ((HB9.out.setCell (Nat.le_refl _) _).setCell (Nat.le_refl _) _)
          · have HBAD := Lib.hid (unpE_fin HYE.out hfe)
            have HNE : Hid ((r.fin.e : Int) ≠ 0) := Lib.hid (by omega)
            have u0 : ((r.fin.e : Int) != 0) = true := by simp [hfe]
            have u1 : ((r.fin.e : Int) == 0) = false := by simp [hfe]
            clear hfe
            go_wp2
            refine bodyPost_ret (results_cell_t1 rfl _ _ w.heap.size 24 _ (0, 0) _ rfl (set2_blk RR8.out) Tryz.underlying24 rfl (by kernel_rfl)) rfl ?_
            exact TunR.bad HBAD.out HNE.out ((HB8.out.setCell (Nat.le_refl _) _).setCell (Nat.le_refl _) _)
      · obtain rfl : k = n := by omega
        have HYE : Hid (unpY l = (acc, r)) := Lib.hid (by have := HYY.out; simp [unpOps] at this; exact this)
        clear HYY
        go_wp2_with fail
        refine (end_any _ p r _ RD.out HS.out.len HS.out.err).mono ?_
        rintro e w8 ⟨rfl, hr8, hf8⟩
        have RR8 := Lib.hid ((hf8.block _ (by omega) (by omega)).trans RR.out)
        have T8 := Lib.hid ((hf8.block _ (by omega) (by omega)).trans T.out)
        have HB8 := Lib.hid (HB.out.trans (hf8.below HB.out.size fun j hj h => by omega))
        have HE8 := Lib.hid (HE.out.same ⟨hf8.size, fun b hb hl => hf8.block b hl (by omega)⟩)
        have hwl : w.heap.size < w8.heap.size := (Array.getElem?_eq_some_iff.1 RR8.out).1
        clear hr8 hf8 RR T HB HE RD
        obtain ⟨x0, f0⟩ := blk_cell (i := 0) RR8.out
        obtain ⟨x1, f1⟩ := blk_cell (i := 1) RR8.out
        obtain ⟨y0, -⟩ := blk_cell (i := 0) T8.out
        obtain ⟨y1, -⟩ := blk_cell (i := 1) T8.out
        simp at x0 x1 y0 y1
        by_cases hfe : r.fin.e = 0
        · have HFE := Lib.hid hfe
          have u0 : ((r.fin.e : Int) != 0) = false := by simp [hfe]
          have u1 : ((r.fin.e : Int) == 0) = true := by simp [hfe]
          clear hfe
          go_wp2_with fail
          refine (tcheck_any _ ⟨⟨(unpHead l).1.toArray⟩, acc⟩ _ _ HE8.out.sle).mono ?_
          rintro e w9 ⟨rfl, hb9⟩
          have RR9 := Lib.hid (dblk hb9 RR8.out)
          have T9 := Lib.hid (dblk hb9 T8.out)
          have HB9 := Lib.hid (dcall HB8.out hb9)
          have HE9 := Lib.hid (HE8.out.ext hb9)
          clear hb9 RR8 T8 HB8 HE8 x0 f0 x1 f1 y0 y1
          obtain ⟨x0, f0⟩ := blk_cell (i := 0) RR9.out
          obtain ⟨x1, f1⟩ := blk_cell (i := 1) RR9.out
          obtain ⟨y0, -⟩ := blk_cell (i := 0) T9.out
          obtain ⟨y1, -⟩ := blk_cell (i := 1) T9.out
          simp at x0 x1 y0 y1
          by_cases hte : txE ⟨⟨(unpHead l).1.toArray⟩, acc⟩ = 0
          · have HTE := Lib.hid hte
            rw [hte]
            clear hte
            go_wp2
            refine bodyPost_ret (results_cell_t1 rfl _ _ w.heap.size 24 _ (0, 0) _ rfl (set2_blk RR9.out) Tryz.underlying24 rfl (by kernel_rfl)) rfl ?_
            exact TunR.ok HYE.out HFE.out HTE.out (((HE9.out.same ⟨by simp [World.setCell], fun b hb _ => (Below.heap_setCell _ _ _ _ (show b ≠ w.heap.size by omega)).trans (Below.heap_setCell _ _ _ _ (show b ≠ w.heap.size by omega))⟩).sle).weak fun b _ hb => by omega) ((HB9.out.setCell (Nat.le_refl _) _).setCell (Nat.le_refl _) _)
          · have HBAD := Lib.hid (unpE_chk HYE.out HFE.out)
            have HTE := Lib.hid hte
            generalize txE ⟨⟨(unpHead l).1.toArray⟩, acc⟩ = E at *
            have v0 : (E != 0) = true := by simpa using hte
            have v1 : (E == 0) = false := by simpa using hte
            clear hte
            go_wp2
            refine bodyPost_ret (results_cell_t1 rfl _ _ w.heap.size 24 _ (0, 0) _ rfl (set2_blk RR9.out) Tryz.underlying24 rfl (by kernel_rfl)) rfl ?_
            exact TunR.bad HBAD.out HTE.out ((HB9.out.setCell (Nat.le_refl _) _).setCell (Nat.le_refl _) _)
        · have HBAD := Lib.hid (unpE_fin HYE.out hfe)
          have HNE : Hid ((r.fin.e : Int) ≠ 0) := Lib.hid (by omega)
          have u0 : ((r.fin.e : Int) != 0) = true := by simp [hfe]
          have u1 : ((r.fin.e : Int) == 0) = false := by simp [hfe]
          clear hfe
          go_wp2
          refine bodyPost_ret (results_cell_t1 rfl _ _ w.heap.size 24 _ (0, 0) _ rfl (set2_blk RR8.out) Tryz.underlying24 rfl (by kernel_rfl)) rfl ?_
          exact TunR.bad HBAD.out HNE.out ((HB8.out.setCell (Nat.le_refl _) _).setCell (Nat.le_refl _) _)
end Go.Proofs.YtlgefkaafoidmaaGreatDoor
