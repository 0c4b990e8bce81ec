/- The walk of rpc.UnpackRequest at any bytes. -/
import Derived.Test.YtlgefkaafoidmaaGreatDoorUnqB
import Derived.Test.YtlgefkaafoidmaaGreatDoorMayE
import Derived.Test.YtlgefkaafoidmaaGreatDoorTun9
namespace Go.Proofs.YtlgefkaafoidmaaGreatDoor
open Go.RowKit Go.WideShapes
attribute [local go_sem ↓] Go.wp_at_zero Go.wp_at_succ

theorem opnB_ok {l L : List UInt8} {k : Nat} (h : opnB l k = (L, 0)) : nextB l = ⟨k, L, [], 0⟩ := by
  unfold opnB at h
  split at h
  · rename_i h0
    exact absurd (congrArg Prod.snd h) h0
  · rename_i h0
    split at h
    · exact absurd (congrArg Prod.snd h) (by show ¬ (11 = 0); decide)
    · rename_i h1
      have h2 : (nextB l).body = L := congrArg Prod.fst h
      generalize nextB l = R at *
      obtain ⟨K, B, T, E⟩ := R
      simp only at h0 h1 h2
      have h3 : T = [] := List.eq_nil_of_length_eq_zero (by omega)
      have h4 : K = k := by
        by_cases hk : K = k
        · exact hk
        · exact absurd (.inr hk) h1
      have h5 : E = 0 := by omega
      subst h2 h3 h4 h5
      rfl
set_option maxRecDepth 100000 in
set_option maxHeartbeats 1600000 in
theorem opn_kind (A : Nat → Prop) (v : Value) (l : List UInt8) (k : Nat) (w : World) (hx : RB A w v l) (hl : l.length ≤ 100000) (hT : TabW w) (hg0 : 0 < w.heap.size) (hn : (nextB l).e = 0) (hr : (nextB l).rest.length = 0) (hk : (nextB l).kind ≠ k) :
    Calls Tryz.prog 25 #[v, .int .i64 k] w fun e w' => e = .returned (.tuple #[.pointer none, .int .i64 11]) ∧ Below w.heap.size w w' := by
  obtain ⟨xa, xc, rfl⟩ := hx.shape
  have HX := Lib.hid hx
  have HT := Lib.hid hT
  have HG := Lib.hid hg0
  have hk' : (((nextB l).kind : Int) != (k : Int)) = true := by simp; omega
  clear hx hT hg0
  go_enter Tryz.func25, Tryz.ntmps25
  go_wp2_with fail
  refine (next_any _ A l _ HX.out hl HT.out HG.out).mono ?_
  generalize nextB l = R at *
  obtain ⟨K, B, L, E⟩ := R
  simp only at hn hr hk hk'
  subst hn
  obtain rfl := List.eq_nil_of_length_eq_zero hr
  rintro e w1 ⟨v1, v2, rfl, ho1, ho2, hb1⟩
  obtain ⟨a1, c1, rfl⟩ := ho1.rb.shape
  obtain ⟨a2, c2, rfl⟩ := ho2.rb.shape
  simp only [List.length_nil]
  have HB := Lib.hid hb1
  clear ho1 ho2 hb1
  go_wp2
  go_ret2
  exact ⟨rfl, HB.out⟩
theorem opn_no (A : Nat → Prop) (v : Value) (l : List UInt8) (k : Nat) (w : World) (hx : RB A w v l) (hl : l.length ≤ 100000) (hT : TabW w) (hg0 : 0 < w.heap.size) (h0 : (opnB l k).2 ≠ 0) :
    Calls Tryz.prog 25 #[v, .int .i64 k] w fun e w' => e = .returned (.tuple #[.pointer none, .int .i64 ((opnB l k).2 : Nat)]) ∧ Below w.heap.size w w' := by
  unfold opnB at h0 ⊢
  split at h0
  · rename_i h1
    rw [if_pos h1]
    exact opn_bad A v l k w hx hl hT hg0 h1
  · rename_i h1
    split at h0
    · rename_i h2
      rw [if_neg h1, if_pos h2]
      rcases Nat.eq_zero_or_pos (nextB l).rest.length with h3 | h3
      · exact opn_kind A v l k w hx hl hT hg0 (by omega) h3 (by rcases h2 with h2 | h2; exact absurd h2 (by omega); exact h2)
      · exact opn_long A v l k w hx hl hT hg0 (by omega) h3
    · exact absurd rfl h0
set_option maxRecDepth 100000 in
set_option maxHeartbeats 1600000 in
theorem unq_no (A : Nat → Prop) (v : Value) (l : List UInt8) (x : Nat) (w : World) (hx : RB A w v l) (hl : l.length ≤ 100000) (hT : TabW w) (hg0 : 0 < w.heap.size)
    (h0 : (opnB l 1).2 = x) (hx0 : x ≠ 0) : Calls Tryz.prog 7 #[v] w (UnqNo x w) := by
  obtain ⟨xa, xc, rfl⟩ := hx.shape
  have hb0 : ∀ o, Below w.heap.size w (w.alloc o) := fun o => (Below.refl _ w).alloc (Nat.le_refl _) o
  have hcl : ∀ o, Calls Tryz.prog 25 #[.slice xa l.length xc, .int .i64 (1 : Nat)] (w.alloc o) fun e w' => e = .returned (.tuple #[.pointer none, .int .i64 (x : Nat)]) ∧ Below (w.heap.size + 1) (w.alloc o) w' := fun o => by
    have hx' : RB A (w.alloc o) (.slice xa l.length xc) l := hx.ext (hb0 o)
    refine (opn_no A _ l 1 (w.alloc o) hx' hl (tab_below hT (hb0 o) hg0) (by rw [World.size_alloc]; omega) (by rw [h0]; exact hx0)).mono ?_
    rw [h0]
    rintro e w' ⟨rfl, hb⟩
    exact ⟨rfl, by simpa using hb⟩
  have hxne : ((x : Int) != 0) = true := by
    simp; omega
  have HCL := Lib.hid hcl
  clear hcl hx hT hg0 hx0 h0 hb0
  go_enter Tryz.func7, Tryz.ntmps7
  go_wp2_with fail
  refine (HCL.out _).mono ?_
  rintro e w1 ⟨rfl, hb1⟩
  have B0 := (hb1.block w.heap.size (by omega)).trans (heap_alloc_new w _)
  have hs1 := hb1.size
  simp only [World.size_alloc] at hs1
  have hlt : w.heap.size < w1.heap.size := by omega
  have hbw : Below w.heap.size w w1 := ((Below.refl _ w).alloc (Nat.le_refl _) _).trans (hb1.mono (by omega))
  clear hb1
  obtain ⟨x0, f0⟩ := blk_cell (i := 0) B0
  obtain ⟨x1, f1⟩ := blk_cell (i := 1) B0
  obtain ⟨x2, f2⟩ := blk_cell (i := 2) B0
  obtain ⟨x3, f3⟩ := blk_cell (i := 3) B0
  obtain ⟨x4, f4⟩ := blk_cell (i := 4) B0
  obtain ⟨x5, f5⟩ := blk_cell (i := 5) B0
  obtain ⟨x6, f6⟩ := blk_cell (i := 6) B0
  obtain ⟨x7, f7⟩ := blk_cell (i := 7) B0
  obtain ⟨x8, f8⟩ := blk_cell (i := 8) B0
  simp at x0 x1 x2 x3 x4 x5 x6 x7 x8
  have HB0 := Lib.hid B0
  clear B0
  go_wp2
  (try simp only [Exit.inBlock, Exit.then])
  refine bodyPost_ret (results_cell_tmp_row rfl _ _ w.heap.size 26 _ (0, 0) _ rfl (set9_blk HB0.out) Tryz.underlying26 rfl (by kernel_rfl)) rfl ?_
  exact ⟨rfl, below9 hbw (Nat.le_refl _)⟩
/-- what UnpackRequest leaves -/
def UnqR (x : RqD × Int) (w : World) (e : Ending) (w' : World) : Prop := ∃ ov, e = .returned (.tuple #[rqV x.1 ov, .int .i64 x.2]) ∧ SlE Enc.op (fun b => w.heap.size ≤ b) w' ov x.1.txn.ops ∧ Below w.heap.size w w'
theorem seven {l : List Nat} (h : l.length = 7) : ∃ a b c d e f g, l = [a, b, c, d, e, f, g] := by
  match l, h with
  | [a, b, c, d, e, f, g], _ => exact ⟨a, b, c, d, e, f, g, rfl⟩
set_option maxRecDepth 100000 in
set_option maxHeartbeats 8000000 in
theorem unq_any (A : Nat → Prop) (v : Value) (l : List UInt8) (w : World) (hx : RB A w v l) (hl : l.length ≤ 100000) (hT : TabW w) (hg0 : 0 < w.heap.size) :
    Calls Tryz.prog 7 #[v] w (UnqR (unqB l) w) := by
  by_cases h0 : (opnB l 1).2 = 0
  · obtain ⟨L0, hL0⟩ : ∃ L0, opnB l 1 = (L0, 0) := ⟨(opnB l 1).1, by rw [← h0]⟩
    have hn := opnB_ok hL0
    have hlen0 : L0.length ≤ 8192 := by have := (opnB_len l 1).1; rw [hL0] at this; exact this
    obtain ⟨c, lf, s, kd, im, wh, n, hns⟩ := seven (show (rdNums wsQ ⟨L0, 0⟩).1.length = 7 from rdNums_length _ _)
    have hrd : rdNums wsQ ⟨L0, 0⟩ = ([c, lf, s, kd, im, wh, n], (rdNums wsQ ⟨L0, 0⟩).2) := by rw [← hns]
    have hinv := rdNums_inv wsQ ⟨L0, 0⟩ (Rd.ok_mk _) (show 0 < 1000 by decide)
    obtain ⟨R7, hR7⟩ : ∃ R7, (rdNums wsQ ⟨L0, 0⟩).2 = R7 := ⟨_, rfl⟩
    rw [hR7] at hrd hinv
    have HSM : Hid R7.small := Lib.hid ⟨by have := hinv.2.2; simp only at this; omega, hinv.2.1⟩
    have HN1 : Hid (unqN l = ([c, lf, s, kd, im, wh, n], R7)) := Lib.hid (by show rdNums wsQ ⟨(opnB l 1).1, 0⟩ = _; rw [hL0]; exact hrd)
    have HOE : Hid ((opnB l 1).2 = 0) := Lib.hid h0
    obtain ⟨xa, xc, rfl⟩ := hx.shape
    have HX := Lib.hid hx
    have HT := Lib.hid hT
    have HN := Lib.hid hn
    have HG := Lib.hid hg0
    have HRD := Lib.hid hrd
    have HBL : Hid (L0.length ≤ 8192) := Lib.hid hlen0
    have hb0 : ∀ o, Below w.heap.size w (w.alloc o) := fun o => (Below.refl _ w).alloc (Nat.le_refl _) o
    have HB := Lib.hid hb0
    clear hx hT hn hg0 hrd hL0 hb0 h0 hinv hns hR7 hlen0
    go_enter Tryz.func7, Tryz.ntmps7
    go_wp2_with fail
    refine (opn_ok A _ l L0 1 _ (HX.out.ext (HB.out _)) hl (tab_below HT.out (HB.out _) HG.out) (by have := HG.out; rw [World.size_alloc]; omega) HN.out (by have := HBL.out; omega)).mono ?_
    rintro e w1 ⟨p, rfl, hr, hp, hb1⟩
    have B0 := (hb1.block w.heap.size (by simp)).trans (heap_alloc_new w _)
    have hbw : Below w.heap.size w w1 := ((Below.refl _ w).alloc (Nat.le_refl _) _).trans (hb1.mono (by simp))
    have hpl := hr.lt
    have hs1 := hb1.size
    simp only [World.size_alloc] at hs1 hp
    have HR : Hid (IsRd (fun b => w.heap.size < b ∧ b < p) w1 p ⟨L0, 0⟩) := by
      obtain ⟨u, h1, h2⟩ := hr.ex
      exact ⟨⟨u, h1, h2.weak fun b _ h => by simp at h; omega⟩, fun h => by have := h.2; omega⟩
    have HBW := Lib.hid hbw
    have HB0 := Lib.hid B0
    clear hb1 hbw B0 hr
    have hs2 : w.heap.size < w1.heap.size := by omega
    have Q1 : ((w1.alloc (.cells (qcells [c, lf, s, kd, im, wh, n] 0) 26)).alloc (.cells (fcells w1.heap.size) 63)).heap[w1.heap.size]? = some (.cells (qcells [c, lf, s, kd, im, wh, n] 0) 26 (0, 0)) :=
      (Below.heap_alloc _ _ _ (by simp)).trans (heap_alloc_new _ _)
    have S1 := heap_alloc2_new w1 (.cells (qcells [c, lf, s, kd, im, wh, n] 0) 26) (.cells (fcells w1.heap.size) 63)
    have hA2 : Below w1.heap.size w1 ((w1.alloc (.cells (qcells [c, lf, s, kd, im, wh, n] 0) 26)).alloc (.cells (fcells w1.heap.size) 63)) := ((Below.refl _ w1).alloc (Nat.le_refl _) _).alloc (by simp) _
    have HQ1 := Lib.hid Q1
    have HS1 := Lib.hid S1
    have HA2 := Lib.hid hA2
    have HNE : Hid ([c, lf, s, kd, im, wh, n].length = 7) := rfl
    obtain ⟨ns, hns⟩ : ∃ ns, ns = [c, lf, s, kd, im, wh, n] := ⟨_, rfl⟩
    have HNS := Lib.hid hns
    clear Q1 S1 hA2
    go_wp2
    go_loopw [36] (fun q wr => ∃ k : Nat, k ≤ 7 ∧ q = .int .i64 k ∧ wr.heap[w1.heap.size]? = some (.cells (qcells [c, lf, s, kd, im, wh, n] k) 26 (0, 0)) ∧ wr.heap[w1.heap.size + 1]? = some (.cells (fcells w1.heap.size) 63 (0, 0)) ∧
        IsRd (fun b => w.heap.size < b ∧ b < p) wr p (rdNums (wsQ.take k) ⟨L0, 0⟩).2 ∧ wr.heap[w.heap.size]? = some (.cells rq0 26 (0, 0)) ∧ Below w.heap.size w wr) (fun q _ => 7 - (intOf q).toNat)
    case atStart =>
      refine ⟨0, by omega, rfl, HQ1.out, HS1.out, HR.out.ext HA2.out, (HA2.out.block _ hs2).trans HB0.out, HBW.out.trans (HA2.out.mono (by omega))⟩
    case round =>
      obtain ⟨k, hk, rfl, q1, s1, rr, b0, bw⟩ := hrel
      have HQR := Lib.hid q1
      have HSR := Lib.hid s1
      have HRR := Lib.hid rr
      have HB0R := Lib.hid b0
      have HBWR := Lib.hid bw
      have hpr := rr.lt
      have hqr : w1.heap.size + 1 < wr.heap.size := (Array.getElem?_eq_some_iff.1 s1).1
      clear q1 s1 rr b0 bw
      by_cases hlt : k < 7
      · have hwk : k < wsQ.length := hlt
        have c0 := (blk_cell (i := k * 2) HSR.out).1.trans (fcells_at w1.heap.size k hlt).1
        have c1 := (blk_cell (i := k * 2 + 1) HSR.out).1.trans (fcells_at w1.heap.size k hlt).2
        have d0 := (blk_cell (i := k) HQR.out).1.trans (qcells_at [c, lf, s, kd, im, wh, n] k rfl hlt)
        have g0 := (blk_cell (i := k) HQR.out).2
        have HW := Lib.hid (wsQ_b k hwk)
        have HSTEP := Lib.hid (rdNums_take wsQ ⟨L0, 0⟩ k hwk)
        have HPRE := Lib.hid (rdNums_prefix wsQ ⟨L0, 0⟩ (k + 1))
        have HINV := Lib.hid (rdNums_inv (wsQ.take k) ⟨L0, 0⟩ (Rd.ok_mk _) (show 0 < 1000 by decide))
        generalize wsQ[k] = W at *
        have hplen : (rdNums (wsQ.take k) ⟨L0, 0⟩).1.length = k := by rw [rdNums_length, List.length_take]; show min k 7 = k; omega
        have hnum : Hid ((((rdNums (wsQ.take k) ⟨L0, 0⟩).2.num W).1) = [c, lf, s, kd, im, wh, n][k]) := by
          refine last_is (ns := [c, lf, s, kd, im, wh, n]) hplen hlt ?_
          have h1 := congrArg Prod.fst HSTEP.out
          rw [HPRE.out, HRD.out] at h1
          exact h1.symm
        have hlen : (rdNums (wsQ.take k) ⟨L0, 0⟩).2.l.length ≤ 100000 := by have h2 := HINV.out.2.2; have h3 := HBL.out; simp only at h2; omega
        have hlen' := Lib.hid hlen
        have hre := Lib.hid HINV.out.2.1
        have hSN : Hid ((rdNums (wsQ.take (k + 1)) ⟨L0, 0⟩).2 = ((rdNums (wsQ.take k) ⟨L0, 0⟩).2.num W).2) := by
          show _ = _
          rw [HSTEP.out]
          rfl
        have HST := Lib.hid (qcells_step [c, lf, s, kd, im, wh, n] k rfl hlt)
        generalize (rdNums (wsQ.take k) ⟨L0, 0⟩).2 = R at *
        clear hplen hlen
        have hqp : w1.heap.size ≠ p := by omega
        have hpw : wr.heap.size ≠ p := by omega
        have hqw : w1.heap.size < wr.heap.size := by omega
        have hfz : ∀ o, (wr.alloc o).drew.frozen? ⟨w1.heap.size, k, none⟩ = false := fun o => (World.frozen?_of_block (Below.heap_alloc wr o w1.heap.size hqw)).trans g0
        go_wp2
        go_region_with (go_at_call 26; refine (rnum_any _ p W R _ (HRR.out.ext (Below.drew ((Below.refl _ _).alloc (Nat.le_refl _) _))) HW.out.1 HW.out.2 hlen'.out hre.out).mono ?_; rintro e w3 ⟨rfl, hr3, hf3⟩; have hs3 := hf3.size; have e0 : w3.cell? ⟨wr.heap.size, 0, none⟩ = _ := (hf3.cell (p := ⟨wr.heap.size, 0, none⟩) (by simp) hpw).trans (by simp; rfl); have e2 : w3.cell? ⟨w1.heap.size, k, none⟩ = _ := (hf3.cell (p := ⟨w1.heap.size, k, none⟩) (by simp; omega) hqp).trans ((World.cell?_alloc_lt _ _ _ hqw).trans d0); have e3 : w3.frozen? ⟨w1.heap.size, k, none⟩ = false := (hf3.frozen (p := ⟨w1.heap.size, k, none⟩) (by simp; omega) hqp).trans (hfz _); have HR3 := Lib.hid hr3; have HF3 := Lib.hid hf3; clear hr3 hf3)
        all_goals
          go_wp2
          go_roundw
          case rel =>
            refine ⟨k + 1, by omega, by go_num, ?_, ?_, ?_, ?_, ?_⟩
            · rw [hnum.out, ← HST.out]
              exact set_blk3 ((HF3.out.block _ (by simp; omega) hqp).trans ((Below.heap_alloc _ _ _ hqw).trans HQR.out))
            · exact (Below.heap_setCell _ ⟨w1.heap.size, k, none⟩ _ _ (by show _ ≠ w1.heap.size; omega)).trans ((HF3.out.block (w1.heap.size + 1) (by simp; omega) (by show ¬ (w1.heap.size + 1 = p); omega)).trans ((Below.heap_alloc _ _ _ (by omega)).trans HSR.out))
            · rw [hSN.out]
              exact IsRd.same (B := fun b => b ≠ w1.heap.size) HR3.out (Same.setCell (a := ⟨w1.heap.size, k, none⟩) (Same.refl _ _) (fun h => h rfl) _) (Ne.symm hqp) (fun b h => by have := h.2; omega)
            · exact (Below.heap_setCell _ ⟨w1.heap.size, k, none⟩ _ _ (by show _ ≠ w1.heap.size; omega)).trans ((HF3.out.block w.heap.size (by simp; omega) (by show ¬ (w.heap.size = p); omega)).trans ((Below.heap_alloc _ _ _ (by omega)).trans HB0R.out))
            · refine Below.setCell (p := ⟨w1.heap.size, k, none⟩) ?_ (by show _ ≤ w1.heap.size; omega) _
              exact ((HBWR.out.alloc (by omega) _).drew).trans (HF3.out.below (B := w.heap.size) (by simp; omega) fun j hj h => by have h : j = p := h; omega)
          case measure => simp [intOf]; omega
      · obtain rfl : k = 7 := by omega
        have h7 : (rdNums (wsQ.take 7) ⟨L0, 0⟩).2 = R7 := congrArg Prod.snd HRD.out
        have HR7 := Lib.hid (h7 ▸ HRR.out)
        clear h7
        have HQ7 : Hid (wr.heap[w1.heap.size]? = some (.cells (rqC ⟨c, lf, s, kd, im, wh, n, TxD.none⟩ (.slice none 0 0)) 26 (0, 0))) := HQR.out
        obtain ⟨⟨x, R8⟩, hX⟩ : ∃ X, X = R7.blob 8192 := ⟨_, rfl⟩
        go_wp2_with fail
        refine (rblob_any _ p 8192 _ _ HR7.out (by omega) HSM.out.len HSM.out.err (HSM.out.num 2).err).mono ?_
        rw [← hX]
        rintro e w3 ⟨v3, rfl, hv3, hr3, hf3⟩
        have HSM8 : Hid R8.small := Lib.hid (by have := HSM.out.blob 8192; rw [← hX] at this; exact this)
        have hxl : x.length ≤ 8192 := by have := (Rd.blob_len R7 8192).1; rw [← hX] at this; exact this
        have HXX : Hid (unqX l = (x, R8)) := Lib.hid (unqX_of HN1.out hX.symm)
        obtain ⟨a3, c3, rfl⟩ := hv3.shape
        simp only at hr3 hv3 ⊢
        have Q3 := (hf3.block w1.heap.size (by omega) (by show ¬ (w1.heap.size = p); omega)).trans HQ7.out
        have B3 := (hf3.block w.heap.size (by omega) (by show ¬ (w.heap.size = p); omega)).trans HB0R.out
        have hbw3 : Below w.heap.size w w3 := HBWR.out.trans (hf3.below (B := w.heap.size) (by omega) fun j hj h => by have h : j = p := h; omega)
        have hs3 := hf3.size
        have HV3 := Lib.hid hv3
        have HR3 := Lib.hid hr3
        have HQ3 := Lib.hid Q3
        have HB3 := Lib.hid B3
        have HW3 := Lib.hid hbw3
        clear hv3 hr3 hf3 Q3 B3 hbw3 hX
        go_wp2_with fail
        refine (end_any _ p _ _ HR3.out HSM8.out.len HSM8.out.err).mono ?_
        rintro e w4 ⟨rfl, hr4, hf4⟩
        have Q4 := Lib.hid ((hf4.block w1.heap.size (by omega) (by show ¬ (w1.heap.size = p); omega)).trans HQ3.out)
        have B4 := Lib.hid ((hf4.block w.heap.size (by omega) (by show ¬ (w.heap.size = p); omega)).trans HB3.out)
        have W4 := Lib.hid (HW3.out.trans (hf4.below (B := w.heap.size) (by omega) fun j hj h => by have h : j = p := h; omega))
        have HV4 : Hid (RB (fun b => wr.heap.size ≤ b) w4 (.slice a3 x.length c3) x) := Lib.hid (HV3.out.mono ⟨hf4.size, fun b hb hl => hf4.block b hl (by show ¬ (b = p); have hb : wr.heap.size ≤ b := hb; omega)⟩)
        have hs4 := hf4.size
        have hw14 : w1.heap.size < w4.heap.size := by omega
        clear hr4 hf4 HR3 HV3 HQ3 HB3 HW3
        have hcv := cnv_bytes HV4.out w4 (Below.refl _ _)
        obtain ⟨y0, g0⟩ := blk_cell (i := 0) Q4.out
        obtain ⟨y1, g1⟩ := blk_cell (i := 1) Q4.out
        obtain ⟨y2, g2⟩ := blk_cell (i := 2) Q4.out
        obtain ⟨y3, g3⟩ := blk_cell (i := 3) Q4.out
        obtain ⟨y4, g4⟩ := blk_cell (i := 4) Q4.out
        obtain ⟨y5, g5⟩ := blk_cell (i := 5) Q4.out
        obtain ⟨y6, g6⟩ := blk_cell (i := 6) Q4.out
        obtain ⟨y7, g7⟩ := blk_cell (i := 7) Q4.out
        obtain ⟨y8, g8⟩ := blk_cell (i := 8) Q4.out
        obtain ⟨x0, f0⟩ := blk_cell (i := 0) B4.out
        obtain ⟨x1, f1⟩ := blk_cell (i := 1) B4.out
        obtain ⟨x2, f2⟩ := blk_cell (i := 2) B4.out
        obtain ⟨x3, f3⟩ := blk_cell (i := 3) B4.out
        obtain ⟨x4, f4⟩ := blk_cell (i := 4) B4.out
        obtain ⟨x5, f5⟩ := blk_cell (i := 5) B4.out
        obtain ⟨x6, f6⟩ := blk_cell (i := 6) B4.out
        obtain ⟨x7, f7⟩ := blk_cell (i := 7) B4.out
        obtain ⟨x8, f8⟩ := blk_cell (i := 8) B4.out
        simp [rqC] at y0 y1 y2 y3 y4 y5 y6 y7 y8
        simp [rq0] at x0 x1 x2 x3 x4 x5 x6 x7 x8
        by_cases hfe : R8.fin.e = 0
        · have u1 : ((R8.fin.e : Int) == 0) = true := by simp [hfe]
          have u2 : ((R8.fin.e : Int) != 0) = false := by simp [hfe]
          by_cases hk1 : kd = 1
          · have HT1 := Lib.hid (unqT_tx HN1.out HXX.out hfe hk1)
            have hkd : ((kd : Int) == 1) = true := by simp [hk1]
            clear hfe hk1
            go_wp2_with fail
            refine (tunpack_any _ _ x _ HV4.out (by omega)).mono ?_
            obtain ⟨⟨t, E⟩, hTE⟩ : ∃ X, X = txUn x := ⟨_, rfl⟩
            rw [← hTE]
            rintro e w45 ⟨v45, rfl, h45, hb45⟩
            simp only at h45 ⊢
            obtain ⟨a45, c45, rfl⟩ := h45.shape
            have HTT0 : Hid (unqT l = (t, E)) := Lib.hid (HT1.out.trans hTE.symm)
            have Q45 := Lib.hid (blkk hb45 Q4.out)
            have B45 := Lib.hid (blkk hb45 B4.out)
            have W45 := Lib.hid (below_call W4.out hb45)
            have HO45 := Lib.hid h45
            have hs45 := hb45.size
            clear y0 y1 y2 y3 y4 y5 y6 y7 y8 g0 g1 g2 g3 g4 g5 g6 g7 g8 x0 x1 x2 x3 x4 x5 x6 x7 x8 f0 f1 f2 f3 f4 f5 f6 f7 f8
            clear h45 hb45 hTE HT1 Q4 B4 W4 hcv
            obtain ⟨y0, g0⟩ := blk_cell (i := 0) Q45.out
            obtain ⟨y1, g1⟩ := blk_cell (i := 1) Q45.out
            obtain ⟨y2, g2⟩ := blk_cell (i := 2) Q45.out
            obtain ⟨y3, g3⟩ := blk_cell (i := 3) Q45.out
            obtain ⟨y4, g4⟩ := blk_cell (i := 4) Q45.out
            obtain ⟨y5, g5⟩ := blk_cell (i := 5) Q45.out
            obtain ⟨y6, g6⟩ := blk_cell (i := 6) Q45.out
            obtain ⟨y7, g7⟩ := blk_cell (i := 7) Q45.out
            obtain ⟨y8, g8⟩ := blk_cell (i := 8) Q45.out
            obtain ⟨x0, f0⟩ := blk_cell (i := 0) B45.out
            obtain ⟨x1, f1⟩ := blk_cell (i := 1) B45.out
            obtain ⟨x2, f2⟩ := blk_cell (i := 2) B45.out
            obtain ⟨x3, f3⟩ := blk_cell (i := 3) B45.out
            obtain ⟨x4, f4⟩ := blk_cell (i := 4) B45.out
            obtain ⟨x5, f5⟩ := blk_cell (i := 5) B45.out
            obtain ⟨x6, f6⟩ := blk_cell (i := 6) B45.out
            obtain ⟨x7, f7⟩ := blk_cell (i := 7) B45.out
            obtain ⟨x8, f8⟩ := blk_cell (i := 8) B45.out
            simp [rqC] at y0 y1 y2 y3 y4 y5 y6 y7 y8
            simp [rq0] at x0 x1 x2 x3 x4 x5 x6 x7 x8
            have hw45 : w1.heap.size < w45.heap.size := by omega
            go_upto_region 15 with fail
            obtain ⟨w5, hw5⟩ : ∃ w5, w5 = (w45.setCell ⟨w1.heap.size, 7, none⟩ (.string t.obj)).setCell ⟨w1.heap.size, 8, none⟩ (.slice a45 t.ops.length c45) := ⟨_, rfl⟩
            rw [← hw5]
            have Q5 : Hid (w5.heap[w1.heap.size]? = some (.cells (rqC ⟨c, lf, s, kd, im, wh, n, t⟩ (.slice a45 t.ops.length c45)) 26 (0, 0))) := Lib.hid (by rw [hw5]; exact set_blk3 (j := 8) (set_blk3 (j := 7) Q45.out))
            have B5 : Hid (w5.heap[w.heap.size]? = some (.cells rq0 26 (0, 0))) := Lib.hid (by rw [hw5]; exact (Below.heap_setCell _ ⟨w1.heap.size, 8, none⟩ _ _ (by show w.heap.size ≠ w1.heap.size; omega)).trans ((Below.heap_setCell _ ⟨w1.heap.size, 7, none⟩ _ _ (by show w.heap.size ≠ w1.heap.size; omega)).trans B45.out))
            have W5 : Hid (Below w.heap.size w w5) := Lib.hid (by rw [hw5]; exact (W45.out.setCell (p := ⟨w1.heap.size, 7, none⟩) (by show _ ≤ w1.heap.size; omega) _).setCell (p := ⟨w1.heap.size, 8, none⟩) (by show _ ≤ w1.heap.size; omega) _)
            have HOV : Hid (SlE Enc.op (fun b => w.heap.size < b) w5 (.slice a45 t.ops.length c45) t.ops) := Lib.hid (by
              rw [hw5]
              have h1 := SlE.mono HO45.out (Same.setCell (a := ⟨w1.heap.size, 8, none⟩) (Same.setCell (a := ⟨w1.heap.size, 7, none⟩) (Same.refl (fun b => w4.heap.size ≤ b) w45) (by show ¬ w4.heap.size ≤ w1.heap.size; omega) (.string t.obj)) (by show ¬ w4.heap.size ≤ w1.heap.size; omega) (.slice a45 t.ops.length c45))
              exact SlE.weak h1 fun b _ hb => by omega)
            clear y0 y1 y2 y3 y4 y5 y6 y7 y8 g0 g1 g2 g3 g4 g5 g6 g7 g8 x0 x1 x2 x3 x4 x5 x6 x7 x8 f0 f1 f2 f3 f4 f5 f6 f7 f8
            clear hw5 Q45 B45 W45 HO45
            by_cases hE : E = 0
            · subst hE
              have HTT := HTT0
              have hsz5 : w1.heap.size < w5.heap.size := (Array.getElem?_eq_some_iff.1 Q5.out).1
              obtain ⟨y0, g0⟩ := blk_cell (i := 0) Q5.out
              obtain ⟨y1, g1⟩ := blk_cell (i := 1) Q5.out
              obtain ⟨y2, g2⟩ := blk_cell (i := 2) Q5.out
              obtain ⟨y3, g3⟩ := blk_cell (i := 3) Q5.out
              obtain ⟨y4, g4⟩ := blk_cell (i := 4) Q5.out
              obtain ⟨y5, g5⟩ := blk_cell (i := 5) Q5.out
              obtain ⟨y6, g6⟩ := blk_cell (i := 6) Q5.out
              obtain ⟨y7, g7⟩ := blk_cell (i := 7) Q5.out
              obtain ⟨y8, g8⟩ := blk_cell (i := 8) Q5.out
              obtain ⟨x0, f0⟩ := blk_cell (i := 0) B5.out
              obtain ⟨x1, f1⟩ := blk_cell (i := 1) B5.out
              obtain ⟨x2, f2⟩ := blk_cell (i := 2) B5.out
              obtain ⟨x3, f3⟩ := blk_cell (i := 3) B5.out
              obtain ⟨x4, f4⟩ := blk_cell (i := 4) B5.out
              obtain ⟨x5, f5⟩ := blk_cell (i := 5) B5.out
              obtain ⟨x6, f6⟩ := blk_cell (i := 6) B5.out
              obtain ⟨x7, f7⟩ := blk_cell (i := 7) B5.out
              obtain ⟨x8, f8⟩ := blk_cell (i := 8) B5.out
              simp [rqC] at y0 y1 y2 y3 y4 y5 y6 y7 y8
              simp [rq0] at x0 x1 x2 x3 x4 x5 x6 x7 x8
              go_wp2_with fail
              refine (mayq_exact (fun b => w.heap.size < b) ⟨c, lf, s, kd, im, wh, n, t⟩ _ _ HOV.out).mono ?_
              rintro e w6 ⟨rfl, hb6⟩
              have Q6 := Lib.hid (blkk hb6 Q5.out)
              have B6 := Lib.hid (blkk hb6 B5.out)
              have W6 := Lib.hid (below_call W5.out hb6)
              have HOV6 := Lib.hid (HOV.out.ext hb6)
              clear y0 y1 y2 y3 y4 y5 y6 y7 y8 g0 g1 g2 g3 g4 g5 g6 g7 g8 x0 x1 x2 x3 x4 x5 x6 x7 x8 f0 f1 f2 f3 f4 f5 f6 f7 f8
              clear hb6 Q5 B5 W5 HOV hsz5
              have hsz6 : w1.heap.size < w6.heap.size := (Array.getElem?_eq_some_iff.1 Q6.out).1
              obtain ⟨y0, g0⟩ := blk_cell (i := 0) Q6.out
              obtain ⟨y1, g1⟩ := blk_cell (i := 1) Q6.out
              obtain ⟨y2, g2⟩ := blk_cell (i := 2) Q6.out
              obtain ⟨y3, g3⟩ := blk_cell (i := 3) Q6.out
              obtain ⟨y4, g4⟩ := blk_cell (i := 4) Q6.out
              obtain ⟨y5, g5⟩ := blk_cell (i := 5) Q6.out
              obtain ⟨y6, g6⟩ := blk_cell (i := 6) Q6.out
              obtain ⟨y7, g7⟩ := blk_cell (i := 7) Q6.out
              obtain ⟨y8, g8⟩ := blk_cell (i := 8) Q6.out
              obtain ⟨x0, f0⟩ := blk_cell (i := 0) B6.out
              obtain ⟨x1, f1⟩ := blk_cell (i := 1) B6.out
              obtain ⟨x2, f2⟩ := blk_cell (i := 2) B6.out
              obtain ⟨x3, f3⟩ := blk_cell (i := 3) B6.out
              obtain ⟨x4, f4⟩ := blk_cell (i := 4) B6.out
              obtain ⟨x5, f5⟩ := blk_cell (i := 5) B6.out
              obtain ⟨x6, f6⟩ := blk_cell (i := 6) B6.out
              obtain ⟨x7, f7⟩ := blk_cell (i := 7) B6.out
              obtain ⟨x8, f8⟩ := blk_cell (i := 8) B6.out
              simp [rqC] at y0 y1 y2 y3 y4 y5 y6 y7 y8
              simp [rq0] at x0 x1 x2 x3 x4 x5 x6 x7 x8
              cases hm : mayQ ⟨c, lf, s, kd, im, wh, n, t⟩ with
              | true =>
                have HEQ := Lib.hid (unqB_yes HOE.out HN1.out HTT.out hm)
                clear hm
                go_wp2
                (try simp only [Exit.inBlock, Exit.then])
                refine bodyPost_ret (results_cell_tmp_row rfl _ _ w.heap.size 26 _ (0, 0) _ rfl (set9_blk B6.out) Tryz.underlying26 rfl (by kernel_rfl)) rfl ?_
                rw [HEQ.out]
                exact ⟨_, rfl, SlE.weak (SlE.mono HOV6.out (same9 (A := fun b => w.heap.size < b) (Nat.lt_irrefl _))) fun b _ hb => Nat.le_of_lt hb, below9 W6.out (Nat.le_refl _)⟩
              | false =>
                have HEQ := Lib.hid (unqB_no HOE.out HN1.out HTT.out hm)
                clear hm
                go_wp2
                (try simp only [Exit.inBlock, Exit.then])
                refine bodyPost_ret (results_cell_tmp_row rfl _ _ w.heap.size 26 _ (0, 0) _ rfl (set9_blk B6.out) Tryz.underlying26 rfl (by kernel_rfl)) rfl ?_
                rw [HEQ.out]
                exact ⟨_, rfl, SlE.nil _ _ _, below9 W6.out (Nat.le_refl _)⟩
            · have HEQ := Lib.hid (unqB_bad HOE.out (congrArg Prod.snd HTT0.out) hE)
              have u2 : (E == 0) = false := by simpa using hE
              have u3 : (E != 0) = true := by simpa using hE
              clear hE
              have hsz5 : w1.heap.size < w5.heap.size := (Array.getElem?_eq_some_iff.1 Q5.out).1
              obtain ⟨y0, g0⟩ := blk_cell (i := 0) Q5.out
              obtain ⟨y1, g1⟩ := blk_cell (i := 1) Q5.out
              obtain ⟨y2, g2⟩ := blk_cell (i := 2) Q5.out
              obtain ⟨y3, g3⟩ := blk_cell (i := 3) Q5.out
              obtain ⟨y4, g4⟩ := blk_cell (i := 4) Q5.out
              obtain ⟨y5, g5⟩ := blk_cell (i := 5) Q5.out
              obtain ⟨y6, g6⟩ := blk_cell (i := 6) Q5.out
              obtain ⟨y7, g7⟩ := blk_cell (i := 7) Q5.out
              obtain ⟨y8, g8⟩ := blk_cell (i := 8) Q5.out
              obtain ⟨x0, f0⟩ := blk_cell (i := 0) B5.out
              obtain ⟨x1, f1⟩ := blk_cell (i := 1) B5.out
              obtain ⟨x2, f2⟩ := blk_cell (i := 2) B5.out
              obtain ⟨x3, f3⟩ := blk_cell (i := 3) B5.out
              obtain ⟨x4, f4⟩ := blk_cell (i := 4) B5.out
              obtain ⟨x5, f5⟩ := blk_cell (i := 5) B5.out
              obtain ⟨x6, f6⟩ := blk_cell (i := 6) B5.out
              obtain ⟨x7, f7⟩ := blk_cell (i := 7) B5.out
              obtain ⟨x8, f8⟩ := blk_cell (i := 8) B5.out
              simp [rqC] at y0 y1 y2 y3 y4 y5 y6 y7 y8
              simp [rq0] at x0 x1 x2 x3 x4 x5 x6 x7 x8
              go_wp2
              (try simp only [Exit.inBlock, Exit.then])
              refine bodyPost_ret (results_cell_tmp_row rfl _ _ w.heap.size 26 _ (0, 0) _ rfl (set9_blk B5.out) Tryz.underlying26 rfl (by kernel_rfl)) rfl ?_
              rw [HEQ.out]
              exact ⟨_, rfl, SlE.nil _ _ _, below9 W5.out (Nat.le_refl _)⟩
          · have HTT := Lib.hid (unqT_obj HN1.out HXX.out hfe hk1)
            have hkd : ((kd : Int) == 1) = false := by simp; omega
            clear hfe hk1
            go_upto_region 15 with fail
            obtain ⟨w5, hw5⟩ : ∃ w5, w5 = w4.setCell ⟨w1.heap.size, 7, none⟩ (.string ⟨x.toArray⟩) := ⟨_, rfl⟩
            rw [← hw5]
            have Q5 : Hid (w5.heap[w1.heap.size]? = some (.cells (rqC ⟨c, lf, s, kd, im, wh, n, ⟨⟨x.toArray⟩, []⟩⟩ (.slice none 0 0)) 26 (0, 0))) := Lib.hid (by rw [hw5]; exact set_blk3 (j := 7) Q4.out)
            have B5 : Hid (w5.heap[w.heap.size]? = some (.cells rq0 26 (0, 0))) := Lib.hid (by rw [hw5]; exact (Below.heap_setCell _ ⟨w1.heap.size, 7, none⟩ _ _ (by show w.heap.size ≠ w1.heap.size; omega)).trans B4.out)
            have W5 : Hid (Below w.heap.size w w5) := Lib.hid (by rw [hw5]; exact W4.out.setCell (p := ⟨w1.heap.size, 7, none⟩) (by show _ ≤ w1.heap.size; omega) _)
            have HOV : Hid (SlE Enc.op (fun b => w.heap.size < b) w5 (.slice none 0 0) []) := Lib.hid (SlE.nil _ _ _)
            clear y0 y1 y2 y3 y4 y5 y6 y7 y8 g0 g1 g2 g3 g4 g5 g6 g7 g8 x0 x1 x2 x3 x4 x5 x6 x7 x8 f0 f1 f2 f3 f4 f5 f6 f7 f8
            clear hw5 Q4 B4 W4 hcv
            have hsz5 : w1.heap.size < w5.heap.size := (Array.getElem?_eq_some_iff.1 Q5.out).1
            obtain ⟨y0, g0⟩ := blk_cell (i := 0) Q5.out
            obtain ⟨y1, g1⟩ := blk_cell (i := 1) Q5.out
            obtain ⟨y2, g2⟩ := blk_cell (i := 2) Q5.out
            obtain ⟨y3, g3⟩ := blk_cell (i := 3) Q5.out
            obtain ⟨y4, g4⟩ := blk_cell (i := 4) Q5.out
            obtain ⟨y5, g5⟩ := blk_cell (i := 5) Q5.out
            obtain ⟨y6, g6⟩ := blk_cell (i := 6) Q5.out
            obtain ⟨y7, g7⟩ := blk_cell (i := 7) Q5.out
            obtain ⟨y8, g8⟩ := blk_cell (i := 8) Q5.out
            obtain ⟨x0, f0⟩ := blk_cell (i := 0) B5.out
            obtain ⟨x1, f1⟩ := blk_cell (i := 1) B5.out
            obtain ⟨x2, f2⟩ := blk_cell (i := 2) B5.out
            obtain ⟨x3, f3⟩ := blk_cell (i := 3) B5.out
            obtain ⟨x4, f4⟩ := blk_cell (i := 4) B5.out
            obtain ⟨x5, f5⟩ := blk_cell (i := 5) B5.out
            obtain ⟨x6, f6⟩ := blk_cell (i := 6) B5.out
            obtain ⟨x7, f7⟩ := blk_cell (i := 7) B5.out
            obtain ⟨x8, f8⟩ := blk_cell (i := 8) B5.out
            simp [rqC] at y0 y1 y2 y3 y4 y5 y6 y7 y8
            simp [rq0] at x0 x1 x2 x3 x4 x5 x6 x7 x8
            go_wp2_with fail
            refine (mayq_exact (fun b => w.heap.size < b) ⟨c, lf, s, kd, im, wh, n, ⟨⟨x.toArray⟩, []⟩⟩ _ _ HOV.out).mono ?_
            rintro e w6 ⟨rfl, hb6⟩
            have Q6 := Lib.hid (blkk hb6 Q5.out)
            have B6 := Lib.hid (blkk hb6 B5.out)
            have W6 := Lib.hid (below_call W5.out hb6)
            have HOV6 := Lib.hid (HOV.out.ext hb6)
            clear y0 y1 y2 y3 y4 y5 y6 y7 y8 g0 g1 g2 g3 g4 g5 g6 g7 g8 x0 x1 x2 x3 x4 x5 x6 x7 x8 f0 f1 f2 f3 f4 f5 f6 f7 f8
            clear hb6 Q5 B5 W5 HOV hsz5
            have hsz6 : w1.heap.size < w6.heap.size := (Array.getElem?_eq_some_iff.1 Q6.out).1
            obtain ⟨y0, g0⟩ := blk_cell (i := 0) Q6.out
            obtain ⟨y1, g1⟩ := blk_cell (i := 1) Q6.out
            obtain ⟨y2, g2⟩ := blk_cell (i := 2) Q6.out
            obtain ⟨y3, g3⟩ := blk_cell (i := 3) Q6.out
            obtain ⟨y4, g4⟩ := blk_cell (i := 4) Q6.out
            obtain ⟨y5, g5⟩ := blk_cell (i := 5) Q6.out
            obtain ⟨y6, g6⟩ := blk_cell (i := 6) Q6.out
            obtain ⟨y7, g7⟩ := blk_cell (i := 7) Q6.out
            obtain ⟨y8, g8⟩ := blk_cell (i := 8) Q6.out
            obtain ⟨x0, f0⟩ := blk_cell (i := 0) B6.out
            obtain ⟨x1, f1⟩ := blk_cell (i := 1) B6.out
            obtain ⟨x2, f2⟩ := blk_cell (i := 2) B6.out
            obtain ⟨x3, f3⟩ := blk_cell (i := 3) B6.out
            obtain ⟨x4, f4⟩ := blk_cell (i := 4) B6.out
            obtain ⟨x5, f5⟩ := blk_cell (i := 5) B6.out
            obtain ⟨x6, f6⟩ := blk_cell (i := 6) B6.out
            obtain ⟨x7, f7⟩ := blk_cell (i := 7) B6.out
            obtain ⟨x8, f8⟩ := blk_cell (i := 8) B6.out
            simp [rqC] at y0 y1 y2 y3 y4 y5 y6 y7 y8
            simp [rq0] at x0 x1 x2 x3 x4 x5 x6 x7 x8
            cases hm : mayQ ⟨c, lf, s, kd, im, wh, n, ⟨⟨x.toArray⟩, []⟩⟩ with
            | true =>
              have HEQ := Lib.hid (unqB_yes HOE.out HN1.out HTT.out hm)
              clear hm
              go_wp2
              (try simp only [Exit.inBlock, Exit.then])
              refine bodyPost_ret (results_cell_tmp_row rfl _ _ w.heap.size 26 _ (0, 0) _ rfl (set9_blk B6.out) Tryz.underlying26 rfl (by kernel_rfl)) rfl ?_
              rw [HEQ.out]
              exact ⟨_, rfl, SlE.weak (SlE.mono HOV6.out (same9 (A := fun b => w.heap.size < b) (Nat.lt_irrefl _))) fun b _ hb => Nat.le_of_lt hb, below9 W6.out (Nat.le_refl _)⟩
            | false =>
              have HEQ := Lib.hid (unqB_no HOE.out HN1.out HTT.out hm)
              clear hm
              go_wp2
              (try simp only [Exit.inBlock, Exit.then])
              refine bodyPost_ret (results_cell_tmp_row rfl _ _ w.heap.size 26 _ (0, 0) _ rfl (set9_blk B6.out) Tryz.underlying26 rfl (by kernel_rfl)) rfl ?_
              rw [HEQ.out]
              exact ⟨_, rfl, SlE.nil _ _ _, below9 W6.out (Nat.le_refl _)⟩
        · have HEQ := Lib.hid (unqB_bad HOE.out (unqT_fin HXX.out hfe) (by omega))
          have u2 : ((R8.fin.e : Int) == 0) = false := by simp [hfe]
          have u3 : ((R8.fin.e : Int) != 0) = true := by simp [hfe]
          clear hfe
          go_upto_region 15 with fail
          obtain ⟨w5, hw5⟩ : ∃ w5, w5 = w4.setCell ⟨w1.heap.size, 7, none⟩ (.string ⟨x.toArray⟩) := ⟨_, rfl⟩
          rw [← hw5]
          have Q5 : Hid (w5.heap[w1.heap.size]? = some (.cells (rqC ⟨c, lf, s, kd, im, wh, n, ⟨⟨x.toArray⟩, []⟩⟩ (.slice none 0 0)) 26 (0, 0))) := Lib.hid (by rw [hw5]; exact set_blk3 (j := 7) Q4.out)
          have B5 : Hid (w5.heap[w.heap.size]? = some (.cells rq0 26 (0, 0))) := Lib.hid (by rw [hw5]; exact (Below.heap_setCell _ ⟨w1.heap.size, 7, none⟩ _ _ (by show w.heap.size ≠ w1.heap.size; omega)).trans B4.out)
          have W5 : Hid (Below w.heap.size w w5) := Lib.hid (by rw [hw5]; exact W4.out.setCell (p := ⟨w1.heap.size, 7, none⟩) (by show _ ≤ w1.heap.size; omega) _)
          clear y0 y1 y2 y3 y4 y5 y6 y7 y8 g0 g1 g2 g3 g4 g5 g6 g7 g8 x0 x1 x2 x3 x4 x5 x6 x7 x8 f0 f1 f2 f3 f4 f5 f6 f7 f8
          clear hw5 Q4 B4 W4 hcv
          have hsz5 : w1.heap.size < w5.heap.size := (Array.getElem?_eq_some_iff.1 Q5.out).1
          obtain ⟨y0, g0⟩ := blk_cell (i := 0) Q5.out
          obtain ⟨y1, g1⟩ := blk_cell (i := 1) Q5.out
          obtain ⟨y2, g2⟩ := blk_cell (i := 2) Q5.out
          obtain ⟨y3, g3⟩ := blk_cell (i := 3) Q5.out
          obtain ⟨y4, g4⟩ := blk_cell (i := 4) Q5.out
          obtain ⟨y5, g5⟩ := blk_cell (i := 5) Q5.out
          obtain ⟨y6, g6⟩ := blk_cell (i := 6) Q5.out
          obtain ⟨y7, g7⟩ := blk_cell (i := 7) Q5.out
          obtain ⟨y8, g8⟩ := blk_cell (i := 8) Q5.out
          obtain ⟨x0, f0⟩ := blk_cell (i := 0) B5.out
          obtain ⟨x1, f1⟩ := blk_cell (i := 1) B5.out
          obtain ⟨x2, f2⟩ := blk_cell (i := 2) B5.out
          obtain ⟨x3, f3⟩ := blk_cell (i := 3) B5.out
          obtain ⟨x4, f4⟩ := blk_cell (i := 4) B5.out
          obtain ⟨x5, f5⟩ := blk_cell (i := 5) B5.out
          obtain ⟨x6, f6⟩ := blk_cell (i := 6) B5.out
          obtain ⟨x7, f7⟩ := blk_cell (i := 7) B5.out
          obtain ⟨x8, f8⟩ := blk_cell (i := 8) B5.out
          simp [rqC] at y0 y1 y2 y3 y4 y5 y6 y7 y8
          simp [rq0] at x0 x1 x2 x3 x4 x5 x6 x7 x8
          go_wp2
          (try simp only [Exit.inBlock, Exit.then])
          refine bodyPost_ret (results_cell_tmp_row rfl _ _ w.heap.size 26 _ (0, 0) _ rfl (set9_blk B5.out) Tryz.underlying26 rfl (by kernel_rfl)) rfl ?_
          rw [HEQ.out]
          exact ⟨_, rfl, SlE.nil _ _ _, below9 W5.out (Nat.le_refl _)⟩
  · have hE : unqB l = (RqD.none, ((opnB l 1).2 : Int)) := by
      have h1 : unqE l = ((opnB l 1).2 : Int) := if_pos (by omega)
      unfold unqB
      rw [if_neg (by rw [h1]; omega), h1]
    rw [hE]
    refine (unq_no A v l _ w hx hl hT hg0 rfl h0).mono ?_
    rintro e w' ⟨rfl, hb⟩
    exact ⟨_, rfl, SlE.nil _ _ _, hb⟩
end Go.Proofs.YtlgefkaafoidmaaGreatDoor
