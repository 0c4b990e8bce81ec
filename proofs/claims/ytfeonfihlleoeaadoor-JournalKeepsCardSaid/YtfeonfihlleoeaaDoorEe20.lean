/- The walk of entry.Unpack at any bytes. -/
import Derived.Test.YtfeonfihlleoeaaDoorEd20
import Derived.Test.YtfeonfihlleoeaaDoorGAR
import Derived.Test.YtfeonfihlleoeaaDoorGAS
namespace Go.Proofs.YtfeonfihlleoeaaDoor
open Go.RowKit Go.WideShapes

/-- what Unpack leaves -/
def UnEO (x : EnD × Int) (w : World) (e : Ending) (w' : World) : Prop := ∃ a' c', e = .returned (.tuple #[enV x.1 (.slice a' x.1.data.length c'), .int .i64 x.2]) ∧ RB (fun b => w.heap.size ≤ b) w' (.slice a' x.1.data.length c') x.1.data ∧ Below w.heap.size w w'
/-- kept out of sight, of 'contradiction' too -/
structure KepU (p : Prop) : Prop where
  mk ::
  out : p
theorem UnEO.no {x : Int} {w w' : World} {l : List UInt8} (h : unE l = (EnD.none, x)) (hb : Below w.heap.size w w') : UnEO (unE l) w (.returned (.tuple #[.agg #[.int .i64 0, .int .i64 0, .int .i64 0, .int .i64 0, .int .i64 0, .int .i64 0, .slice none 0 0], .int .i64 x])) w' := by
  rw [h]
  exact ⟨none, 0, rfl, RB.nil _ _, hb⟩
theorem unE_hd {l : List UInt8} {h : Nat} (hh : unHd l = h) (h0 : h ≠ 0) : unE l = (EnD.none, (h : Int)) := by
  have : unEE l = (h : Int) := by unfold unEE; rw [hh, if_pos h0]
  unfold unE
  rw [this, if_neg (by omega)]
theorem nextB_len (l : List UInt8) : (nextB l).body.length ≤ l.length := by
  unfold nextB
  repeat' split
  all_goals (simp; try omega)
theorem Rd.blob_len128 (R : Rd) : (R.blob 128).1.length ≤ 128 := (Rd.blob_len R 128).1
section
variable {l B D : List UInt8} {k s o f n p : Nat} {R1 R2 R3 R4 R5 R6 : Rd}
theorem unEN_of (hb : (nextB l).body = B) (h1 : (⟨B, 0⟩ : Rd).num 6 = (s, R1)) (h2 : R1.num 1 = (o, R2)) (h3 : R2.num 2 = (f, R3)) (h4 : R3.num 2 = (n, R4)) (h5 : R4.num 1 = (p, R5)) : unEN l = ([s, o, f, n, p], R5) := by
  unfold unEN
  rw [hb]
  simp [rdNums, wsE, rdStep, h1, h2, h3, h4, h5]
theorem unE_fin (hh : unHd l = 0) (hn : unEN l = ([s, o, f, n, p], R5)) (hd : R5.blob 128 = (D, R6)) (hf : R6.fin.e ≠ 0) : unE l = (EnD.none, (R6.fin.e : Int)) := by
  have hD : unED l = (D, R6) := by unfold unED; rw [hn]; exact hd
  have : unEE l = (R6.fin.e : Int) := by unfold unEE; rw [hh, hD, if_neg (by simp), if_pos hf]
  unfold unE
  rw [this, if_neg (by omega)]
theorem unE_last (hh : unHd l = 0) (hk : (nextB l).kind = k) (hn : unEN l = ([s, o, f, n, p], R5)) (hd : R5.blob 128 = (D, R6)) (hf : R6.fin.e = 0) :
    unE l = if mayE ⟨s, o, k, f, n, p, D⟩ && isClE ⟨s, o, k, f, n, p, D⟩ then (⟨s, o, k, f, n, p, D⟩, 0) else (EnD.none, 70) := by
  have hD : unED l = (D, R6) := by unfold unED; rw [hn]; exact hd
  have hX : unEX l = ⟨s, o, k, f, n, p, D⟩ := by unfold unEX; rw [hn, hD, hk]; rfl
  have : unEE l = if mayE ⟨s, o, k, f, n, p, D⟩ && isClE ⟨s, o, k, f, n, p, D⟩ then 0 else 70 := by
    unfold unEE
    rw [hh, hD, hX, if_neg (by simp), if_neg (by simp [hf])]
  unfold unE
  rw [this, hX]
  split
  · rw [if_pos rfl]
  · rw [if_neg (by decide)]
end
theorem unHd_of {l : List UInt8} {e : Nat} {r : List UInt8} (he : (nextB l).e = e) (hr : (nextB l).rest = r) : unHd l = if e ≠ 0 then e else if 0 < r.length then 11 else 0 := by
  unfold unHd
  rw [he, hr]
theorem results_cell_w1 {P : Program} {fn : Func} {p u : Tmp} {ty : TypeId} (h : fn.results = #[.cell p ty, .tmp u]) (tmps : Array Value) (w : World) (g : Nat) (t : TypeId) (cs : Array Value) (fr : Nat × Nat) (d : TypeDesc)
    (hp : tmps.getD p undef = .pointer (some ⟨g, 0, none⟩)) (hg : w.heap[g]? = some (.cells cs t fr))
    (hu : P.underlying ty = some d) (hd : (match d with | .struct _ | .array _ _ => true | _ => false) = true) (hi : (P.info? ty).map (·.size) = some cs.size) :
    (results fn tmps).run P w = .ok (.tuple #[.agg cs, tmps.getD u undef]) w := by
  have hp' : tmps[p]?.getD undef = .pointer (some ⟨g, 0, none⟩) := by simpa using hp
  rw [results_cell_tmp h]
  simp [hp', asAddr, run_loadVar_row w g t ty cs fr d hg hu hd hi, Result.andThen]
set_option maxRecDepth 100000 in
set_option maxHeartbeats 16000000 in
theorem eunpack_any (A0 : Nat → Prop) (v : Value) (l : List UInt8) (w : World) (hv : RB A0 w v l) (hl : l.length ≤ 100000) (hL : LayW w) : Calls Tryd.prog 44 #[v] w (UnEO (unE l) w) := by
  obtain ⟨va, vc, rfl⟩ := hv.shape
  have HV := Lib.hid hv
  have HL := Lib.hid hL
  have hhd := unHd_of (l := l) rfl rfl
  have hnl := nextB_len l
  clear hv hL
  go_enter Tryd.func44, Tryd.ntmps44
  go_wp2_with fail
  obtain ⟨w0, hw0⟩ : ∃ w0, w0 = w.alloc (.cells #[.int .i64 0, .int .i64 0, .int .i64 0, .int .i64 0, .int .i64 0, .int .i64 0, .slice none 0 0] 24) := ⟨_, rfl⟩
  rw [← hw0]
  have hb0 : Below w.heap.size w w0 := by rw [hw0]; ((repeat' (first | exact Below.refl _ _ | refine below_drewN ?_ _ | refine Below.drew ?_ | refine Below.alloc ?_ ?_ _ | refine Below.trans ?_ (Below.mono (by assumption) ?_))); all_goals (first | exact Nat.le_refl _ | exact Below.size (by assumption) | omega | (simp; done) | (simp; omega)))
  have R0 := Lib.hid (show w0.heap[w.heap.size]? = some (.cells #[.int .i64 0, .int .i64 0, .int .i64 0, .int .i64 0, .int .i64 0, .int .i64 0, .slice none 0 0] 24 (0, 0)) from by rw [hw0]; exact heap_alloc_new _ _)
  refine (next_any _ A0 l w0 (HV.out.ext hb0) hl (HL.out.ext hb0).tab (HL.out.ext hb0).tg).mono ?_
  rintro e w1 ⟨v1, v2, rfl, ho1, ho2, hb1⟩
  obtain ⟨b1, c1, rfl⟩ := ho1.rb.shape
  obtain ⟨b2, c2, rfl⟩ := ho2.rb.shape
  have HBD := Lib.hid ho1.rb
  have HB := Lib.hid (dcall hb0 hb1)
  have RR := Lib.hid (dblk hb1 R0.out)
  have hrr := (Array.getElem?_eq_some_iff.1 RR.out).1
  have hs01 : w.heap.size < w0.heap.size := by rw [hw0]; simp
  have hsz1 := hb1.size
  clear hw0 hb0 hb1 ho1 ho2 R0 HV
  have hkx : Hid ((nextB l).kind = (nextB l).kind) := rfl
  have HHD := Lib.hid hhd
  clear hhd
  obtain ⟨k, hk⟩ : ∃ k, k = (nextB l).kind := ⟨_, rfl⟩
  obtain ⟨B, hB⟩ : ∃ B, B = (nextB l).body := ⟨_, rfl⟩
  obtain ⟨r, hr⟩ : ∃ r, r = (nextB l).rest := ⟨_, rfl⟩
  obtain ⟨x, hx⟩ : ∃ x, x = (nextB l).e := ⟨_, rfl⟩
  rw [← hk, ← hB, ← hr, ← hx]
  rw [← hr, ← hx] at HHD
  rw [← hB] at HBD hnl
  have HKK : Hid ((nextB l).kind = k) := Lib.hid hk.symm
  have HBB : Hid ((nextB l).body = B) := Lib.hid hB.symm
  clear hk hB hr hx hkx
  obtain ⟨x0, g0⟩ := blk_cell (i := 0) (RR.out)
  obtain ⟨x1, g1⟩ := blk_cell (i := 1) (RR.out)
  obtain ⟨x2, g2⟩ := blk_cell (i := 2) (RR.out)
  obtain ⟨x3, g3⟩ := blk_cell (i := 3) (RR.out)
  obtain ⟨x4, g4⟩ := blk_cell (i := 4) (RR.out)
  obtain ⟨x5, g5⟩ := blk_cell (i := 5) (RR.out)
  obtain ⟨x6, g6⟩ := blk_cell (i := 6) (RR.out)
  simp at x0 x1 x2 x3 x4 x5 x6
  by_cases hx0 : x = 0
  · subst hx0
    by_cases hr0 : 0 < r.length
    · have HH : Hid (unHd l = 11) := Lib.hid (by rw [HHD.out, if_neg (by simp), if_pos hr0])
      have q1 : (0 : Int) < r.length := by omega
      go_wp2
      refine bodyPost_ret (results_cell_w1 rfl _ _ w.heap.size 24 _ (0, 0) _ rfl (set7_blk RR.out) Tryd.underlying24 rfl (by kernel_rfl)) rfl ?_
      exact UnEO.no (unE_hd HH.out (by decide)) (below7 HB.out (Nat.le_refl _))
    · have HH : Hid (unHd l = 0) := Lib.hid (by rw [HHD.out, if_neg (by simp), if_neg hr0])
      have q1 : ¬ (0 : Int) < r.length := by omega
      have q2 : decide ((0 : Int) < r.length) = false := decide_eq_false q1
      have q3 : decide (0 < r.length) = false := decide_eq_false hr0
      clear HHD hr0
      go_wp2_with fail
      refine (read_any _ _ B _ HBD.out (by omega)).mono ?_
      rintro e w2 ⟨p, rfl, hr2, hp2, hb2⟩
      have RD := Lib.hid hr2
      replace RR := Lib.hid (dblk hb2 RR.out)
      replace HB := Lib.hid (dcall HB.out hb2)
      have HSM : Hid (Rd.small ⟨B, 0⟩) := Lib.hid ⟨by show B.length ≤ _; omega, (by show (0 : Nat) < 1000; decide)⟩
      have hpw : p < w2.heap.size := hr2.lt
      clear hb2 hr2 HBD x0 x1 x2 x3 x4 x5 x6 g0 g1 g2 g3 g4 g5 g6 q1 q2 q3
      have hs0 : w.heap.size < w1.heap.size := by omega
      generalize w1.heap.size = s0 at *
      go_upto_region 8 with fail
      obtain ⟨px, hpx⟩ : ∃ px, px = w2.heap.size := ⟨_, rfl⟩
      obtain ⟨wq, hwq⟩ : ∃ wq, wq = w2.alloc (.cells #[.int .i64 0, .int .i64 0, .int .i64 (k : Nat), .int .i64 0, .int .i64 0, .int .i64 0, .slice none 0 0] 24) := ⟨_, rfl⟩
      rw [← hwq, ← hpx]
      have hb3 : Below w2.heap.size w2 wq := by rw [hwq]; exact (Below.refl _ w2).alloc (Nat.le_refl _) _
      have OX : Hid (wq.heap[px]? = some (.cells #[.int .i64 0, .int .i64 0, .int .i64 (k : Nat), .int .i64 0, .int .i64 0, .int .i64 0, .slice none 0 0] 24 (0, 0))) := Lib.hid (by rw [hwq, hpx]; exact heap_alloc_new _ _)
      replace RD := Lib.hid (RD.out.ext hb3)
      replace RR := Lib.hid (dblk hb3 RR.out)
      replace HB := Lib.hid (dcall HB.out hb3)
      have hpp : p < px := by rw [hpx]; exact hpw
      have hpq : px < wq.heap.size := by rw [hwq, hpx]; simp
      clear hwq hb3 hpx hpw
      obtain ⟨y0, e0⟩ := blk_cell (i := 0) (OX.out)
      obtain ⟨y1, e1⟩ := blk_cell (i := 1) (OX.out)
      obtain ⟨y2, e2⟩ := blk_cell (i := 2) (OX.out)
      obtain ⟨y3, e3⟩ := blk_cell (i := 3) (OX.out)
      obtain ⟨y4, e4⟩ := blk_cell (i := 4) (OX.out)
      obtain ⟨y5, e5⟩ := blk_cell (i := 5) (OX.out)
      obtain ⟨y6, e6⟩ := blk_cell (i := 6) (OX.out)
      simp at y0 y1 y2 y3 y4 y5 y6
      go_wp2_with fail
      refine (rnum_any _ p 6 (⟨B, 0⟩ : Rd) _ RD.out (by omega) (by omega) HSM.out.len HSM.out.err).mono ?_
      rintro e wz ⟨rfl, hr, hf⟩
      replace HSM := Lib.hid (HSM.out.num 6)
      obtain ⟨X1, hX⟩ : ∃ X, X = (⟨B, 0⟩ : Rd).num 6 := ⟨_, rfl⟩
      rw [← hX] at hr HSM ⊢
      obtain ⟨s, R1⟩ := X1
      have H1 : Hid ((⟨B, 0⟩ : Rd).num 6 = (s, R1)) := Lib.hid hX.symm
      simp only at hr HSM ⊢
      replace RD := Lib.hid hr
      replace RR := Lib.hid ((hf.block _ (by omega) (by omega)).trans RR.out)
      replace OX := Lib.hid ((hf.block _ (by omega) (by omega)).trans OX.out)
      replace HB := Lib.hid (HB.out.trans (hf.below HB.out.size fun j hj h => by omega))
      have hpq : px < wz.heap.size := (Array.getElem?_eq_some_iff.1 OX.out).1
      clear hr hf hX y0 y1 y2 y3 y4 y5 y6 e0 e1 e2 e3 e4 e5 e6
      obtain ⟨y0, e0⟩ := blk_cell (i := 0) (OX.out)
      obtain ⟨y1, e1⟩ := blk_cell (i := 1) (OX.out)
      obtain ⟨y2, e2⟩ := blk_cell (i := 2) (OX.out)
      obtain ⟨y3, e3⟩ := blk_cell (i := 3) (OX.out)
      obtain ⟨y4, e4⟩ := blk_cell (i := 4) (OX.out)
      obtain ⟨y5, e5⟩ := blk_cell (i := 5) (OX.out)
      obtain ⟨y6, e6⟩ := blk_cell (i := 6) (OX.out)
      simp at y0 y1 y2 y3 y4 y5 y6
      go_upto_region 9 with fail
      obtain ⟨wy, hwy⟩ : ∃ wy, wy = wz.setCell ⟨px, 0, none⟩ (.int .i64 (s : Nat)) := ⟨_, rfl⟩
      rw [← hwy]
      replace RD : Hid (IsRd _ wy p _) := Lib.hid (by rw [hwy]; exact RD.out.same (B := fun b => b ≠ px) ⟨by simp [World.setCell], fun b hb _ => Below.heap_setCell _ _ _ _ hb⟩ (by omega) (fun b hb => by omega))
      replace RR : Hid (wy.heap[w.heap.size]? = some (.cells #[.int .i64 0, .int .i64 0, .int .i64 0, .int .i64 0, .int .i64 0, .int .i64 0, .slice none 0 0] 24 (0, 0))) := Lib.hid (by rw [hwy]; exact (Below.heap_setCell _ _ _ _ (show w.heap.size ≠ px by omega)).trans RR.out)
      replace HB : Hid (Below w.heap.size w wy) := Lib.hid (by rw [hwy]; exact HB.out.setCell (show w.heap.size ≤ px by omega) _)
      replace OX : Hid (wy.heap[px]? = some (.cells #[.int .i64 (s : Nat), .int .i64 0, .int .i64 (k : Nat), .int .i64 0, .int .i64 0, .int .i64 0, .slice none 0 0] 24 (0, 0))) := Lib.hid (by rw [hwy]; simp [World.setCell, Array.getElem?_modify, OX.out])
      have hpq : px < wy.heap.size := (Array.getElem?_eq_some_iff.1 OX.out).1
      clear hwy y0 y1 y2 y3 y4 y5 y6 e0 e1 e2 e3 e4 e5 e6
      obtain ⟨wq, hwq⟩ : ∃ wq, wq = wy := ⟨_, rfl⟩
      subst hwq
      obtain ⟨y0, e0⟩ := blk_cell (i := 0) (OX.out)
      obtain ⟨y1, e1⟩ := blk_cell (i := 1) (OX.out)
      obtain ⟨y2, e2⟩ := blk_cell (i := 2) (OX.out)
      obtain ⟨y3, e3⟩ := blk_cell (i := 3) (OX.out)
      obtain ⟨y4, e4⟩ := blk_cell (i := 4) (OX.out)
      obtain ⟨y5, e5⟩ := blk_cell (i := 5) (OX.out)
      obtain ⟨y6, e6⟩ := blk_cell (i := 6) (OX.out)
      simp at y0 y1 y2 y3 y4 y5 y6
      go_wp2_with fail
      refine (rnum_any _ p 1 R1 _ RD.out (by omega) (by omega) HSM.out.len HSM.out.err).mono ?_
      rintro e wz ⟨rfl, hr, hf⟩
      replace HSM := Lib.hid (HSM.out.num 1)
      obtain ⟨X2, hX⟩ : ∃ X, X = R1.num 1 := ⟨_, rfl⟩
      rw [← hX] at hr HSM ⊢
      obtain ⟨o, R2⟩ := X2
      have H2 : Hid (R1.num 1 = (o, R2)) := Lib.hid hX.symm
      simp only at hr HSM ⊢
      replace RD := Lib.hid hr
      replace RR := Lib.hid ((hf.block _ (by omega) (by omega)).trans RR.out)
      replace OX := Lib.hid ((hf.block _ (by omega) (by omega)).trans OX.out)
      replace HB := Lib.hid (HB.out.trans (hf.below HB.out.size fun j hj h => by omega))
      have hpq : px < wz.heap.size := (Array.getElem?_eq_some_iff.1 OX.out).1
      clear hr hf hX y0 y1 y2 y3 y4 y5 y6 e0 e1 e2 e3 e4 e5 e6
      obtain ⟨y0, e0⟩ := blk_cell (i := 0) (OX.out)
      obtain ⟨y1, e1⟩ := blk_cell (i := 1) (OX.out)
      obtain ⟨y2, e2⟩ := blk_cell (i := 2) (OX.out)
      obtain ⟨y3, e3⟩ := blk_cell (i := 3) (OX.out)
      obtain ⟨y4, e4⟩ := blk_cell (i := 4) (OX.out)
      obtain ⟨y5, e5⟩ := blk_cell (i := 5) (OX.out)
      obtain ⟨y6, e6⟩ := blk_cell (i := 6) (OX.out)
      simp at y0 y1 y2 y3 y4 y5 y6
      go_upto_region 10 with fail
      obtain ⟨wy, hwy⟩ : ∃ wy, wy = wz.setCell ⟨px, 1, none⟩ (.int .i64 (o : Nat)) := ⟨_, rfl⟩
      rw [← hwy]
      replace RD : Hid (IsRd _ wy p _) := Lib.hid (by rw [hwy]; exact RD.out.same (B := fun b => b ≠ px) ⟨by simp [World.setCell], fun b hb _ => Below.heap_setCell _ _ _ _ hb⟩ (by omega) (fun b hb => by omega))
      replace RR : Hid (wy.heap[w.heap.size]? = some (.cells #[.int .i64 0, .int .i64 0, .int .i64 0, .int .i64 0, .int .i64 0, .int .i64 0, .slice none 0 0] 24 (0, 0))) := Lib.hid (by rw [hwy]; exact (Below.heap_setCell _ _ _ _ (show w.heap.size ≠ px by omega)).trans RR.out)
      replace HB : Hid (Below w.heap.size w wy) := Lib.hid (by rw [hwy]; exact HB.out.setCell (show w.heap.size ≤ px by omega) _)
      replace OX : Hid (wy.heap[px]? = some (.cells #[.int .i64 (s : Nat), .int .i64 (o : Nat), .int .i64 (k : Nat), .int .i64 0, .int .i64 0, .int .i64 0, .slice none 0 0] 24 (0, 0))) := Lib.hid (by rw [hwy]; simp [World.setCell, Array.getElem?_modify, OX.out])
      have hpq : px < wy.heap.size := (Array.getElem?_eq_some_iff.1 OX.out).1
      clear hwy y0 y1 y2 y3 y4 y5 y6 e0 e1 e2 e3 e4 e5 e6
      obtain ⟨wq, hwq⟩ : ∃ wq, wq = wy := ⟨_, rfl⟩
      subst hwq
      obtain ⟨y0, e0⟩ := blk_cell (i := 0) (OX.out)
      obtain ⟨y1, e1⟩ := blk_cell (i := 1) (OX.out)
      obtain ⟨y2, e2⟩ := blk_cell (i := 2) (OX.out)
      obtain ⟨y3, e3⟩ := blk_cell (i := 3) (OX.out)
      obtain ⟨y4, e4⟩ := blk_cell (i := 4) (OX.out)
      obtain ⟨y5, e5⟩ := blk_cell (i := 5) (OX.out)
      obtain ⟨y6, e6⟩ := blk_cell (i := 6) (OX.out)
      simp at y0 y1 y2 y3 y4 y5 y6
      go_wp2_with fail
      refine (rnum_any _ p 2 R2 _ RD.out (by omega) (by omega) HSM.out.len HSM.out.err).mono ?_
      rintro e wz ⟨rfl, hr, hf⟩
      replace HSM := Lib.hid (HSM.out.num 2)
      obtain ⟨X3, hX⟩ : ∃ X, X = R2.num 2 := ⟨_, rfl⟩
      rw [← hX] at hr HSM ⊢
      obtain ⟨f, R3⟩ := X3
      have H3 : Hid (R2.num 2 = (f, R3)) := Lib.hid hX.symm
      simp only at hr HSM ⊢
      replace RD := Lib.hid hr
      replace RR := Lib.hid ((hf.block _ (by omega) (by omega)).trans RR.out)
      replace OX := Lib.hid ((hf.block _ (by omega) (by omega)).trans OX.out)
      replace HB := Lib.hid (HB.out.trans (hf.below HB.out.size fun j hj h => by omega))
      have hpq : px < wz.heap.size := (Array.getElem?_eq_some_iff.1 OX.out).1
      clear hr hf hX y0 y1 y2 y3 y4 y5 y6 e0 e1 e2 e3 e4 e5 e6
      obtain ⟨y0, e0⟩ := blk_cell (i := 0) (OX.out)
      obtain ⟨y1, e1⟩ := blk_cell (i := 1) (OX.out)
      obtain ⟨y2, e2⟩ := blk_cell (i := 2) (OX.out)
      obtain ⟨y3, e3⟩ := blk_cell (i := 3) (OX.out)
      obtain ⟨y4, e4⟩ := blk_cell (i := 4) (OX.out)
      obtain ⟨y5, e5⟩ := blk_cell (i := 5) (OX.out)
      obtain ⟨y6, e6⟩ := blk_cell (i := 6) (OX.out)
      simp at y0 y1 y2 y3 y4 y5 y6
      go_upto_region 11 with fail
      obtain ⟨wy, hwy⟩ : ∃ wy, wy = wz.setCell ⟨px, 3, none⟩ (.int .i64 (f : Nat)) := ⟨_, rfl⟩
      rw [← hwy]
      replace RD : Hid (IsRd _ wy p _) := Lib.hid (by rw [hwy]; exact RD.out.same (B := fun b => b ≠ px) ⟨by simp [World.setCell], fun b hb _ => Below.heap_setCell _ _ _ _ hb⟩ (by omega) (fun b hb => by omega))
      replace RR : Hid (wy.heap[w.heap.size]? = some (.cells #[.int .i64 0, .int .i64 0, .int .i64 0, .int .i64 0, .int .i64 0, .int .i64 0, .slice none 0 0] 24 (0, 0))) := Lib.hid (by rw [hwy]; exact (Below.heap_setCell _ _ _ _ (show w.heap.size ≠ px by omega)).trans RR.out)
      replace HB : Hid (Below w.heap.size w wy) := Lib.hid (by rw [hwy]; exact HB.out.setCell (show w.heap.size ≤ px by omega) _)
      replace OX : Hid (wy.heap[px]? = some (.cells #[.int .i64 (s : Nat), .int .i64 (o : Nat), .int .i64 (k : Nat), .int .i64 (f : Nat), .int .i64 0, .int .i64 0, .slice none 0 0] 24 (0, 0))) := Lib.hid (by rw [hwy]; simp [World.setCell, Array.getElem?_modify, OX.out])
      have hpq : px < wy.heap.size := (Array.getElem?_eq_some_iff.1 OX.out).1
      clear hwy y0 y1 y2 y3 y4 y5 y6 e0 e1 e2 e3 e4 e5 e6
      obtain ⟨wq, hwq⟩ : ∃ wq, wq = wy := ⟨_, rfl⟩
      subst hwq
      obtain ⟨y0, e0⟩ := blk_cell (i := 0) (OX.out)
      obtain ⟨y1, e1⟩ := blk_cell (i := 1) (OX.out)
      obtain ⟨y2, e2⟩ := blk_cell (i := 2) (OX.out)
      obtain ⟨y3, e3⟩ := blk_cell (i := 3) (OX.out)
      obtain ⟨y4, e4⟩ := blk_cell (i := 4) (OX.out)
      obtain ⟨y5, e5⟩ := blk_cell (i := 5) (OX.out)
      obtain ⟨y6, e6⟩ := blk_cell (i := 6) (OX.out)
      simp at y0 y1 y2 y3 y4 y5 y6
      go_wp2_with fail
      refine (rnum_any _ p 2 R3 _ RD.out (by omega) (by omega) HSM.out.len HSM.out.err).mono ?_
      rintro e wz ⟨rfl, hr, hf⟩
      replace HSM := Lib.hid (HSM.out.num 2)
      obtain ⟨X4, hX⟩ : ∃ X, X = R3.num 2 := ⟨_, rfl⟩
      rw [← hX] at hr HSM ⊢
      obtain ⟨n, R4⟩ := X4
      have H4 : Hid (R3.num 2 = (n, R4)) := Lib.hid hX.symm
      simp only at hr HSM ⊢
      replace RD := Lib.hid hr
      replace RR := Lib.hid ((hf.block _ (by omega) (by omega)).trans RR.out)
      replace OX := Lib.hid ((hf.block _ (by omega) (by omega)).trans OX.out)
      replace HB := Lib.hid (HB.out.trans (hf.below HB.out.size fun j hj h => by omega))
      have hpq : px < wz.heap.size := (Array.getElem?_eq_some_iff.1 OX.out).1
      clear hr hf hX y0 y1 y2 y3 y4 y5 y6 e0 e1 e2 e3 e4 e5 e6
      obtain ⟨y0, e0⟩ := blk_cell (i := 0) (OX.out)
      obtain ⟨y1, e1⟩ := blk_cell (i := 1) (OX.out)
      obtain ⟨y2, e2⟩ := blk_cell (i := 2) (OX.out)
      obtain ⟨y3, e3⟩ := blk_cell (i := 3) (OX.out)
      obtain ⟨y4, e4⟩ := blk_cell (i := 4) (OX.out)
      obtain ⟨y5, e5⟩ := blk_cell (i := 5) (OX.out)
      obtain ⟨y6, e6⟩ := blk_cell (i := 6) (OX.out)
      simp at y0 y1 y2 y3 y4 y5 y6
      go_upto_region 12 with fail
      obtain ⟨wy, hwy⟩ : ∃ wy, wy = wz.setCell ⟨px, 4, none⟩ (.int .i64 (n : Nat)) := ⟨_, rfl⟩
      rw [← hwy]
      replace RD : Hid (IsRd _ wy p _) := Lib.hid (by rw [hwy]; exact RD.out.same (B := fun b => b ≠ px) ⟨by simp [World.setCell], fun b hb _ => Below.heap_setCell _ _ _ _ hb⟩ (by omega) (fun b hb => by omega))
      replace RR : Hid (wy.heap[w.heap.size]? = some (.cells #[.int .i64 0, .int .i64 0, .int .i64 0, .int .i64 0, .int .i64 0, .int .i64 0, .slice none 0 0] 24 (0, 0))) := Lib.hid (by rw [hwy]; exact (Below.heap_setCell _ _ _ _ (show w.heap.size ≠ px by omega)).trans RR.out)
      replace HB : Hid (Below w.heap.size w wy) := Lib.hid (by rw [hwy]; exact HB.out.setCell (show w.heap.size ≤ px by omega) _)
      replace OX : Hid (wy.heap[px]? = some (.cells #[.int .i64 (s : Nat), .int .i64 (o : Nat), .int .i64 (k : Nat), .int .i64 (f : Nat), .int .i64 (n : Nat), .int .i64 0, .slice none 0 0] 24 (0, 0))) := Lib.hid (by rw [hwy]; simp [World.setCell, Array.getElem?_modify, OX.out])
      have hpq : px < wy.heap.size := (Array.getElem?_eq_some_iff.1 OX.out).1
      clear hwy y0 y1 y2 y3 y4 y5 y6 e0 e1 e2 e3 e4 e5 e6
      obtain ⟨wq, hwq⟩ : ∃ wq, wq = wy := ⟨_, rfl⟩
      subst hwq
      obtain ⟨y0, e0⟩ := blk_cell (i := 0) (OX.out)
      obtain ⟨y1, e1⟩ := blk_cell (i := 1) (OX.out)
      obtain ⟨y2, e2⟩ := blk_cell (i := 2) (OX.out)
      obtain ⟨y3, e3⟩ := blk_cell (i := 3) (OX.out)
      obtain ⟨y4, e4⟩ := blk_cell (i := 4) (OX.out)
      obtain ⟨y5, e5⟩ := blk_cell (i := 5) (OX.out)
      obtain ⟨y6, e6⟩ := blk_cell (i := 6) (OX.out)
      simp at y0 y1 y2 y3 y4 y5 y6
      go_wp2_with fail
      refine (rnum_any _ p 1 R4 _ RD.out (by omega) (by omega) HSM.out.len HSM.out.err).mono ?_
      rintro e wz ⟨rfl, hr, hf⟩
      replace HSM := Lib.hid (HSM.out.num 1)
      obtain ⟨X5, hX⟩ : ∃ X, X = R4.num 1 := ⟨_, rfl⟩
      rw [← hX] at hr HSM ⊢
      obtain ⟨z, R5⟩ := X5
      have H5 : Hid (R4.num 1 = (z, R5)) := Lib.hid hX.symm
      simp only at hr HSM ⊢
      replace RD := Lib.hid hr
      replace RR := Lib.hid ((hf.block _ (by omega) (by omega)).trans RR.out)
      replace OX := Lib.hid ((hf.block _ (by omega) (by omega)).trans OX.out)
      replace HB := Lib.hid (HB.out.trans (hf.below HB.out.size fun j hj h => by omega))
      have hpq : px < wz.heap.size := (Array.getElem?_eq_some_iff.1 OX.out).1
      clear hr hf hX y0 y1 y2 y3 y4 y5 y6 e0 e1 e2 e3 e4 e5 e6
      obtain ⟨y0, e0⟩ := blk_cell (i := 0) (OX.out)
      obtain ⟨y1, e1⟩ := blk_cell (i := 1) (OX.out)
      obtain ⟨y2, e2⟩ := blk_cell (i := 2) (OX.out)
      obtain ⟨y3, e3⟩ := blk_cell (i := 3) (OX.out)
      obtain ⟨y4, e4⟩ := blk_cell (i := 4) (OX.out)
      obtain ⟨y5, e5⟩ := blk_cell (i := 5) (OX.out)
      obtain ⟨y6, e6⟩ := blk_cell (i := 6) (OX.out)
      simp at y0 y1 y2 y3 y4 y5 y6
      go_upto_region 13 with fail
      obtain ⟨wy, hwy⟩ : ∃ wy, wy = wz.setCell ⟨px, 5, none⟩ (.int .i64 (z : Nat)) := ⟨_, rfl⟩
      rw [← hwy]
      replace RD : Hid (IsRd _ wy p _) := Lib.hid (by rw [hwy]; exact RD.out.same (B := fun b => b ≠ px) ⟨by simp [World.setCell], fun b hb _ => Below.heap_setCell _ _ _ _ hb⟩ (by omega) (fun b hb => by omega))
      replace RR : Hid (wy.heap[w.heap.size]? = some (.cells #[.int .i64 0, .int .i64 0, .int .i64 0, .int .i64 0, .int .i64 0, .int .i64 0, .slice none 0 0] 24 (0, 0))) := Lib.hid (by rw [hwy]; exact (Below.heap_setCell _ _ _ _ (show w.heap.size ≠ px by omega)).trans RR.out)
      replace HB : Hid (Below w.heap.size w wy) := Lib.hid (by rw [hwy]; exact HB.out.setCell (show w.heap.size ≤ px by omega) _)
      replace OX : Hid (wy.heap[px]? = some (.cells #[.int .i64 (s : Nat), .int .i64 (o : Nat), .int .i64 (k : Nat), .int .i64 (f : Nat), .int .i64 (n : Nat), .int .i64 (z : Nat), .slice none 0 0] 24 (0, 0))) := Lib.hid (by rw [hwy]; simp [World.setCell, Array.getElem?_modify, OX.out])
      have hpq : px < wy.heap.size := (Array.getElem?_eq_some_iff.1 OX.out).1
      clear hwy y0 y1 y2 y3 y4 y5 y6 e0 e1 e2 e3 e4 e5 e6
      obtain ⟨wq, hwq⟩ : ∃ wq, wq = wy := ⟨_, rfl⟩
      subst hwq
      obtain ⟨y0, e0⟩ := blk_cell (i := 0) (OX.out)
      obtain ⟨y1, e1⟩ := blk_cell (i := 1) (OX.out)
      obtain ⟨y2, e2⟩ := blk_cell (i := 2) (OX.out)
      obtain ⟨y3, e3⟩ := blk_cell (i := 3) (OX.out)
      obtain ⟨y4, e4⟩ := blk_cell (i := 4) (OX.out)
      obtain ⟨y5, e5⟩ := blk_cell (i := 5) (OX.out)
      obtain ⟨y6, e6⟩ := blk_cell (i := 6) (OX.out)
      simp at y0 y1 y2 y3 y4 y5 y6
      go_wp2_with fail
      refine (rblob_any _ p 128 R5 _ RD.out (by omega) HSM.out.len HSM.out.err (HSM.out.num 2).err).mono ?_
      rintro e wz ⟨vb, rfl, hvb, hr, hf⟩
      replace HSM := Lib.hid (HSM.out.blob 128)
      have hbl := Rd.blob_len128 R5
      obtain ⟨X6, hX⟩ : ∃ X, X = R5.blob 128 := ⟨_, rfl⟩
      rw [← hX] at hr hvb HSM hbl
      obtain ⟨D, R6⟩ := X6
      have H6 : KepU (R5.blob 128 = (D, R6)) := KepU.mk hX.symm
      simp only at hr hvb HSM hbl
      obtain ⟨da, dc, rfl⟩ := hvb.shape
      have HD : Hid (RB (fun b => w.heap.size < b ∧ b ≠ px ∧ b ≠ p) wz (.slice da D.length dc) D) := Lib.hid (hvb.weak fun b _ hb => by omega)
      replace RD := Lib.hid hr
      replace RR := Lib.hid ((hf.block _ (by omega) (by omega)).trans RR.out)
      replace OX := Lib.hid ((hf.block _ (by omega) (by omega)).trans OX.out)
      replace HB := Lib.hid (HB.out.trans (hf.below HB.out.size fun j hj h => by omega))
      have hpq : px < wz.heap.size := (Array.getElem?_eq_some_iff.1 OX.out).1
      clear hr hf hX hvb y0 y1 y2 y3 y4 y5 y6 e0 e1 e2 e3 e4 e5 e6
      obtain ⟨y0, e0⟩ := blk_cell (i := 0) (OX.out)
      obtain ⟨y1, e1⟩ := blk_cell (i := 1) (OX.out)
      obtain ⟨y2, e2⟩ := blk_cell (i := 2) (OX.out)
      obtain ⟨y3, e3⟩ := blk_cell (i := 3) (OX.out)
      obtain ⟨y4, e4⟩ := blk_cell (i := 4) (OX.out)
      obtain ⟨y5, e5⟩ := blk_cell (i := 5) (OX.out)
      obtain ⟨y6, e6⟩ := blk_cell (i := 6) (OX.out)
      simp at y0 y1 y2 y3 y4 y5 y6
      go_upto_region 14 with fail
      obtain ⟨wy, hwy⟩ : ∃ wy, wy = wz.setCell ⟨px, 6, none⟩ (.slice da D.length dc) := ⟨_, rfl⟩
      rw [← hwy]
      replace RD : Hid (IsRd _ wy p _) := Lib.hid (by rw [hwy]; exact RD.out.same (B := fun b => b ≠ px) ⟨by simp [World.setCell], fun b hb _ => Below.heap_setCell _ _ _ _ hb⟩ (by omega) (fun b hb => by omega))
      replace HD : Hid (RB (fun b => w.heap.size < b ∧ b ≠ px ∧ b ≠ p) wy (.slice da D.length dc) D) := Lib.hid (by rw [hwy]; exact HD.out.mono ⟨by simp [World.setCell], fun b hb _ => Below.heap_setCell _ _ _ _ hb.2.1⟩)
      replace RR : Hid (wy.heap[w.heap.size]? = some (.cells #[.int .i64 0, .int .i64 0, .int .i64 0, .int .i64 0, .int .i64 0, .int .i64 0, .slice none 0 0] 24 (0, 0))) := Lib.hid (by rw [hwy]; exact (Below.heap_setCell _ _ _ _ (show w.heap.size ≠ px by omega)).trans RR.out)
      replace HB : Hid (Below w.heap.size w wy) := Lib.hid (by rw [hwy]; exact HB.out.setCell (show w.heap.size ≤ px by omega) _)
      replace OX : Hid (wy.heap[px]? = some (.cells #[.int .i64 (s : Nat), .int .i64 (o : Nat), .int .i64 (k : Nat), .int .i64 (f : Nat), .int .i64 (n : Nat), .int .i64 (z : Nat), .slice da D.length dc] 24 (0, 0))) := Lib.hid (by rw [hwy]; simp [World.setCell, Array.getElem?_modify, OX.out])
      have hpq : px < wy.heap.size := (Array.getElem?_eq_some_iff.1 OX.out).1
      clear hwy y0 y1 y2 y3 y4 y5 y6 e0 e1 e2 e3 e4 e5 e6
      obtain ⟨wq, hwq⟩ : ∃ wq, wq = wy := ⟨_, rfl⟩
      subst hwq
      obtain ⟨y0, e0⟩ := blk_cell (i := 0) (OX.out)
      obtain ⟨y1, e1⟩ := blk_cell (i := 1) (OX.out)
      obtain ⟨y2, e2⟩ := blk_cell (i := 2) (OX.out)
      obtain ⟨y3, e3⟩ := blk_cell (i := 3) (OX.out)
      obtain ⟨y4, e4⟩ := blk_cell (i := 4) (OX.out)
      obtain ⟨y5, e5⟩ := blk_cell (i := 5) (OX.out)
      obtain ⟨y6, e6⟩ := blk_cell (i := 6) (OX.out)
      simp at y0 y1 y2 y3 y4 y5 y6
      go_wp2_with fail
      refine (end_any _ p R6 _ RD.out HSM.out.len HSM.out.err).mono ?_
      rintro e wz ⟨rfl, hr, hf⟩
      replace HD : Hid (RB (fun b => w.heap.size < b ∧ b ≠ px ∧ b ≠ p) wz (.slice da D.length dc) D) := Lib.hid (HD.out.mono ⟨hf.size, fun b hb hl => hf.block b hl hb.2.2⟩)
      replace RR := Lib.hid ((hf.block _ (by omega) (by omega)).trans RR.out)
      replace OX := Lib.hid ((hf.block _ (by omega) (by omega)).trans OX.out)
      replace HB := Lib.hid (HB.out.trans (hf.below HB.out.size fun j hj h => by omega))
      have hpq : px < wz.heap.size := (Array.getElem?_eq_some_iff.1 OX.out).1
      have HN := KepU.mk (unEN_of HBB.out H1.out H2.out H3.out H4.out H5.out)
      clear hr hf y0 y1 y2 y3 y4 y5 y6 e0 e1 e2 e3 e4 e5 e6 RD H1 H2 H3 H4 H5 HBB
      obtain ⟨y0, e0⟩ := blk_cell (i := 0) (OX.out)
      obtain ⟨y1, e1⟩ := blk_cell (i := 1) (OX.out)
      obtain ⟨y2, e2⟩ := blk_cell (i := 2) (OX.out)
      obtain ⟨y3, e3⟩ := blk_cell (i := 3) (OX.out)
      obtain ⟨y4, e4⟩ := blk_cell (i := 4) (OX.out)
      obtain ⟨y5, e5⟩ := blk_cell (i := 5) (OX.out)
      obtain ⟨y6, e6⟩ := blk_cell (i := 6) (OX.out)
      simp at y0 y1 y2 y3 y4 y5 y6
      by_cases hfe : R6.fin.e = 0
      · have HU := KepU.mk (unE_last HH.out HKK.out HN.out H6.out hfe)
        rw [hfe]
        clear hfe HH HKK HN H6
        have hlw := HL.out.ext HB.out
        have HCN := Lib.hid (eclean_any _ ⟨s, o, k, f, n, z, D⟩ da dc wz HD.out (by show D.length ≤ _; omega) hlw)
        clear hlw
        go_wp2_with fail
        refine HCN.out.mono ?_
        rintro e w5 ⟨ca, cc, rfl, hc5, hb5⟩
        clear hc5 HCN
        have RR5 := Lib.hid (dblk hb5 RR.out)
        have OX5 := Lib.hid (dblk hb5 OX.out)
        have HD5 := Lib.hid (HD.out.ext hb5)
        have HB5 := Lib.hid (dcall HB.out hb5)
        have HIC : KepU (isClE ⟨s, o, k, f, n, z, D⟩ = (decide ((clE ⟨s, o, k, f, n, z, D⟩).off = (f : Int)) && decide ((clE ⟨s, o, k, f, n, z, D⟩).len = (n : Int)) && decide ((clE ⟨s, o, k, f, n, z, D⟩).snap = (z : Int)) && decide ((clE ⟨s, o, k, f, n, z, D⟩).data.length = D.length))) := KepU.mk rfl
        clear hb5 RR OX HD HB y0 y1 y2 y3 y4 y5 y6 e0 e1 e2 e3 e4 e5 e6
        generalize clE ⟨s, o, k, f, n, z, D⟩ = C at *
        obtain ⟨cs, co, ck, cf, cn, cp, cd⟩ := C
        simp only [enV] at HIC ⊢
        go_upto_region 18 with fail
        obtain ⟨w6, hw6⟩ : ∃ w6, w6 = w5.alloc (.cells #[.int .i64 cs, .int .i64 co, .int .i64 ck, .int .i64 cf, .int .i64 cn, .int .i64 cp, .slice ca cd.length cc] 24) := ⟨_, rfl⟩
        rw [← hw6]
        have hb6 : Below w5.heap.size w5 w6 := by rw [hw6]; exact (Below.refl _ w5).alloc (Nat.le_refl _) _
        have CX6 := Lib.hid (show w6.heap[w5.heap.size]? = some (.cells #[.int .i64 cs, .int .i64 co, .int .i64 ck, .int .i64 cf, .int .i64 cn, .int .i64 cp, .slice ca cd.length cc] 24 (0, 0)) from by rw [hw6]; exact heap_alloc_new _ _)
        have RR6 := Lib.hid (dblk hb6 RR5.out)
        have OX6 := Lib.hid (dblk hb6 OX5.out)
        have HD6 := Lib.hid (HD5.out.ext hb6)
        have HB6 := Lib.hid (dcall HB5.out hb6)
        clear hw6 hb6 RR5 OX5 HD5 HB5
        obtain ⟨y0, e0⟩ := blk_cell (i := 0) (OX6.out)
        obtain ⟨y1, e1⟩ := blk_cell (i := 1) (OX6.out)
        obtain ⟨y2, e2⟩ := blk_cell (i := 2) (OX6.out)
        obtain ⟨y3, e3⟩ := blk_cell (i := 3) (OX6.out)
        obtain ⟨y4, e4⟩ := blk_cell (i := 4) (OX6.out)
        obtain ⟨y5, e5⟩ := blk_cell (i := 5) (OX6.out)
        obtain ⟨y6, e6⟩ := blk_cell (i := 6) (OX6.out)
        simp at y0 y1 y2 y3 y4 y5 y6
        go_wp2_with fail
        refine (echeck_any ⟨s, o, k, f, n, z, D⟩ da dc _).mono ?_
        rintro e w7 ⟨rfl, hb7⟩
        have CX7 := Lib.hid (dblk hb7 CX6.out)
        have RR7 := Lib.hid (dblk hb7 RR6.out)
        have OX7 := Lib.hid (dblk hb7 OX6.out)
        have HD7 := Lib.hid (HD6.out.ext hb7)
        have HB7 := Lib.hid (dcall HB6.out hb7)
        clear hb7 CX6 RR6 OX6 HD6 HB6 y0 y1 y2 y3 y4 y5 y6 e0 e1 e2 e3 e4 e5 e6
        obtain ⟨y0, e0⟩ := blk_cell (i := 0) (OX7.out)
        obtain ⟨y1, e1⟩ := blk_cell (i := 1) (OX7.out)
        obtain ⟨y2, e2⟩ := blk_cell (i := 2) (OX7.out)
        obtain ⟨y3, e3⟩ := blk_cell (i := 3) (OX7.out)
        obtain ⟨y4, e4⟩ := blk_cell (i := 4) (OX7.out)
        obtain ⟨y5, e5⟩ := blk_cell (i := 5) (OX7.out)
        obtain ⟨y6, e6⟩ := blk_cell (i := 6) (OX7.out)
        simp at y0 y1 y2 y3 y4 y5 y6
        obtain ⟨x0, g0⟩ := blk_cell (i := 0) (RR7.out)
        obtain ⟨x1, g1⟩ := blk_cell (i := 1) (RR7.out)
        obtain ⟨x2, g2⟩ := blk_cell (i := 2) (RR7.out)
        obtain ⟨x3, g3⟩ := blk_cell (i := 3) (RR7.out)
        obtain ⟨x4, g4⟩ := blk_cell (i := 4) (RR7.out)
        obtain ⟨x5, g5⟩ := blk_cell (i := 5) (RR7.out)
        obtain ⟨x6, g6⟩ := blk_cell (i := 6) (RR7.out)
        simp at x0 x1 x2 x3 x4 x5 x6
        obtain ⟨t0, h0⟩ := blk_cell (i := 0) (CX7.out)
        obtain ⟨t1, h1⟩ := blk_cell (i := 1) (CX7.out)
        obtain ⟨t2, h2⟩ := blk_cell (i := 2) (CX7.out)
        obtain ⟨t3, h3⟩ := blk_cell (i := 3) (CX7.out)
        obtain ⟨t4, h4⟩ := blk_cell (i := 4) (CX7.out)
        obtain ⟨t5, h5⟩ := blk_cell (i := 5) (CX7.out)
        obtain ⟨t6, h6⟩ := blk_cell (i := 6) (CX7.out)
        simp at t0 t1 t2 t3 t4 t5 t6
        have hrw : w.heap.size < w7.heap.size := (Array.getElem?_eq_some_iff.1 RR7.out).1
        cases hm : mayE ⟨s, o, k, f, n, z, D⟩ with
        | false =>
          have hc : chkN ⟨s, o, k, f, n, z, D⟩ = 70 := by rw [chkN, hm]; rfl
          have HUU : KepU (unE l = (EnD.none, 70)) := KepU.mk (by rw [HU.out, hm]; rfl)
          rw [hc]
          clear hm hc
          go_wp2
          refine bodyPost_ret (results_cell_w1 rfl _ _ w.heap.size 24 _ (0, 0) _ rfl (set7_blk RR7.out) Tryd.underlying24 rfl (by kernel_rfl)) rfl ?_
          exact UnEO.no HUU.out (below7 HB7.out (Nat.le_refl _))
        | true =>
          have hc : chkN ⟨s, o, k, f, n, z, D⟩ = 0 := by rw [chkN, hm]; rfl
          have HU2 : KepU (unE l = if isClE ⟨s, o, k, f, n, z, D⟩ then (⟨s, o, k, f, n, z, D⟩, 0) else (EnD.none, 70)) := KepU.mk (by rw [HU.out, hm, Bool.true_and])
          rw [hc]
          clear hm hc HU
          by_cases z1 : cf = f
          · subst z1
            by_cases z2 : cn = n
            · subst z2
              by_cases z3 : cp = z
              · subst z3
                by_cases z4 : cd.length = D.length
                · have HUU : KepU (unE l = (⟨s, o, k, f, n, z, D⟩, 0)) := KepU.mk (by rw [HU2.out, HIC.out, z4]; simp)
                  have q1 : ((cd.length : Int) != (D.length : Int)) = false := by simp; omega
                  clear z4
                  go_wp2
                  refine bodyPost_ret (results_cell_w1 rfl _ _ w.heap.size 24 _ (0, 0) _ rfl (set7_blk RR7.out) Tryd.underlying24 rfl (by kernel_rfl)) rfl ?_
                  rw [HUU.out]
                  have hk7 := HD7.out.weak (A' := fun b => b ≠ w.heap.size ∧ w.heap.size ≤ b) fun b _ hb => ⟨by omega, by omega⟩
                  exact ⟨da, dc, rfl, (RB.mono hk7 ⟨by simp [World.setCell], fun b hb _ => set7_ne hb.1⟩).weak fun b _ hb => hb.2, below7 HB7.out (Nat.le_refl _)⟩
                · have HUU : KepU (unE l = (EnD.none, 70)) := KepU.mk (by rw [HU2.out, HIC.out, decide_eq_false z4]; simp)
                  have q1 : ((cd.length : Int) != (D.length : Int)) = true := by simp; omega
                  clear z4
                  go_wp2
                  refine bodyPost_ret (results_cell_w1 rfl _ _ w.heap.size 24 _ (0, 0) _ rfl (set7_blk RR7.out) Tryd.underlying24 rfl (by kernel_rfl)) rfl ?_
                  exact UnEO.no HUU.out (below7 HB7.out (Nat.le_refl _))
              · have HUU : KepU (unE l = (EnD.none, 70)) := KepU.mk (by rw [HU2.out, HIC.out, decide_eq_false z3]; simp)
                have q1 : (cp != (z : Int)) = true := by simpa using z3
                clear z3
                go_wp2
                refine bodyPost_ret (results_cell_w1 rfl _ _ w.heap.size 24 _ (0, 0) _ rfl (set7_blk RR7.out) Tryd.underlying24 rfl (by kernel_rfl)) rfl ?_
                exact UnEO.no HUU.out (below7 HB7.out (Nat.le_refl _))
            · have HUU : KepU (unE l = (EnD.none, 70)) := KepU.mk (by rw [HU2.out, HIC.out, decide_eq_false z2]; simp)
              have q1 : (cn != (n : Int)) = true := by simpa using z2
              clear z2
              go_wp2
              refine bodyPost_ret (results_cell_w1 rfl _ _ w.heap.size 24 _ (0, 0) _ rfl (set7_blk RR7.out) Tryd.underlying24 rfl (by kernel_rfl)) rfl ?_
              exact UnEO.no HUU.out (below7 HB7.out (Nat.le_refl _))
          · have HUU : KepU (unE l = (EnD.none, 70)) := KepU.mk (by rw [HU2.out, HIC.out, decide_eq_false z1]; simp)
            have q1 : (cf != (f : Int)) = true := by simpa using z1
            clear z1
            go_wp2
            refine bodyPost_ret (results_cell_w1 rfl _ _ w.heap.size 24 _ (0, 0) _ rfl (set7_blk RR7.out) Tryd.underlying24 rfl (by kernel_rfl)) rfl ?_
            exact UnEO.no HUU.out (below7 HB7.out (Nat.le_refl _))
      · have HUU := KepU.mk (unE_fin HH.out HN.out H6.out hfe)
        have q1 : ((R6.fin.e : Int) != 0) = true := by simp; omega
        have q2 : ((R6.fin.e : Int) == 0) = false := by simp; omega
        clear hfe
        obtain ⟨x0, g0⟩ := blk_cell (i := 0) (RR.out)
        obtain ⟨x1, g1⟩ := blk_cell (i := 1) (RR.out)
        obtain ⟨x2, g2⟩ := blk_cell (i := 2) (RR.out)
        obtain ⟨x3, g3⟩ := blk_cell (i := 3) (RR.out)
        obtain ⟨x4, g4⟩ := blk_cell (i := 4) (RR.out)
        obtain ⟨x5, g5⟩ := blk_cell (i := 5) (RR.out)
        obtain ⟨x6, g6⟩ := blk_cell (i := 6) (RR.out)
        simp at x0 x1 x2 x3 x4 x5 x6
        have hrw : w.heap.size < wz.heap.size := (Array.getElem?_eq_some_iff.1 RR.out).1
        go_wp2
        refine bodyPost_ret (results_cell_w1 rfl _ _ w.heap.size 24 _ (0, 0) _ rfl (set7_blk RR.out) Tryd.underlying24 rfl (by kernel_rfl)) rfl ?_
        exact UnEO.no HUU.out (below7 HB.out (Nat.le_refl _))
  · have HH : Hid (unHd l = x) := Lib.hid (by rw [HHD.out, if_pos hx0])
    have q1 : ((x : Int) == 0) = false := by simp; omega
    have q2 : ((x : Int) != 0) = true := by simp; omega
    have HX0 := Lib.hid hx0
    clear hx0 HHD
    go_wp2
    refine bodyPost_ret (results_cell_w1 rfl _ _ w.heap.size 24 _ (0, 0) _ rfl (set7_blk RR.out) Tryd.underlying24 rfl (by kernel_rfl)) rfl ?_
    exact UnEO.no (unE_hd HH.out HX0.out) (below7 HB.out (Nat.le_refl _))
end Go.Proofs.YtfeonfihlleoeaaDoor
