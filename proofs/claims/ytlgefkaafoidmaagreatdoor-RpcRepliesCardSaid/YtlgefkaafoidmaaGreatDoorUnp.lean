/- The walk of rpc.UnpackReply at any bytes. -/
import Derived.Test.YtlgefkaafoidmaaGreatDoorUnpA
import Derived.Test.YtlgefkaafoidmaaGreatDoorUnqE
import Derived.Test.YtlgefkaafoidmaaGreatDoorGI
import Derived.Test.YtlgefkaafoidmaaGreatDoorStepB
import Derived.Test.YtlgefkaafoidmaaGreatDoorSink
namespace Go.Proofs.YtlgefkaafoidmaaGreatDoor
open Go.RowKit Go.WideShapes
attribute [local go_sem ↓] Go.wp_at_zero Go.wp_at_succ

/-- what UnpackReply leaves -/
def UnpR (x : RpD × Int) (w : World) (e : Ending) (w' : World) : Prop := ∃ dv kv, e = .returned (.tuple #[rpV x.1 dv kv, .int .i64 x.2]) ∧ RB (fun b => w.heap.size ≤ b) w' dv x.1.obj.data ∧ SlE Enc.key (fun b => w.heap.size ≤ b) w' kv x.1.obj.keys ∧ Below w.heap.size w w'
theorem UnpR.no {x : Int} {w w' : World} {l : List UInt8} (h : unpB l = (RpD.none, x)) (hb : Below w.heap.size w w') : UnpR (unpB l) w (.returned (.tuple #[rpV RpD.none (.slice none 0 0) (.slice none 0 0), .int .i64 x])) w' := by
  rw [h]
  exact ⟨_, _, rfl, RB.nil _ _, SlE.nil _ _ _, hb⟩
theorem lt120 {n : Nat} (h : 120 < n) : (120 : Int) < (n : Int) := by omega
theorem nlt120 {n : Nat} (h : ¬ 120 < n) : ¬ (120 : Int) < (n : Int) := by omega
/-- kept out of sight, of 'contradiction' too -/
structure Kep (p : Prop) : Prop where
  mk ::
  out : p
theorem lt1 {n : Nat} (h : ¬ n ≤ 1) : (1 : Int) < (n : Int) := by omega
theorem nlt1 {n : Nat} (h : n ≤ 1) : ¬ (1 : Int) < (n : Int) := by omega
theorem rdKeys_step {n k : Nat} {r r3 : Rd} {y : KyD} {acc : List KyD} {X : List KyD × Rd} (hk : k < n) (h0 : r.e = 0) (hy : rdKey r = (y, r3)) (hX : X = (acc ++ (rdKeys (n - k) r).1, (rdKeys (n - k) r).2)) :
    X = ((acc ++ [y]) ++ (rdKeys (n - (k + 1)) r3).1, (rdKeys (n - (k + 1)) r3).2) := by
  rw [show n - k = (n - (k + 1)) + 1 by omega, rdKeys_go h0, hy] at hX
  rw [hX]
  simp
theorem rdKeys_end {n k : Nat} {r : Rd} {acc : List KyD} {X : List KyD × Rd} (h : r.e ≠ 0 ∨ k = n) (hX : X = (acc ++ (rdKeys (n - k) r).1, (rdKeys (n - k) r).2)) : X = (acc, r) := by
  have : rdKeys (n - k) r = ([], r) := by
    rcases h with h | rfl
    · exact rdKeys_halt h
    · rw [Nat.sub_self]; rfl
  rw [hX, this]
  simp
theorem unpPE_may {l : List UInt8} {acc : List KyD} {r : Rd} (ho : (opnB l 2).2 = 0) (hk : unpKs l = (acc, r)) (hf : r.fin.e = 0) : unpPE l = if mayRP (unpP l) && decide ((unpN' l).1.getD 6 0 ≤ 1) then 0 else 11 := by
  unfold unpPE
  rw [if_neg (fun h => h ho), hk, if_neg (fun h => h hf)]
theorem unpB_fin {l : List UInt8} {acc : List KyD} {r : Rd} (ho : (opnB l 2).2 = 0) (hk : unpKs l = (acc, r)) (hf : r.fin.e ≠ 0) : unpB l = (RpD.none, (r.fin.e : Int)) := by
  have : unpPE l = (r.fin.e : Int) := by
    unfold unpPE
    rw [if_neg (fun h => h ho), hk, if_pos hf]
  unfold unpB
  rw [this, if_neg (by omega)]
theorem unpN_six {l : List UInt8} {c lf s ec n x th sq : Nat} {R : Rd} (h : unpN' l = ([c, lf, s, ec, n, x, th, sq], R)) : (unpN' l).1.getD 6 0 = th := by rw [h]; rfl
theorem unpP_is {l : List UInt8} {c lf s ec n x th sq : Nat} {R R9 r : Rd} {D : List UInt8} {acc : List KyD} {pt : Bool} (h : unpN' l = ([c, lf, s, ec, n, x, th, sq], R)) (hd : unpD l = (D, R9)) (hk : unpKs l = (acc, r)) (hp : pt = decide (th = 1)) :
    unpP l = ⟨c, lf, s, ec, n, x, pt, ⟨D, acc, sq⟩⟩ := by
  unfold unpP
  rw [h, hd, hk, hp]
  rfl
theorem unpB_yes {l : List UInt8} {th : Nat} {P : RpD} (h : unpPE l = if mayRP (unpP l) && decide ((unpN' l).1.getD 6 0 ≤ 1) then 0 else 11) (hp : unpP l = P) (ht : (unpN' l).1.getD 6 0 = th) (hm : mayRP P = true) (h1 : th ≤ 1) : unpB l = (P, 0) := by
  rw [hp, ht, hm, decide_eq_true h1] at h
  unfold unpB
  rw [h, hp]
  rfl
theorem unpB_big {l : List UInt8} {th : Nat} (h : unpPE l = if mayRP (unpP l) && decide ((unpN' l).1.getD 6 0 ≤ 1) then 0 else 11) (ht : (unpN' l).1.getD 6 0 = th) (h1 : ¬ th ≤ 1) : unpB l = (RpD.none, 11) := by
  rw [ht, decide_eq_false h1, Bool.and_false] at h
  unfold unpB
  rw [h]
  rfl
theorem unpB_not {l : List UInt8} {P : RpD} (h : unpPE l = if mayRP (unpP l) && decide ((unpN' l).1.getD 6 0 ≤ 1) then 0 else 11) (hp : unpP l = P) (hm : mayRP P = false) : unpB l = (RpD.none, 11) := by
  rw [hp, hm, Bool.false_and] at h
  unfold unpB
  rw [h]
  rfl
def rpZ : Array Value := rpC RpD.none (.slice none 0 0) (.slice none 0 0)
/-- the state behind the numbers: the reader, the result's box, the reply's box, whether it is there, the data -/
structure UnS (w : World) (p q tb z th : Nat) (P : RpD) (D : List UInt8) (dv kv : Value) (r : Rd) (W : World) : Prop where
  mk ::
  rd : IsRd (fun b => w.heap.size < b ∧ b < p) W p r
  rr : W.heap[w.heap.size]? = some (.cells rpZ 40 (0, 0))
  bx : W.heap[q]? = some (.cells (rpC P dv kv) 40 (0, 0))
  t : W.heap[tb]? = some (.cells #[.int .i64 (th : Nat)] 3 (0, 0))
  d : RB (fun b => q + 3 < b ∧ b < z) W dv D
  b : Below w.heap.size w W
section
variable {w W W' : World} {p q tb z th : Nat} {P : RpD} {D : List UInt8} {dv kv : Value} {r r' : Rd}
theorem UnS.fr (h : UnS w p q tb z th P D dv kv r W) (h1 : w.heap.size < p) (h2 : p < q) (h4 : q < tb) (hf : Fr (fun k => k = p) W W') (hr : IsRd (fun b => w.heap.size < b ∧ b < p) W' p r') : UnS w p q tb z th P D dv kv r' W' :=
  ⟨hr, (hf.block _ (Array.getElem?_eq_some_iff.1 h.rr).1 (by omega)).trans h.rr, (hf.block _ (Array.getElem?_eq_some_iff.1 h.bx).1 (by omega)).trans h.bx, (hf.block _ (Array.getElem?_eq_some_iff.1 h.t).1 (by omega)).trans h.t, h.d.mono ⟨hf.size, fun b hb hl => hf.block b hl (by omega)⟩, h.b.trans (hf.below h.b.size fun j hj e => by omega)⟩
theorem UnS.low (h : UnS w p q tb z th P D dv kv r W) (h1 : w.heap.size < p) (h2 : p < q) (h4 : q < tb) (h5 : tb < z) (h3 : q + 3 < z) (hb : Below z W W') : UnS w p q tb z th P D dv kv r W' :=
  ⟨h.rd.same (B := fun b => b < z) ⟨hb.size, fun b hb' _ => hb.block b hb'⟩ (by omega) (fun b hb => by omega), (hb.block _ (by omega)).trans h.rr, (hb.block _ (by omega)).trans h.bx, (hb.block _ (by omega)).trans h.t, h.d.mono ⟨hb.size, fun b hb' _ => hb.block b hb'.2⟩, h.b.trans (hb.mono (by omega))⟩
theorem UnS.ext (h : UnS w p q tb z th P D dv kv r W) (hb : Below W.heap.size W W') : UnS w p q tb z th P D dv kv r W' :=
  ⟨h.rd.ext hb, dblk hb h.rr, dblk hb h.bx, dblk hb h.t, h.d.ext hb, dcall h.b hb⟩
/-- the keys' cell is written -/
theorem UnS.set8 (h : UnS w p q tb z th P D dv kv r W) (h1 : w.heap.size < p) (h2 : p < q) (h4 : q < tb) (v : Value) : UnS w p q tb z th P D dv v r (W.setCell ⟨q, 8, none⟩ v) :=
  ⟨IsRd.set h.rd (by omega) (fun b hb => by omega), set_other (by omega) h.rr, set_blk3 (j := 8) (v := v) h.bx, set_other (by omega) h.t, h.d.mono ⟨by simp [World.setCell], fun b hb _ => Below.heap_setCell _ _ _ _ (show b ≠ q by omega)⟩, h.b.setCell (show w.heap.size ≤ q by omega) _⟩
end
set_option maxRecDepth 100000 in
set_option maxHeartbeats 1600000 in
theorem unp_no (A : Nat → Prop) (v : Value) (l : List UInt8) (x : Nat) (w : World) (hx : RB A w v l) (hl : l.length ≤ 100000) (hT : TabW w) (hg0 : 0 < w.heap.size)
    (h0 : (opnB l 2).2 = x) (hx0 : x ≠ 0) : Calls Tryz.prog 13 #[v] w fun e w' => e = .returned (.tuple #[rpV RpD.none (.slice none 0 0) (.slice none 0 0), .int .i64 (x : Nat)]) ∧ Below w.heap.size w w' := by
  obtain ⟨xa, xc, rfl⟩ := hx.shape
  have hb0 : ∀ o, Below w.heap.size w (w.alloc o) := fun o => (Below.refl _ w).alloc (Nat.le_refl _) o
  have hcl : ∀ o, Calls Tryz.prog 25 #[.slice xa l.length xc, .int .i64 (2 : Nat)] (w.alloc o) fun e w' => e = .returned (.tuple #[.pointer none, .int .i64 (x : Nat)]) ∧ Below (w.heap.size + 1) (w.alloc o) w' := fun o => by
    have hx' : RB A (w.alloc o) (.slice xa l.length xc) l := hx.ext (hb0 o)
    refine (opn_no A _ l 2 (w.alloc o) hx' hl (tab_below hT (hb0 o) hg0) (by rw [World.size_alloc]; omega) (by rw [h0]; exact hx0)).mono ?_
    rw [h0]
    rintro e w' ⟨rfl, hb⟩
    exact ⟨rfl, by simpa using hb⟩
  have hxne : ((x : Int) != 0) = true := by
    simp; omega
  have HCL := Lib.hid hcl
  clear hcl hx hT hg0 hx0 h0 hb0
  go_enter Tryz.func13, Tryz.ntmps13
  go_wp2_with fail
  refine (HCL.out _).mono ?_
  rintro e w1 ⟨rfl, hb1⟩
  have B0 := (hb1.block w.heap.size (by omega)).trans (heap_alloc_new w _)
  have hs1 := hb1.size
  simp only [World.size_alloc] at hs1
  have hlt : w.heap.size < w1.heap.size := by omega
  have hbw : Below w.heap.size w w1 := ((Below.refl _ w).alloc (Nat.le_refl _) _).trans (hb1.mono (by omega))
  clear hb1
  obtain ⟨x0, f0⟩ := blk_cell (i := 0) B0
  obtain ⟨x1, f1⟩ := blk_cell (i := 1) B0
  obtain ⟨x2, f2⟩ := blk_cell (i := 2) B0
  obtain ⟨x3, f3⟩ := blk_cell (i := 3) B0
  obtain ⟨x4, f4⟩ := blk_cell (i := 4) B0
  obtain ⟨x5, f5⟩ := blk_cell (i := 5) B0
  obtain ⟨x6, f6⟩ := blk_cell (i := 6) B0
  obtain ⟨x7, f7⟩ := blk_cell (i := 7) B0
  obtain ⟨x8, f8⟩ := blk_cell (i := 8) B0
  obtain ⟨x9, f9⟩ := blk_cell (i := 9) B0
  simp at x0 x1 x2 x3 x4 x5 x6 x7 x8 x9
  have HB0 := Lib.hid B0
  clear B0
  go_wp2
  (try simp only [Exit.inBlock, Exit.then])
  refine bodyPost_ret (results_cell_tmp_row rfl _ _ w.heap.size 40 _ (0, 0) _ rfl (set10_blk HB0.out) Tryz.underlying40 rfl (by kernel_rfl)) rfl ?_
  exact ⟨rfl, below10 hbw (Nat.le_refl _)⟩
set_option maxRecDepth 100000 in
set_option maxHeartbeats 8000000 in
theorem unp_any (A : Nat → Prop) (v : Value) (l : List UInt8) (w : World) (hx : RB A w v l) (hl : l.length ≤ 100000) (hT : TabW w) (hg0 : 0 < w.heap.size) :
    Calls Tryz.prog 13 #[v] w (UnpR (unpB l) w) := by
  by_cases h0 : (opnB l 2).2 = 0
  · obtain ⟨L0, hL0⟩ : ∃ L0, opnB l 2 = (L0, 0) := ⟨(opnB l 2).1, by rw [← h0]⟩
    have hn := opnB_ok hL0
    have hlen0 : L0.length ≤ 8192 := by have := (opnB_len l 2).1; rw [hL0] at this; exact this
    obtain ⟨c, lf, s, ec, n, x, th, sq, hns⟩ := eight (show (rdNums wsP ⟨L0, 0⟩).1.length = 8 from rdNums_length _ _)
    have hrd : rdNums wsP ⟨L0, 0⟩ = ([c, lf, s, ec, n, x, th, sq], (rdNums wsP ⟨L0, 0⟩).2) := by rw [← hns]
    have hinv := rdNums_inv wsP ⟨L0, 0⟩ (Rd.ok_mk _) (show 0 < 1000 by decide)
    obtain ⟨R8, hR8⟩ : ∃ R8, (rdNums wsP ⟨L0, 0⟩).2 = R8 := ⟨_, rfl⟩
    rw [hR8] at hrd hinv
    have HSM : Hid R8.small := Lib.hid ⟨by have := hinv.2.2; simp only at this; omega, hinv.2.1⟩
    have HN1 : Hid (unpN' l = ([c, lf, s, ec, n, x, th, sq], R8)) := Lib.hid (by show rdNums wsP ⟨(opnB l 2).1, 0⟩ = _; rw [hL0]; exact hrd)
    have HOE : Hid ((opnB l 2).2 = 0) := Lib.hid h0
    obtain ⟨xa, xc, rfl⟩ := hx.shape
    have HX := Lib.hid hx
    have HT := Lib.hid hT
    have HN := Lib.hid hn
    have HG := Lib.hid hg0
    have HRD := Lib.hid hrd
    have HBL : Hid (L0.length ≤ 8192) := Lib.hid hlen0
    have hb0 : ∀ o, Below w.heap.size w (w.alloc o) := fun o => (Below.refl _ w).alloc (Nat.le_refl _) o
    have HB := Lib.hid hb0
    clear hx hT hn hg0 hrd hL0 hb0 h0 hinv hns hR8 hlen0
    go_enter Tryz.func13, Tryz.ntmps13
    go_wp2_with fail
    refine (opn_ok A _ l L0 2 _ (HX.out.ext (HB.out _)) hl (tab_below HT.out (HB.out _) HG.out) (by have := HG.out; rw [World.size_alloc]; omega) HN.out (by have := HBL.out; omega)).mono ?_
    rintro e w1 ⟨p, rfl, hr, hp, hb1⟩
    have B0 := (hb1.block w.heap.size (by simp)).trans (heap_alloc_new w _)
    have hbw : Below w.heap.size w w1 := ((Below.refl _ w).alloc (Nat.le_refl _) _).trans (hb1.mono (by simp))
    have hpl := hr.lt
    have hs1 := hb1.size
    simp only [World.size_alloc] at hs1 hp
    have HR : Hid (IsRd (fun b => w.heap.size < b ∧ b < p) w1 p ⟨L0, 0⟩) := by
      obtain ⟨u, h1, h2⟩ := hr.ex
      exact ⟨⟨u, h1, h2.weak fun b _ h => by simp at h; omega⟩, fun h => by have := h.2; omega⟩
    have HBW := Lib.hid hbw
    have HB0 : Hid (w1.heap[w.heap.size]? = some (.cells rpZ 40 (0, 0))) := Lib.hid B0
    clear hb1 hbw B0 hr
    have hs2 : w.heap.size < w1.heap.size := by omega
    obtain ⟨ns, hns⟩ : ∃ ns, ns = [c, lf, s, ec, n, x, th, sq] := ⟨_, rfl⟩
    rw [← hns] at HRD
    have HNL : Hid (ns.length = 8) := Lib.hid (by rw [hns]; rfl)
    have HNS := Lib.hid hns
    clear hns
    go_wp2
    have hAL : ∀ (a b c d : Obj), Below w1.heap.size w1 ((((w1.alloc a).alloc b).alloc c).alloc d) := fun a b c d => (((((Below.refl _ w1).alloc (Nat.le_refl _) _).alloc (by simp) _).alloc (by simp; omega) _).alloc (by simp; omega) _)
    go_loopw [40] (fun qq wr => ∃ k : Nat, k ≤ 8 ∧ qq = .int .i64 k ∧ RpL w1.heap.size ns k wr ∧ IsRd (fun b => w.heap.size < b ∧ b < p) wr p (rdNums (wsP.take k) ⟨L0, 0⟩).2 ∧ wr.heap[w.heap.size]? = some (.cells rpZ 40 (0, 0)) ∧ Below w.heap.size w wr) (fun qq _ => 8 - (intOf qq).toNat)
    case atStart =>
      exact ⟨0, by omega, rfl, RpL.new w1 ns, HR.out.ext (hAL _ _ _ _), ((hAL _ _ _ _).block _ hs2).trans HB0.out, HBW.out.trans ((hAL _ _ _ _).mono (by omega))⟩
    case round =>
      obtain ⟨k, hk, rfl, q1, rr, b0, bw⟩ := hrel
      have HQR := Lib.hid q1
      have HRR := Lib.hid rr
      have HB0R := Lib.hid b0
      have HBWR := Lib.hid bw
      have hpr := rr.lt
      have hqr := q1.lt
      clear q1 rr b0 bw hAL
      by_cases hlt : k < 8
      · have hwk : k < wsP.length := hlt
        obtain ⟨c0, c1⟩ := HQR.out.ptr hlt
        obtain ⟨d0, g0⟩ := HQR.out.get hlt
        have hbo := bo_le k
        have HW := Lib.hid (wsP_b k hwk)
        have HSTEP := Lib.hid (rdNums_take wsP ⟨L0, 0⟩ k hwk)
        have HPRE := Lib.hid (rdNums_prefix wsP ⟨L0, 0⟩ (k + 1))
        have HINV := Lib.hid (rdNums_inv (wsP.take k) ⟨L0, 0⟩ (Rd.ok_mk _) (show 0 < 1000 by decide))
        generalize wsP[k] = W at *
        have hplen : (rdNums (wsP.take k) ⟨L0, 0⟩).1.length = k := by rw [rdNums_length, List.length_take]; show min k 8 = k; omega
        have hnum : Hid ((((rdNums (wsP.take k) ⟨L0, 0⟩).2.num W).1) = ns.getD k 0) := by
          have hkn : k < ns.length := by have := HNL.out; omega
          show _ = _
          rw [List.getD_eq_getElem?_getD, List.getElem?_eq_getElem hkn]
          refine last_is (ns := ns) hplen hkn ?_
          have h1 := congrArg Prod.fst HSTEP.out
          rw [HPRE.out, HRD.out] at h1
          exact h1.symm
        have hlen : (rdNums (wsP.take k) ⟨L0, 0⟩).2.l.length ≤ 100000 := by have h2 := HINV.out.2.2; have h3 := HBL.out; simp only at h2; omega
        have hlen' := Lib.hid hlen
        have hre := Lib.hid HINV.out.2.1
        have hSN : Hid ((rdNums (wsP.take (k + 1)) ⟨L0, 0⟩).2 = ((rdNums (wsP.take k) ⟨L0, 0⟩).2.num W).2) := by
          show _ = _
          rw [HSTEP.out]
          rfl
        generalize (rdNums (wsP.take k) ⟨L0, 0⟩).2 = R at *
        clear hplen hlen
        obtain ⟨qb, hqb⟩ : ∃ qb, qb = w1.heap.size + bo k := ⟨_, rfl⟩
        rw [← hqb] at c0 d0 g0
        have HQB := Lib.hid hqb
        have hqp : qb ≠ p := by omega
        have hpw : wr.heap.size ≠ p := by omega
        have hqw : qb < wr.heap.size := by omega
        have hqlo : w.heap.size < qb := by omega
        obtain ⟨cj, hcj⟩ : ∃ cj, cj = co k := ⟨_, rfl⟩
        rw [← hcj] at c0 d0 g0
        have HCJ := Lib.hid hcj
        clear hcj hqb hbo
        have hfz : ∀ o, (wr.alloc o).drew.frozen? ⟨qb, cj, none⟩ = false := fun o => (World.frozen?_of_block (Below.heap_alloc wr o qb hqw)).trans g0
        go_wp2
        go_region_with (go_at_call 26; refine (rnum_any _ p W R _ (HRR.out.ext (Below.drew ((Below.refl _ _).alloc (Nat.le_refl _) _))) HW.out.1 HW.out.2 hlen'.out hre.out).mono ?_; rintro e w3 ⟨rfl, hr3, hf3⟩; have hs3 := hf3.size; have e0 : w3.cell? ⟨wr.heap.size, 0, none⟩ = _ := (hf3.cell (p := ⟨wr.heap.size, 0, none⟩) (by simp) hpw).trans (by simp; rfl); have e2 : w3.cell? ⟨qb, cj, none⟩ = _ := (hf3.cell (p := ⟨qb, cj, none⟩) (by simp; omega) hqp).trans ((World.cell?_alloc_lt _ _ _ hqw).trans d0); have e3 : w3.frozen? ⟨qb, cj, none⟩ = false := (hf3.frozen (p := ⟨qb, cj, none⟩) (by simp; omega) hqp).trans (hfz _); have HR3 := Lib.hid hr3; have HF3 := Lib.hid hf3; clear hr3 hf3)
        all_goals
          go_wp2
          go_roundw
          case rel =>
            have hl3 : RpL w1.heap.size ns k w3 := HQR.out.keep fun b h1 h2 => (HF3.out.block b (by simp; omega) (by show ¬ (b = p); omega)).trans (Below.heap_alloc _ _ _ (by omega))
            refine ⟨k + 1, by omega, by go_num, ?_, ?_, ?_, ?_⟩
            · rw [hnum.out, HQB.out, HCJ.out]
              exact hl3.set hlt
            · rw [hSN.out]
              exact IsRd.same (B := fun b => b ≠ qb) HR3.out (Same.setCell (a := ⟨qb, cj, none⟩) (Same.refl _ _) (fun h => h rfl) _) (Ne.symm hqp) (fun b h => by have := h.2; have := HQB.out; omega)
            · exact set_other (by omega) ((HF3.out.block w.heap.size (by simp; omega) (by show ¬ (w.heap.size = p); omega)).trans ((Below.heap_alloc _ _ _ (by omega)).trans HB0R.out))
            · refine Below.setCell (p := ⟨qb, cj, none⟩) ?_ (by show _ ≤ qb; omega) _
              exact ((HBWR.out.alloc (by omega) _).drew).trans (HF3.out.below (B := w.heap.size) (by simp; omega) fun j hj h => by have h : j = p := h; omega)
          case measure => simp [intOf]; omega
      · obtain rfl : k = 8 := by omega
        rw [show ((8 : Nat) : Int) = 8 from rfl]
        have h8 : (rdNums (wsP.take 8) ⟨L0, 0⟩).2 = R8 := congrArg Prod.snd HRD.out
        have HR8 := Lib.hid (h8 ▸ HRR.out)
        have HQ8 : Hid (wr.heap[w1.heap.size]? = some (.cells (rpC ⟨c, lf, s, 0, n, x, false, ⟨[], [], sq⟩⟩ (.slice none 0 0) (.slice none 0 0)) 40 (0, 0))) := Lib.hid (by have := HQR.out.a; rw [HNS.out] at this; exact this)
        have HC8 : Hid (wr.heap[w1.heap.size + 1]? = some (.cells #[.int .i64 (ec : Nat)] 3 (0, 0))) := Lib.hid (by have := HQR.out.c; rw [HNS.out] at this; exact this)
        have HT8 : Hid (wr.heap[w1.heap.size + 1 + 1]? = some (.cells #[.int .i64 (th : Nat)] 3 (0, 0))) := Lib.hid (by have := HQR.out.t; rw [HNS.out] at this; exact this)
        clear h8 HQR HRR hlt
        obtain ⟨q, hq⟩ : ∃ q, q = w1.heap.size := ⟨_, rfl⟩
        rw [← hq] at HQ8 HC8 HT8 hqr ⊢
        have hpq : p < q := by omega
        have hwp : w.heap.size < p := by omega
        obtain ⟨tb, htb⟩ : ∃ tb, tb = q + 1 + 1 := ⟨_, rfl⟩
        obtain ⟨cb, hcb⟩ : ∃ cb, cb = q + 1 := ⟨_, rfl⟩
        rw [← htb] at HT8 ⊢
        rw [← hcb] at HC8 ⊢
        have hqt : q < tb := by omega
        have hqc : q < cb := by omega
        have hct : cb < wr.heap.size ∧ tb < wr.heap.size ∧ tb < q + 3 := by omega
        obtain ⟨l1, l2, hqt3⟩ := hct
        clear hq htb hcb
        have hwr : w.heap.size < wr.heap.size := by omega
        have HBR := Lib.hid HBWR.out
        obtain ⟨c0, -⟩ := blk_cell (i := 0) HC8.out
        obtain ⟨t0, -⟩ := blk_cell (i := 0) HT8.out
        obtain ⟨y3, f3⟩ := blk_cell (i := 3) HQ8.out
        obtain ⟨y6, f6⟩ := blk_cell (i := 6) HQ8.out
        simp [rpC] at c0 t0 y3 y6
        have l0 : q < wr.heap.size := by omega
        obtain ⟨pt, hpt⟩ : ∃ pt, pt = decide (th = 1) := ⟨_, rfl⟩
        have HPT := Lib.hid hpt
        go_upto_region 11 with fail
        go_cut [] (fun wx => wx.heap[q]? = some (.cells (rpC ⟨c, lf, s, ec, n, x, pt, ⟨[], [], sq⟩⟩ (.slice none 0 0) (.slice none 0 0)) 40 (0, 0)) ∧ wx.heap[tb]? = some (.cells #[.int .i64 (th : Nat)] 3 (0, 0)) ∧
          IsRd (fun b => w.heap.size < b ∧ b < p) wx p R8 ∧ wx.heap[w.heap.size]? = some (.cells rpZ 40 (0, 0)) ∧ Below w.heap.size w wx ∧ q + 3 < wx.heap.size)
        case first =>
          have hend : Hid (∀ pv, pv = pt → ((wr.setCell ⟨q, 3, none⟩ (.int .i64 (ec : Nat))).setCell ⟨q, 6, none⟩ (.bool pv)).heap[q]? = some (.cells (rpC ⟨c, lf, s, ec, n, x, pt, ⟨[], [], sq⟩⟩ (.slice none 0 0) (.slice none 0 0)) 40 (0, 0)) ∧ ((wr.setCell ⟨q, 3, none⟩ (.int .i64 (ec : Nat))).setCell ⟨q, 6, none⟩ (.bool pv)).heap[tb]? = some (.cells #[.int .i64 (th : Nat)] 3 (0, 0)) ∧
              IsRd (fun b => w.heap.size < b ∧ b < p) ((wr.setCell ⟨q, 3, none⟩ (.int .i64 (ec : Nat))).setCell ⟨q, 6, none⟩ (.bool pv)) p R8 ∧ ((wr.setCell ⟨q, 3, none⟩ (.int .i64 (ec : Nat))).setCell ⟨q, 6, none⟩ (.bool pv)).heap[w.heap.size]? = some (.cells rpZ 40 (0, 0)) ∧ Below w.heap.size w ((wr.setCell ⟨q, 3, none⟩ (.int .i64 (ec : Nat))).setCell ⟨q, 6, none⟩ (.bool pv)) ∧ q + 3 < ((wr.setCell ⟨q, 3, none⟩ (.int .i64 (ec : Nat))).setCell ⟨q, 6, none⟩ (.bool pv)).heap.size) := Lib.hid (by
            rintro pv rfl
            exact ⟨set_blk3 (j := 6) (set_blk3 (j := 3) HQ8.out), set_other (by omega) (set_other (by omega) HT8.out), IsRd.set (IsRd.set HR8.out (by omega) (fun b hb => by omega)) (by omega) (fun b hb => by omega), set_other (by omega) (set_other (by omega) HB0R.out), (HBR.out.setCell (show w.heap.size ≤ q by omega) _).setCell (show w.heap.size ≤ q by omega) _, by simpa [World.setCell] using hqr⟩)
          by_cases h1 : th = 1
          · have e1 : ((th : Int) == 1) = true := by simp; omega
            have HPP : Hid (true = pt) := Lib.hid (by rw [hpt]; simp [h1])
            clear hpt h1
            go_wp2_with fail
            go_meet
            exact hend.out _ HPP.out
          · have e1 : ((th : Int) == 1) = false := by simp; omega
            have HPP : Hid (false = pt) := Lib.hid (by rw [hpt]; simp [h1])
            clear hpt h1
            go_wp2_with fail
            go_meet
            exact hend.out _ HPP.out
        case rest =>
          obtain ⟨hQ, hT2, hRD, hRR, hBW, hsz⟩ := hcut
          have Q1 := Lib.hid hQ
          have T1 := Lib.hid hT2
          have RD1 := Lib.hid hRD
          have RR1 := Lib.hid hRR
          have B1 := Lib.hid hBW
          have hpw : p < wc.heap.size := hRD.lt
          clear hQ hT2 hRD hRR hBW hpt c0 t0 y3 f3 y6 f6 l0 l1 l2 HQ8 HC8 HT8 HR8 HB0R HBR HBWR
          go_wp2_with fail
          refine (rblob_any _ p 64 _ _ RD1.out (by omega) HSM.out.len HSM.out.err (HSM.out.num 2).err).mono ?_
          rintro e w3 ⟨dv, rfl, hdv, hr3, hf3⟩
          obtain ⟨da, dc, rfl⟩ := hdv.shape
          have HSM2 := Lib.hid (HSM.out.blob 64)
          have HDD : Kep (unpD l = R8.blob 64) := Kep.mk (by show (unpN' l).2.blob 64 = _; rw [HN1.out])
          generalize R8.blob 64 = X at *
          obtain ⟨D, R9⟩ := X
          simp only at hr3 hdv HSM2 HDD ⊢
          have hs3 := hf3.size
          have Q3 := Lib.hid ((hf3.block q (by omega) (by omega)).trans Q1.out)
          have HDV : Hid (RB (fun b => q + 3 < b ∧ b < w3.heap.size) w3 (.slice da D.length dc) D) := Lib.hid (hdv.weak fun b hb hA => ⟨by omega, hb⟩)
          have T3 := Lib.hid ((hf3.block tb (by omega) (by omega)).trans T1.out)
          have RR3 := Lib.hid ((hf3.block w.heap.size (by omega) (by omega)).trans RR1.out)
          have B3 := Lib.hid (B1.out.trans (hf3.below (B := w.heap.size) (by omega) fun j hj h => by omega))
          have RD3 := Lib.hid hr3
          obtain ⟨y7, f7⟩ := blk_cell (i := 7) Q3.out
          simp [rpC] at y7
          have lq : q < w3.heap.size := by omega
          have hsz3 : q + 3 < w3.heap.size := by omega
          clear hdv hr3 hf3 Q1 T1 RD1 RR1 B1 hsz hpw hs3
          go_upto_region 13 with fail
          obtain ⟨w4, hw4⟩ : ∃ w4, w4 = w3.setCell ⟨q, 7, none⟩ (.slice da D.length dc) := ⟨_, rfl⟩
          rw [← hw4]
          obtain ⟨z, hz⟩ : ∃ z, z = w3.heap.size := ⟨_, rfl⟩
          rw [← hz] at HDV hsz3
          have hqtz : tb < z := by omega
          have HU4 : Hid (UnS w p q tb z th ⟨c, lf, s, ec, n, x, pt, ⟨[], [], sq⟩⟩ D (.slice da D.length dc) (.slice none 0 0) R9 w4) := Lib.hid (by
            rw [hw4]
            exact ⟨IsRd.set RD3.out (by omega) (fun b hb => by omega), set_other (by omega) RR3.out, set_blk3 (j := 7) Q3.out, set_other (by omega) T3.out, HDV.out.mono ⟨by simp [World.setCell], fun b hb _ => Below.heap_setCell _ _ _ _ (show b ≠ q by omega)⟩, B3.out.setCell (show w.heap.size ≤ q by omega) _⟩)
          have hz4 : z = w4.heap.size := by rw [hw4, hz]; simp [World.setCell]
          clear hw4 hz Q3 HDV T3 RR3 B3 RD3 y7 f7 lq
          go_wp2_with fail
          refine (rnum_any _ p 1 _ _ HU4.out.rd (by omega) (by omega) HSM2.out.len HSM2.out.err).mono ?_
          rintro e w5 ⟨rfl, hr5, hf5⟩
          have HU5' := HU4.out.fr hwp hpq hqt hf5 hr5
          have hz5 : z ≤ w5.heap.size := by have := hf5.size; omega
          have HSM3 := Lib.hid (HSM2.out.num 1)
          have hnl := Rd.num_lt R9 1
          have HKK : Kep (unpK l = R9.num 1) := Kep.mk (by show (unpD l).2.num 1 = _; rw [HDD.out])
          generalize R9.num 1 = X at *
          obtain ⟨nk, R10⟩ := X
          simp only at HU5' HSM3 hnl HKK ⊢
          have HU5 := Lib.hid HU5'
          have HFF : Kep (unpF l = if 120 < nk then R10.fail 11 else R10) := Kep.mk (by unfold unpF; rw [HKK.out])
          have HYY : Kep (unpKs l = rdKeys nk (unpF l)) := Kep.mk (by unfold unpKs; rw [HKK.out])
          clear hr5 hf5 HU5' HU4 HSM2 hz4
          generalize unpF l = F at *
          go_upto_if 64 with fail
          go_cut [11] (fun s11 wx => s11 = .int .i64 (nk : Nat) ∧ UnS w p q tb z th ⟨c, lf, s, ec, n, x, pt, ⟨[], [], sq⟩⟩ D (.slice da D.length dc) (.slice none 0 0) F wx ∧ F.small ∧ z ≤ wx.heap.size)
          case first =>
            by_cases h12 : 120 < nk
            · have h12' := lt120 h12
              have HCC : Kep (F = R10.fail 11) := Kep.mk (by rw [HFF.out, if_pos h12])
              clear h12 HFF HYY
              go_wp2_with fail
              refine (fail_any _ p R10 11 _ HU5.out.rd (by omega) HSM3.out.err).mono ?_
              rintro e w6 ⟨rfl, hr6, hf6⟩
              go_wp2_with fail
              go_meet
              exact ⟨rfl, by rw [HCC.out]; exact HU5.out.fr hwp hpq hqt hf6 hr6, by rw [HCC.out]; exact HSM3.out.fail (by decide), by have := hf6.size; omega⟩
            · have h12' := nlt120 h12
              have HCC : Kep (F = R10) := Kep.mk (by rw [HFF.out, if_neg h12])
              clear h12 HFF HYY
              go_wp2_with fail
              go_meet
              exact ⟨rfl, by rw [HCC.out]; exact HU5.out, by rw [HCC.out]; exact HSM3.out, hz5⟩
          case rest =>
            obtain ⟨rfl, hU, hS, hzc⟩ := hcut
            have HU0 := Lib.hid hU
            have HS0 := Lib.hid hS
            clear hU hS HU5 HSM3 HFF
            go_wp2
            go_loopw [68] (fun q68 wr => ∃ k : Nat, k ≤ nk ∧ q68 = .int .i64 k ∧ ∃ (r : Rd) (acc : List KyD) (kv : Value), UnS w p q tb z th ⟨c, lf, s, ec, n, x, pt, ⟨[], [], sq⟩⟩ D (.slice da D.length dc) kv r wr ∧ r.small ∧ EnR Enc.key 89 z wr kv acc ∧ acc.length ≤ k ∧ z ≤ wr.heap.size ∧ unpKs l = (acc ++ (rdKeys (nk - k) r).1, (rdKeys (nk - k) r).2)) (fun q68 _ => nk - (intOf q68).toNat)
            case atStart => exact ⟨0, Nat.zero_le _, rfl, F, [], _, HU0.out, HS0.out, EnR.nil _ _ _ _, Nat.zero_le _, hzc, by rw [HYY.out]; rfl⟩
            case round =>
              obtain ⟨k, hk, rfl, r, acc, kv, hU, hS, hE, hal, hzr, hY⟩ := hrel
              obtain ⟨ka, kc, rfl⟩ := hE.shape
              have HU := Lib.hid hU
              have HS := Lib.hid hS
              have HE := Lib.hid hE
              have HY := Kep.mk hY
              clear hU hS hE hY HU0 HS0 HYY hzc
              by_cases hlt : k < nk
              · go_wp2_with fail
                refine (err_any _ p r _ HU.out.rd).mono ?_
                rintro e wq ⟨rfl, rfl⟩
                by_cases h0 : r.e = 0
                · have H0 := Lib.hid h0
                  have t0 : ((r.e : Int) != 0) = false := by simp [h0]
                  have t1 : ((r.e : Int) == 0) = true := by simp [h0]
                  clear h0
                  go_wp2_with fail
                  refine (rblob_any _ p 12 r _ HU.out.rd (by omega) HS.out.len HS.out.err (HS.out.num 2).err).mono ?_
                  rintro e w2 ⟨vb, rfl, hvb, hr2, hf2⟩
                  have HSM4 := Lib.hid (HS.out.blob 12)
                  have HKY : Kep (rdKey r = (⟨⟨(r.blob 12).1.toArray⟩, ((r.blob 12).2.blob 2048).1⟩, ((r.blob 12).2.blob 2048).2)) := Kep.mk rfl
                  generalize r.blob 12 = X at *
                  obtain ⟨nm, r2⟩ := X
                  simp only at hr2 hvb HSM4 HKY ⊢
                  obtain ⟨na, nc, rfl⟩ := hvb.shape
                  have HU2 := Lib.hid (HU.out.fr hwp hpq hqt hf2 hr2)
                  have HVB := Lib.hid hvb
                  have HF2 := Lib.hid hf2
                  have hs2' := hf2.size
                  clear hvb hr2 hf2 t0 t1
                  go_upto_region 20 with fail
                  have hvl := (Rd.blob_len r2 2048).1
                  have HSM5 := Lib.hid (HSM4.out.blob 2048)
                  have hcall := fun W (h : IsRd (fun b => w.heap.size < b ∧ b < p) W p r2) => rblob_any (fun b => w.heap.size < b ∧ b < p) p 2048 r2 W h (by omega) HSM4.out.len HSM4.out.err (HSM4.out.num 2).err
                  generalize r2.blob 2048 = X at *
                  obtain ⟨vl, r3⟩ := X
                  simp only at hvl HSM5 HKY hcall
                  have HCALL := Lib.hid hcall
                  have HRP := Lib.hid (HF2.out.size)
                  have HEF : Hid (EnR Enc.key 89 z w2 (.slice ka acc.length kc) acc) := Lib.hid (HE.out.same ⟨HF2.out.size, fun b hb hl => HF2.out.block b hl (by show ¬ (b = p); omega)⟩)
                  have HNM : Hid (RB (fun b => wr.heap.size ≤ b ∧ b < w2.heap.size) w2 (.slice na nm.length nc) nm) := Lib.hid ((SlA.cut HVB.out).weak fun b hb => ⟨hb.1, hb.2⟩)
                  have hown := fun e => (HE.out.lt e)
                  have HOWN := Lib.hid hown
                  obtain ⟨k1, k2⟩ := blk_cell (i := 8) HU2.out.bx
                  simp [rpC] at k1
                  obtain ⟨i0, hi, hz0, hz1, hz2⟩ := info_parts infoKey
                  have hq2 : q < w2.heap.size := (Array.getElem?_eq_some_iff.1 HU2.out.bx).1
                  clear hcall hown HVB HE HF2
                  refine wp_region_sink (n := 12) (fun W => W.cell? ⟨q, 8, none⟩ = some (.slice ka acc.length kc) ∧ RB (fun b => wr.heap.size ≤ b ∧ b < w2.heap.size) W (.slice na nm.length nc) nm) (by kernel_rfl) (by kernel_rfl) (by kernel_rfl) (by kernel_rfl) rfl ⟨k1, HNM.out.ext (Below.drew (Below.refl _ _))⟩ (fun hHeld => ?_)
                  refine wpAnyH_take (i := 0) (oi := { dst := some 75, op := Op.fieldAddr 40 (Operand.tmp 6) 7, type := 0, pos := "rpc.go:178", after := #[], guard := none }) (v := ?v0) rfl (by kernel_rfl) (by kernel_rfl) (by kernel_rfl) (fun _ _ _ h => h) (Or.inl ⟨by rfl, ?hy0⟩) hHeld ?r0
                  case hy0 => (intro W hSW; (try dsimp only at hSW); go_simp; try (with_reducible rfl))
                  simp only [Act.put, List.setIfInBounds_toArray, List.set_cons_zero, List.set_cons_succ]
                  refine wpAnyH_take (i := 1) (oi := { dst := some 76, op := Op.fieldAddr 38 (Operand.tmp 75) 1, type := 0, pos := "rpc.go:178", after := #[{ on := 0, ground := Ground.data }], guard := none }) (v := ?v1) rfl (by kernel_rfl) (by kernel_rfl) (by kernel_rfl) (fun _ _ _ h => h) (Or.inl ⟨by rfl, ?hy1⟩) hHeld ?r1
                  case hy1 => (intro W hSW; (try dsimp only at hSW); go_simp; try (with_reducible rfl))
                  simp only [Act.put, List.setIfInBounds_toArray, List.set_cons_zero, List.set_cons_succ]
                  refine wpAnyH_take (i := 2) (oi := { dst := some 77, op := Op.load 36 (Operand.tmp 76), type := 36, pos := "rpc.go:178", after := #[{ on := 1, ground := Ground.data }], guard := none }) (v := ?v2) rfl (by kernel_rfl) (by kernel_rfl) (by kernel_rfl) (fun _ _ _ h => h) (Or.inl ⟨by rfl, ?hy2⟩) hHeld ?r2
                  case hy2 => (intro W hSW; (try dsimp only at hSW); go_simp; try (with_reducible rfl))
                  simp only [Act.put, List.setIfInBounds_toArray, List.set_cons_zero, List.set_cons_succ]
                  refine wpAnyH_take (i := 3) (oi := { dst := some 78, op := Op.move (Operand.tmp 12), type := 27, pos := "rpc.go:178", after := #[], guard := none }) (v := ?v3) rfl (by kernel_rfl) (by kernel_rfl) (by kernel_rfl) (fun _ _ _ h => h) (Or.inl ⟨by rfl, ?hy3⟩) hHeld ?r3
                  case hy3 => (intro W hSW; (try dsimp only at hSW); go_simp; try (with_reducible rfl))
                  simp only [Act.put, List.setIfInBounds_toArray, List.set_cons_zero, List.set_cons_succ]
                  refine wpAnyH_take (i := 4) (oi := { dst := some 79, op := Op.convert 27 9 (Operand.tmp 78), type := 9, pos := "rpc.go:178", after := #[{ on := 3, ground := Ground.data }], guard := none }) (v := ?v4) rfl (by kernel_rfl) (by kernel_rfl) (by kernel_rfl) (fun _ _ _ h => h) (Or.inl ⟨by rfl, ?hy4⟩) hHeld ?r4
                  case hy4 => (intro W hSW; have hcv := cnv_bytes hSW.2 W (Below.refl _ _); (try dsimp only at hSW); go_simp; try (with_reducible rfl))
                  simp only [Act.put, List.setIfInBounds_toArray, List.set_cons_zero, List.set_cons_succ]
                  refine wpAnyH_take (i := 5) (oi := { dst := some 80, op := Op.move (Operand.tmp 4), type := 59, pos := "rpc.go:178", after := #[], guard := none }) (v := ?v5) rfl (by kernel_rfl) (by kernel_rfl) (by kernel_rfl) (fun _ _ _ h => h) (Or.inl ⟨by rfl, ?hy5⟩) hHeld ?r5
                  case hy5 => (intro W hSW; (try dsimp only at hSW); go_simp; try (with_reducible rfl))
                  simp only [Act.put, List.setIfInBounds_toArray, List.set_cons_zero, List.set_cons_succ]
                  refine wpAnyH_ready (rs := [6]) (by kernel_rfl) (by simp) (AllReadyH.cons (o := { dst := some 81, op := Op.call { callee := Callee.value (Operand.func 27), args := #[Operand.tmp 80, Operand.const (Value.int IntKind.i64 2048)], argTypes := #[59, 3] }, type := 27, pos := "rpc.go:178", after := #[{ on := 5, ground := Ground.data }], guard := none }) rfl (fun K hK => ?_) AllReadyH.nil)
                  go_simp
                  go_wp2_with (go_at_call 27; refine (HCALL.out _ (HU2.out.ext (Below.drew (Below.refl _ _))).rd).mono ?_; rintro e w3 ⟨vb, rfl, hvb3, hr3, hf3⟩; obtain ⟨va, vc, rfl⟩ := hvb3.shape)
                  have HU3 := Lib.hid ((HU2.out.ext (Below.drew (Below.refl _ _))).fr hwp hpq hqt hf3 hr3)
                  have hs3' : w2.heap.size ≤ w3.heap.size := hf3.size
                  have HE3 : Hid (EnR Enc.key 89 z w3 (.slice ka acc.length kc) acc) := Lib.hid (HEF.out.same ⟨hs3', fun b hb hl => hf3.block b hl (by show ¬ (b = p); omega)⟩)
                  have HN3 : Hid (RB (fun b => wr.heap.size ≤ b ∧ b < w2.heap.size) w3 (.slice na nm.length nc) nm) := Lib.hid (HNM.out.mono ⟨hs3', fun b hb hl => hf3.block b hl (by show ¬ (b = p); omega)⟩)
                  obtain ⟨m1, m2⟩ := blk_cell (i := 8) HU3.out.bx
                  simp [rpC] at m1
                  have HVB3 : Hid (RB (fun b => w2.heap.size ≤ b) w3 (.slice va vl.length vc) vl) := Lib.hid hvb3
                  have hq3 : q < w3.heap.size := (Array.getElem?_eq_some_iff.1 HU3.out.bx).1
                  clear hvb3 hr3 hf3
                  refine hK.out _ _ ⟨m1, HN3.out⟩ (fun hHeld => ?_)
                  clear hK K
                  refine wpAnyH_take (i := 7) (oi := { dst := some 82, op := Op.build 89 #[(0, Operand.tmp 79), (1, Operand.tmp 81)], type := 89, pos := "rpc.go:178", after := #[{ on := 4, ground := Ground.data }, { on := 6, ground := Ground.data }], guard := none }) (v := ?v7) rfl (by kernel_rfl) (by kernel_rfl) (by kernel_rfl) (fun _ _ _ h => h) (Or.inl ⟨by rfl, ?hy7⟩) hHeld ?r7
                  case hy7 => (intro W hSW; (try dsimp only at hSW); go_simp; try (with_reducible rfl))
                  simp only [Act.put, List.setIfInBounds_toArray, List.set_cons_zero, List.set_cons_succ]
                  refine wpAnyH_ready (rs := [8]) (by kernel_rfl) (by simp) (AllReadyH.cons (o := { dst := some 83, op := Op.buildSlice 36 1 #[(0, Operand.tmp 82)], type := 36, pos := "rpc.go:178", after := #[{ on := 7, ground := Ground.data }], guard := none }) rfl (fun K hK => ?_) AllReadyH.nil)
                  go_simp
                  refine hK.out _ _ ⟨(World.cell?_alloc_lt _ _ _ hq3).trans m1, HN3.out.ext (Below.alloc (Below.refl _ _) (Nat.le_refl _) _)⟩ (fun hHeld => ?_)
                  clear hK K
                  refine wpAnyH_ready (rs := [9]) (by kernel_rfl) (by simp) (AllReadyH.cons (o := { dst := some 84, op := Op.call { callee := Callee.builtin Builtin.append, args := #[Operand.tmp 77, Operand.tmp 83], argTypes := #[36, 36] }, type := 36, pos := "rpc.go:178", after := #[{ on := 2, ground := Ground.data }, { on := 8, ground := Ground.data }, { on := 6, ground := Ground.chain }], guard := none }) rfl (fun K hK => ?_) AllReadyH.nil)
                  refine step_pushG _ (by rfl) _ _ 36 (by rfl) Enc.key z 89 i0 _ 40 Tryz.underlying36 hi hz0 hz1 hz2 (by rfl) (by decide) (by decide) _ acc acc.length rfl (by rfl) (HE3.out.ext (Below.alloc (Below.refl _ _) (Nat.le_refl _) _)) w3.heap.size [.string ⟨nm.toArray⟩, .slice va vl.length vc] 89 ⟨⟨nm.toArray⟩, vl⟩ (by rfl) (heap_alloc_new w3 _) ⟨_, rfl, RB.ext (HVB3.out.weak fun b _ hb => ⟨Nat.le_trans hzr (Nat.le_trans hs2' hb), fun e => by have := (HOWN.out b e).2; omega⟩) (Below.alloc (Below.refl _ _) (Nat.le_refl _) _)⟩ (by omega) (by simp; omega) ?_
                  intro g cap w9 hrow hbel hgr
                  have HBA : Hid (Below w3.heap.size w3 (w3.alloc (.cells #[.string ⟨nm.toArray⟩, .slice va vl.length vc] 89))) := Lib.hid (Below.alloc (Below.refl _ _) (Nat.le_refl _) _)
                  have HU9 := Lib.hid ((HU3.out.ext HBA.out).low hwp hpq hqt hqtz hsz3 hbel)
                  have HN9 : Hid (RB (fun b => wr.heap.size ≤ b ∧ b < w2.heap.size) w9 (.slice na nm.length nc) nm) := Lib.hid ((HN3.out.ext HBA.out).mono ⟨hgr.size, fun b hb hl => hgr.block b hl fun e => by have := (HOWN.out b e.symm).2; omega⟩)
                  obtain ⟨n1, n2⟩ := blk_cell (i := 8) HU9.out.bx
                  simp [rpC] at n1
                  have HR9 := Lib.hid hrow
                  have hz9 : z ≤ w9.heap.size := Nat.le_trans (Nat.le_trans hzr (Nat.le_trans hs2' hs3')) (by have := hbel.size; simp at this; omega)
                  clear hrow hbel hgr m1 m2 k1 k2
                  refine hK.out _ _ ⟨n1, HN9.out⟩ (fun hHeld => ?_)
                  clear hK K
                  refine wpAnyH_take (i := 10) (oi := { dst := some 85, op := Op.fieldAddr 40 (Operand.tmp 6) 7, type := 0, pos := "rpc.go:178", after := #[{ on := 0, ground := Ground.phase }, { on := 1, ground := Ground.phase }, { on := 2, ground := Ground.phase }, { on := 3, ground := Ground.phase }, { on := 4, ground := Ground.phase }, { on := 5, ground := Ground.phase }, { on := 6, ground := Ground.phase }, { on := 7, ground := Ground.phase }, { on := 8, ground := Ground.phase }, { on := 9, ground := Ground.phase }], guard := none }) (v := ?v10) rfl (by kernel_rfl) (by kernel_rfl) (by kernel_rfl) (fun _ _ _ h => h) (Or.inl ⟨by rfl, ?hy10⟩) hHeld ?r10
                  case hy10 => (intro W hSW; (try dsimp only at hSW); go_simp; try (with_reducible rfl))
                  simp only [Act.put, List.setIfInBounds_toArray, List.set_cons_zero, List.set_cons_succ]
                  refine wpAnyH_take (i := 11) (oi := { dst := some 86, op := Op.fieldAddr 38 (Operand.tmp 85) 1, type := 0, pos := "rpc.go:178", after := #[{ on := 10, ground := Ground.data }, { on := 0, ground := Ground.phase }, { on := 1, ground := Ground.phase }, { on := 2, ground := Ground.phase }, { on := 3, ground := Ground.phase }, { on := 4, ground := Ground.phase }, { on := 5, ground := Ground.phase }, { on := 6, ground := Ground.phase }, { on := 7, ground := Ground.phase }, { on := 8, ground := Ground.phase }, { on := 9, ground := Ground.phase }], guard := none }) (v := ?v11) rfl (by kernel_rfl) (by kernel_rfl) (by kernel_rfl) (fun _ _ _ h => h) (Or.inl ⟨by rfl, ?hy11⟩) hHeld ?r11
                  case hy11 => (intro W hSW; (try dsimp only at hSW); go_simp; try (with_reducible rfl))
                  simp only [Act.put, List.setIfInBounds_toArray, List.set_cons_zero, List.set_cons_succ]
                  refine wpAnyH_done (by kernel_rfl) (sink_end (o := { dst := none, op := Op.store 36 (Operand.tmp 86) (Operand.tmp 84), type := 0, pos := "rpc.go:178", after := #[{ on := 11, ground := Ground.data }, { on := 9, ground := Ground.data }, { on := 9, ground := Ground.chain }, { on := 0, ground := Ground.phase }, { on := 1, ground := Ground.phase }, { on := 2, ground := Ground.phase }, { on := 3, ground := Ground.phase }, { on := 4, ground := Ground.phase }, { on := 5, ground := Ground.phase }, { on := 6, ground := Ground.phase }, { on := 7, ground := Ground.phase }, { on := 8, ground := Ground.phase }, { on := 9, ground := Ground.phase }], guard := none }) rfl fun K hK => ?_) _
                  go_simp
                  refine hK _ _ ?_
                  clear hK K
                  all_goals
                    clear hHeld
                    go_wp2
                    go_roundw
                    case rel =>
                      refine ⟨k + 1, by omega, by go_num, r3, acc ++ [⟨⟨nm.toArray⟩, vl⟩], .slice (some ⟨g, 0, none⟩) (acc.length + 1) cap, HU9.out.set8 hwp hpq hqt _, HSM5.out, ?_, by simp; omega, by simpa [World.setCell] using hz9, rdKeys_step hlt H0.out HKY.out HY.out⟩
                      exact HR9.out.same ⟨by simp [World.setCell], fun b hb _ => Below.heap_setCell _ ⟨q, 8, none⟩ _ _ (by show b ≠ q; omega)⟩
                    case measure => simp [intOf]; omega
                · have HYE := Kep.mk (rdKeys_end (.inl h0) HY.out)
                  have t0 : ((r.e : Int) != 0) = true := by simp [h0]
                  have t1 : ((r.e : Int) == 0) = false := by simp [h0]
                  clear h0
                  go_wp2_with fail
                  refine (end_any _ p r _ HU.out.rd HS.out.len HS.out.err).mono ?_
                  rintro e w7 ⟨rfl, hr7, hf7⟩
                  have HU7 := Lib.hid (HU.out.fr hwp hpq hqt hf7 hr7)
                  have HE7 : Hid (EnR Enc.key 89 z w7 (.slice ka acc.length kc) acc) := Lib.hid (HE.out.same ⟨hf7.size, fun b hb hl => hf7.block b hl (by show ¬ (b = p); omega)⟩)
                  have hacc : acc.length ≤ 100000 := by omega
                  clear hr7 hf7 HU HE
                  by_cases hfe : r.fin.e = 0
                  · have u0 : ((r.fin.e : Int) != 0) = false := by simp [hfe]
                    have u1 : ((r.fin.e : Int) == 0) = true := by simp [hfe]
                    have HPE := Kep.mk (unpPE_may HOE.out HYE.out hfe)
                    have HPP := Kep.mk (unpP_is HN1.out HDD.out HYE.out HPT.out)
                    have HTHN := Kep.mk (unpN_six HN1.out)
                    clear hfe
                    obtain ⟨y0, g0⟩ := blk_cell (i := 0) HU7.out.bx
                    obtain ⟨y1, g1⟩ := blk_cell (i := 1) HU7.out.bx
                    obtain ⟨y2, g2⟩ := blk_cell (i := 2) HU7.out.bx
                    obtain ⟨y3, g3⟩ := blk_cell (i := 3) HU7.out.bx
                    obtain ⟨y4, g4⟩ := blk_cell (i := 4) HU7.out.bx
                    obtain ⟨y5, g5⟩ := blk_cell (i := 5) HU7.out.bx
                    obtain ⟨y6, g6⟩ := blk_cell (i := 6) HU7.out.bx
                    obtain ⟨y7, g7⟩ := blk_cell (i := 7) HU7.out.bx
                    obtain ⟨y8, g8⟩ := blk_cell (i := 8) HU7.out.bx
                    obtain ⟨y9, g9⟩ := blk_cell (i := 9) HU7.out.bx
                    simp [rpC] at y0 y1 y2 y3 y4 y5 y6 y7 y8 y9
                    go_wp2_with fail
                    refine (mayp_any _ _ ⟨c, lf, s, ec, n, x, pt, ⟨D, acc, sq⟩⟩ _ _ _ HU7.out.d HE7.out.sle hacc).mono ?_
                    rintro e w8 ⟨rfl, hb8⟩
                    have HB8 := Lib.hid (HU7.out.ext hb8)
                    have HE8 := Lib.hid (HE7.out.ext hb8)
                    have HOUT : Hid (RB (fun b => w.heap.size < b) w8 (.slice da D.length dc) D ∧ SlE Enc.key (fun b => w.heap.size < b) w8 (.slice ka acc.length kc) acc) := Lib.hid ⟨HB8.out.d.weak fun b _ hb => by omega, SlE.weak HE8.out.sle fun b _ hb => by omega⟩
                    clear hb8 HU7 HE7
                    clear y0 g0 y1 g1 y2 g2 y3 g3 y4 g4 y5 g5 y6 g6 y7 g7 y8 g8 y9 g9
                    obtain ⟨y0, g0⟩ := blk_cell (i := 0) HB8.out.bx
                    obtain ⟨y1, g1⟩ := blk_cell (i := 1) HB8.out.bx
                    obtain ⟨y2, g2⟩ := blk_cell (i := 2) HB8.out.bx
                    obtain ⟨y3, g3⟩ := blk_cell (i := 3) HB8.out.bx
                    obtain ⟨y4, g4⟩ := blk_cell (i := 4) HB8.out.bx
                    obtain ⟨y5, g5⟩ := blk_cell (i := 5) HB8.out.bx
                    obtain ⟨y6, g6⟩ := blk_cell (i := 6) HB8.out.bx
                    obtain ⟨y7, g7⟩ := blk_cell (i := 7) HB8.out.bx
                    obtain ⟨y8, g8⟩ := blk_cell (i := 8) HB8.out.bx
                    obtain ⟨y9, g9⟩ := blk_cell (i := 9) HB8.out.bx
                    simp [rpC] at y0 y1 y2 y3 y4 y5 y6 y7 y8 y9
                    obtain ⟨x0, f0⟩ := blk_cell (i := 0) HB8.out.rr
                    obtain ⟨x1, f1⟩ := blk_cell (i := 1) HB8.out.rr
                    obtain ⟨x2, f2⟩ := blk_cell (i := 2) HB8.out.rr
                    obtain ⟨x3, f3⟩ := blk_cell (i := 3) HB8.out.rr
                    obtain ⟨x4, f4⟩ := blk_cell (i := 4) HB8.out.rr
                    obtain ⟨x5, f5⟩ := blk_cell (i := 5) HB8.out.rr
                    obtain ⟨x6, f6⟩ := blk_cell (i := 6) HB8.out.rr
                    obtain ⟨x7, f7⟩ := blk_cell (i := 7) HB8.out.rr
                    obtain ⟨x8, f8⟩ := blk_cell (i := 8) HB8.out.rr
                    obtain ⟨x9, f9⟩ := blk_cell (i := 9) HB8.out.rr
                    simp [rpZ, rpC, RpD.none, ObD.none] at x0 x1 x2 x3 x4 x5 x6 x7 x8 x9
                    obtain ⟨t0, -⟩ := blk_cell (i := 0) HB8.out.t
                    simp at t0
                    cases hm : mayRP ⟨(c : Int), (lf : Int), (s : Int), (ec : Int), (n : Int), (x : Int), pt, ⟨D, acc, (sq : Int)⟩⟩ with
                    | true =>
                      by_cases hth : th ≤ 1
                      · have HEQ := Kep.mk (unpB_yes HPE.out HPP.out HTHN.out hm hth)
                        have v1 := nlt1 hth
                        clear hm hth
                        go_wp2
                        (try simp only [Exit.inBlock, Exit.then])
                        refine bodyPost_ret (results_cell_tmp_row rfl _ _ w.heap.size 40 _ (0, 0) _ rfl (set10_blk HB8.out.rr) Tryz.underlying40 rfl (by kernel_rfl)) rfl ?_
                        rw [HEQ.out]
                        exact ⟨_, _, rfl, (HOUT.out.1.mono (same10 (A := fun b => w.heap.size < b) (fun h => Nat.lt_irrefl _ h))).weak fun b _ hb => Nat.le_of_lt hb, SlE.weak (SlE.mono HOUT.out.2 (same10 (A := fun b => w.heap.size < b) (fun h => Nat.lt_irrefl _ h))) fun b _ hb => Nat.le_of_lt hb, below10 HB8.out.b (Nat.le_refl _)⟩
                      · have HEQ := Kep.mk (unpB_big HPE.out HTHN.out hth)
                        have v1 := lt1 hth
                        clear hm hth
                        go_wp2
                        (try simp only [Exit.inBlock, Exit.then])
                        refine bodyPost_ret (results_cell_tmp_row rfl _ _ w.heap.size 40 _ (0, 0) _ rfl (set10_blk HB8.out.rr) Tryz.underlying40 rfl (by kernel_rfl)) rfl ?_
                        exact UnpR.no HEQ.out (below10 HB8.out.b (Nat.le_refl _))
                    | false =>
                      have HEQ := Kep.mk (unpB_not HPE.out HPP.out hm)
                      clear hm
                      go_wp2
                      (try simp only [Exit.inBlock, Exit.then])
                      refine bodyPost_ret (results_cell_tmp_row rfl _ _ w.heap.size 40 _ (0, 0) _ rfl (set10_blk HB8.out.rr) Tryz.underlying40 rfl (by kernel_rfl)) rfl ?_
                      exact UnpR.no HEQ.out (below10 HB8.out.b (Nat.le_refl _))
                  · have u0 : ((r.fin.e : Int) != 0) = true := by simp [hfe]
                    have u1 : ((r.fin.e : Int) == 0) = false := by simp [hfe]
                    have HEQ := Kep.mk (unpB_fin HOE.out HYE.out hfe)
                    have HB8 := HU7
                    clear hfe
                    obtain ⟨x0, f0⟩ := blk_cell (i := 0) HB8.out.rr
                    obtain ⟨x1, f1⟩ := blk_cell (i := 1) HB8.out.rr
                    obtain ⟨x2, f2⟩ := blk_cell (i := 2) HB8.out.rr
                    obtain ⟨x3, f3⟩ := blk_cell (i := 3) HB8.out.rr
                    obtain ⟨x4, f4⟩ := blk_cell (i := 4) HB8.out.rr
                    obtain ⟨x5, f5⟩ := blk_cell (i := 5) HB8.out.rr
                    obtain ⟨x6, f6⟩ := blk_cell (i := 6) HB8.out.rr
                    obtain ⟨x7, f7⟩ := blk_cell (i := 7) HB8.out.rr
                    obtain ⟨x8, f8⟩ := blk_cell (i := 8) HB8.out.rr
                    obtain ⟨x9, f9⟩ := blk_cell (i := 9) HB8.out.rr
                    simp [rpZ, rpC, RpD.none, ObD.none] at x0 x1 x2 x3 x4 x5 x6 x7 x8 x9
                    go_wp2
                    (try simp only [Exit.inBlock, Exit.then])
                    refine bodyPost_ret (results_cell_tmp_row rfl _ _ w.heap.size 40 _ (0, 0) _ rfl (set10_blk HB8.out.rr) Tryz.underlying40 rfl (by kernel_rfl)) rfl ?_
                    exact UnpR.no HEQ.out (below10 HB8.out.b (Nat.le_refl _))
              · obtain rfl : k = nk := by omega
                have HYE := Kep.mk (rdKeys_end (.inr rfl) HY.out)
                clear hlt
                go_wp2_with fail
                refine (end_any _ p r _ HU.out.rd HS.out.len HS.out.err).mono ?_
                rintro e w7 ⟨rfl, hr7, hf7⟩
                have HU7 := Lib.hid (HU.out.fr hwp hpq hqt hf7 hr7)
                have HE7 : Hid (EnR Enc.key 89 z w7 (.slice ka acc.length kc) acc) := Lib.hid (HE.out.same ⟨hf7.size, fun b hb hl => hf7.block b hl (by show ¬ (b = p); omega)⟩)
                have hacc : acc.length ≤ 100000 := by omega
                clear hr7 hf7 HU HE
                by_cases hfe : r.fin.e = 0
                · have u0 : ((r.fin.e : Int) != 0) = false := by simp [hfe]
                  have u1 : ((r.fin.e : Int) == 0) = true := by simp [hfe]
                  have HPE := Kep.mk (unpPE_may HOE.out HYE.out hfe)
                  have HPP := Kep.mk (unpP_is HN1.out HDD.out HYE.out HPT.out)
                  have HTHN := Kep.mk (unpN_six HN1.out)
                  clear hfe
                  obtain ⟨y0, g0⟩ := blk_cell (i := 0) HU7.out.bx
                  obtain ⟨y1, g1⟩ := blk_cell (i := 1) HU7.out.bx
                  obtain ⟨y2, g2⟩ := blk_cell (i := 2) HU7.out.bx
                  obtain ⟨y3, g3⟩ := blk_cell (i := 3) HU7.out.bx
                  obtain ⟨y4, g4⟩ := blk_cell (i := 4) HU7.out.bx
                  obtain ⟨y5, g5⟩ := blk_cell (i := 5) HU7.out.bx
                  obtain ⟨y6, g6⟩ := blk_cell (i := 6) HU7.out.bx
                  obtain ⟨y7, g7⟩ := blk_cell (i := 7) HU7.out.bx
                  obtain ⟨y8, g8⟩ := blk_cell (i := 8) HU7.out.bx
                  obtain ⟨y9, g9⟩ := blk_cell (i := 9) HU7.out.bx
                  simp [rpC] at y0 y1 y2 y3 y4 y5 y6 y7 y8 y9
                  go_wp2_with fail
                  refine (mayp_any _ _ ⟨c, lf, s, ec, n, x, pt, ⟨D, acc, sq⟩⟩ _ _ _ HU7.out.d HE7.out.sle hacc).mono ?_
                  rintro e w8 ⟨rfl, hb8⟩
                  have HB8 := Lib.hid (HU7.out.ext hb8)
                  have HE8 := Lib.hid (HE7.out.ext hb8)
                  have HOUT : Hid (RB (fun b => w.heap.size < b) w8 (.slice da D.length dc) D ∧ SlE Enc.key (fun b => w.heap.size < b) w8 (.slice ka acc.length kc) acc) := Lib.hid ⟨HB8.out.d.weak fun b _ hb => by omega, SlE.weak HE8.out.sle fun b _ hb => by omega⟩
                  clear hb8 HU7 HE7
                  clear y0 g0 y1 g1 y2 g2 y3 g3 y4 g4 y5 g5 y6 g6 y7 g7 y8 g8 y9 g9
                  obtain ⟨y0, g0⟩ := blk_cell (i := 0) HB8.out.bx
                  obtain ⟨y1, g1⟩ := blk_cell (i := 1) HB8.out.bx
                  obtain ⟨y2, g2⟩ := blk_cell (i := 2) HB8.out.bx
                  obtain ⟨y3, g3⟩ := blk_cell (i := 3) HB8.out.bx
                  obtain ⟨y4, g4⟩ := blk_cell (i := 4) HB8.out.bx
                  obtain ⟨y5, g5⟩ := blk_cell (i := 5) HB8.out.bx
                  obtain ⟨y6, g6⟩ := blk_cell (i := 6) HB8.out.bx
                  obtain ⟨y7, g7⟩ := blk_cell (i := 7) HB8.out.bx
                  obtain ⟨y8, g8⟩ := blk_cell (i := 8) HB8.out.bx
                  obtain ⟨y9, g9⟩ := blk_cell (i := 9) HB8.out.bx
                  simp [rpC] at y0 y1 y2 y3 y4 y5 y6 y7 y8 y9
                  obtain ⟨x0, f0⟩ := blk_cell (i := 0) HB8.out.rr
                  obtain ⟨x1, f1⟩ := blk_cell (i := 1) HB8.out.rr
                  obtain ⟨x2, f2⟩ := blk_cell (i := 2) HB8.out.rr
                  obtain ⟨x3, f3⟩ := blk_cell (i := 3) HB8.out.rr
                  obtain ⟨x4, f4⟩ := blk_cell (i := 4) HB8.out.rr
                  obtain ⟨x5, f5⟩ := blk_cell (i := 5) HB8.out.rr
                  obtain ⟨x6, f6⟩ := blk_cell (i := 6) HB8.out.rr
                  obtain ⟨x7, f7⟩ := blk_cell (i := 7) HB8.out.rr
                  obtain ⟨x8, f8⟩ := blk_cell (i := 8) HB8.out.rr
                  obtain ⟨x9, f9⟩ := blk_cell (i := 9) HB8.out.rr
                  simp [rpZ, rpC, RpD.none, ObD.none] at x0 x1 x2 x3 x4 x5 x6 x7 x8 x9
                  obtain ⟨t0, -⟩ := blk_cell (i := 0) HB8.out.t
                  simp at t0
                  cases hm : mayRP ⟨(c : Int), (lf : Int), (s : Int), (ec : Int), (n : Int), (x : Int), pt, ⟨D, acc, (sq : Int)⟩⟩ with
                  | true =>
                    by_cases hth : th ≤ 1
                    · have HEQ := Kep.mk (unpB_yes HPE.out HPP.out HTHN.out hm hth)
                      have v1 := nlt1 hth
                      clear hm hth
                      go_wp2
                      (try simp only [Exit.inBlock, Exit.then])
                      refine bodyPost_ret (results_cell_tmp_row rfl _ _ w.heap.size 40 _ (0, 0) _ rfl (set10_blk HB8.out.rr) Tryz.underlying40 rfl (by kernel_rfl)) rfl ?_
                      rw [HEQ.out]
                      exact ⟨_, _, rfl, (HOUT.out.1.mono (same10 (A := fun b => w.heap.size < b) (fun h => Nat.lt_irrefl _ h))).weak fun b _ hb => Nat.le_of_lt hb, SlE.weak (SlE.mono HOUT.out.2 (same10 (A := fun b => w.heap.size < b) (fun h => Nat.lt_irrefl _ h))) fun b _ hb => Nat.le_of_lt hb, below10 HB8.out.b (Nat.le_refl _)⟩
                    · have HEQ := Kep.mk (unpB_big HPE.out HTHN.out hth)
                      have v1 := lt1 hth
                      clear hm hth
                      go_wp2
                      (try simp only [Exit.inBlock, Exit.then])
                      refine bodyPost_ret (results_cell_tmp_row rfl _ _ w.heap.size 40 _ (0, 0) _ rfl (set10_blk HB8.out.rr) Tryz.underlying40 rfl (by kernel_rfl)) rfl ?_
                      exact UnpR.no HEQ.out (below10 HB8.out.b (Nat.le_refl _))
                  | false =>
                    have HEQ := Kep.mk (unpB_not HPE.out HPP.out hm)
                    clear hm
                    go_wp2
                    (try simp only [Exit.inBlock, Exit.then])
                    refine bodyPost_ret (results_cell_tmp_row rfl _ _ w.heap.size 40 _ (0, 0) _ rfl (set10_blk HB8.out.rr) Tryz.underlying40 rfl (by kernel_rfl)) rfl ?_
                    exact UnpR.no HEQ.out (below10 HB8.out.b (Nat.le_refl _))
                · have u0 : ((r.fin.e : Int) != 0) = true := by simp [hfe]
                  have u1 : ((r.fin.e : Int) == 0) = false := by simp [hfe]
                  have HEQ := Kep.mk (unpB_fin HOE.out HYE.out hfe)
                  have HB8 := HU7
                  clear hfe
                  obtain ⟨x0, f0⟩ := blk_cell (i := 0) HB8.out.rr
                  obtain ⟨x1, f1⟩ := blk_cell (i := 1) HB8.out.rr
                  obtain ⟨x2, f2⟩ := blk_cell (i := 2) HB8.out.rr
                  obtain ⟨x3, f3⟩ := blk_cell (i := 3) HB8.out.rr
                  obtain ⟨x4, f4⟩ := blk_cell (i := 4) HB8.out.rr
                  obtain ⟨x5, f5⟩ := blk_cell (i := 5) HB8.out.rr
                  obtain ⟨x6, f6⟩ := blk_cell (i := 6) HB8.out.rr
                  obtain ⟨x7, f7⟩ := blk_cell (i := 7) HB8.out.rr
                  obtain ⟨x8, f8⟩ := blk_cell (i := 8) HB8.out.rr
                  obtain ⟨x9, f9⟩ := blk_cell (i := 9) HB8.out.rr
                  simp [rpZ, rpC, RpD.none, ObD.none] at x0 x1 x2 x3 x4 x5 x6 x7 x8 x9
                  go_wp2
                  (try simp only [Exit.inBlock, Exit.then])
                  refine bodyPost_ret (results_cell_tmp_row rfl _ _ w.heap.size 40 _ (0, 0) _ rfl (set10_blk HB8.out.rr) Tryz.underlying40 rfl (by kernel_rfl)) rfl ?_
                  exact UnpR.no HEQ.out (below10 HB8.out.b (Nat.le_refl _))
  · have hE : unpB l = (RpD.none, ((opnB l 2).2 : Int)) := by
      have h1 : unpPE l = ((opnB l 2).2 : Int) := if_pos h0
      unfold unpB
      rw [if_neg (by rw [h1]; omega), h1]
    refine (unp_no A v l _ w hx hl hT hg0 rfl h0).mono ?_
    rintro e w' ⟨rfl, hb⟩
    exact UnpR.no hE hb
end Go.Proofs.YtlgefkaafoidmaaGreatDoor
