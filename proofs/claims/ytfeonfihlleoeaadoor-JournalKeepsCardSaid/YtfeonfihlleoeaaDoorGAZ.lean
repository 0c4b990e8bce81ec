/- The walk of terrazzolaw20.filled. Plain facts of the document's example of a journal. -/
import Derived.Test.YtfeonfihlleoeaaDoorEf20
import Derived.Test.YtfeonfihlleoeaaDoorGAV
import Derived.Test.YtfeonfihlleoeaaDoorGAX
import Derived.Test.YtfeonfihlleoeaaDoorKfT
namespace Go.Proofs.YtfeonfihlleoeaaDoor
open Go.RowKit Go.WideShapes
attribute [local go_sem ↓] Go.wp_at_zero Go.wp_at_succ

/-- an entry with the number of its place -/
def sqE (k : Nat) (e : EnD) : EnD := { e with seq := (k : Int) + 1 }
/-- the object behind the first entries, and whether it is there -/
def filO (l : List EnD) : Nat → ObD × Bool
  | 0 => (ObD.none, false)
  | k + 1 => let r := txDo (filO l k).1 (filO l k).2 (appT 0 (sqE k (l.getD k EnD.none)))
    (r.o, r.there)
/-- each entry is taken -/
structure FilH (l : List EnD) : Prop where
  mk ::
  len : l.length ≤ 1000
  may : ∀ k, k < l.length → mayE (sqE k (l.getD k EnD.none)) = true
  ok : ∀ k, k < l.length → (txDo (filO l k).1 (filO l k).2 (appT 0 (sqE k (l.getD k EnD.none)))).e = 0
  keys : ∀ k, k ≤ l.length → (filO l k).1.keys.length ≤ 1000
  dat : ∀ k, k < l.length → (l.getD k EnD.none).data.length ≤ 2000
theorem rtdo_st20 (K0 : Nat) (_A B : Nat → Prop) (v va : Value) (o : ObD) (th : Bool) (t : TxD) (w : World) (hv : ObF K0 w v o) (ho : o.keys.length ≤ 100000) (h : SlE Enc.op B w va t.ops) (hop : ∀ op ∈ t.ops, op.data.length ≤ 50000) (hkd : ∀ op ∈ t.ops, op.kind = 4 ∨ op.kind = 9 ∨ op.kind = 10 ∨ op.kind = 12) (hK0 : K0 ≤ w.heap.size) :
    Calls Tryd.prog 26 #[v, .bool th, .agg #[.string t.obj, va]] w fun e w' => ∃ da dc ka kc, e = .returned (.tuple #[.agg #[.slice da (txDo o th t).o.data.length dc, .slice ka (txDo o th t).o.keys.length kc, .int .i64 (txDo o th t).o.seq], .bool (txDo o th t).there, .int .i64 (txDo o th t).e]) ∧
      ObF K0 w' (.agg #[.slice da (txDo o th t).o.data.length dc, .slice ka (txDo o th t).o.keys.length kc, .int .i64 (txDo o th t).o.seq]) (txDo o th t).o ∧ Below w.heap.size w w' := by
  refine (rtdo_kf K0 (fun _ => True) B v va o th t w hv.ob ho h hop hkd hv.kf hK0).mono ?_
  rintro e w' ⟨dv, kv, rfl, hf, hb⟩
  obtain ⟨d2, k2, e2, hd, hk⟩ := hf.ob
  simp only [Value.agg.injEq, Array.mk.injEq, List.cons.injEq, and_true] at e2
  obtain ⟨rfl, rfl⟩ := e2
  obtain ⟨da, dc, rfl⟩ := hd.shape
  obtain ⟨ka, kc, rfl⟩ := hk.shape
  exact ⟨da, dc, ka, kc, rfl, hf, hb⟩
theorem app_kinds {i : Int} {e : EnD} : ∀ op ∈ (appT i e).ops, op.kind = 4 ∨ op.kind = 9 ∨ op.kind = 10 ∨ op.kind = 12 := by
  intro op ho
  unfold appT at ho
  split at ho
  · unfold appL at ho
    simp only [List.mem_append, List.mem_cons, List.not_mem_nil, or_false] at ho
    rcases ho with ((rfl | rfl) | ho) | rfl
    · exact .inl rfl
    · exact .inr (.inl rfl)
    · split at ho
      · cases List.mem_singleton.1 ho
        exact .inr (.inr (.inl rfl))
      · cases ho
    · exact .inr (.inr (.inr rfl))
  · cases ho
theorem pkE_len (e : EnD) : (pkE e).length ≤ e.data.length + 100 := by
  unfold pkE
  split
  · rw [frm_length, bodyE_len]
    have : (clE e).data.length ≤ e.data.length := by
      simp only [clE]
      split
      · exact Nat.le_refl _
      · exact Nat.zero_le _
    omega
  · exact Nat.zero_le _
theorem app_small {i : Int} {e : EnD} : ∀ op ∈ (appT i e).ops, op.data.length ≤ e.data.length + 100 := by
  intro op ho
  have hp := pkE_len e
  unfold appT at ho
  split at ho
  · unfold appL at ho
    simp only [List.mem_append, List.mem_cons, List.not_mem_nil, or_false] at ho
    rcases ho with ((rfl | rfl) | ho) | rfl
    · exact Nat.zero_le _
    · exact hp
    · split at ho
      · cases List.mem_singleton.1 ho
        exact Nat.zero_le _
      · cases ho
    · exact Nat.zero_le _
  · cases ho
/-- one entry of a row -/
theorem Ent.at {A : Nat → Prop} {w : World} {a : Option Addr} {n c : Nat} {l : List EnD} (h : SlE Enc.ent A w (.slice a n c) l) {i : Nat} (hi : i < l.length) :
    ∃ b off da dc, a = some ⟨b, off, none⟩ ∧ b < w.heap.size ∧ w.cell? ⟨b, off + i * 7, none⟩ = some (.int .i64 (l.getD i EnD.none).seq) ∧ w.cell? ⟨b, off + i * 7 + 1, none⟩ = some (.int .i64 (l.getD i EnD.none).owner) ∧ w.cell? ⟨b, off + i * 7 + 2, none⟩ = some (.int .i64 (l.getD i EnD.none).kind) ∧
      w.cell? ⟨b, off + i * 7 + 3, none⟩ = some (.int .i64 (l.getD i EnD.none).off) ∧ w.cell? ⟨b, off + i * 7 + 4, none⟩ = some (.int .i64 (l.getD i EnD.none).len) ∧ w.cell? ⟨b, off + i * 7 + 5, none⟩ = some (.int .i64 (l.getD i EnD.none).snap) ∧
      w.cell? ⟨b, off + i * 7 + 6, none⟩ = some (.slice da (l.getD i EnD.none).data.length dc) ∧ RB A w (.slice da (l.getD i EnD.none).data.length dc) (l.getD i EnD.none).data := by
  have hx : l[i]? = some (l.getD i EnD.none) := by simp [hi]
  obtain ⟨b, off, cap, cs, e, hb, hA, ⟨dv, rfl, hd⟩, hc⟩ := h.at hx
  simp only [Value.slice.injEq] at e
  obtain ⟨rfl, _, _⟩ := e
  obtain ⟨da, dc, rfl⟩ := hd.shape
  have e0 := hc 0 (by decide)
  have e1 := hc 1 (by decide)
  have e2 := hc 2 (by decide)
  have e3 := hc 3 (by decide)
  have e4 := hc 4 (by decide)
  have e5 := hc 5 (by decide)
  have e6 := hc 6 (by decide)
  simp only [Enc.ent, Nat.add_zero, List.getElem?_cons_zero, List.getElem?_cons_succ] at e0 e1 e2 e3 e4 e5 e6
  exact ⟨b, off, da, dc, rfl, hb, e0, by rw [Nat.add_assoc]; exact e1, by rw [Nat.add_assoc]; exact e2, by rw [Nat.add_assoc]; exact e3, by rw [Nat.add_assoc]; exact e4, by rw [Nat.add_assoc]; exact e5, by rw [Nat.add_assoc]; exact e6, hd⟩
/-- what the loop knows -/
structure FilI (l : List EnD) (w : World) (k : Nat) (W : World) : Prop where
  mk ::
  res : W.heap[w.heap.size]? = some (.cells #[.slice none 0 0, .slice none 0 0, .int .i64 0] 39 (0, 0))
  box : ∃ da dc ka kc, W.heap[w.heap.size + 1]? = some (.cells #[.slice da (filO l k).1.data.length dc, .slice ka (filO l k).1.keys.length kc, .int .i64 (filO l k).1.seq] 39 (0, 0)) ∧ ObF w.heap.size W (.agg #[.slice da (filO l k).1.data.length dc, .slice ka (filO l k).1.keys.length kc, .int .i64 (filO l k).1.seq]) (filO l k).1
  b : Below w.heap.size w W
def FilR (o : ObD) (w : World) (e : Ending) (w' : World) : Prop := ∃ v, e = .returned (.tuple #[v, .bool true]) ∧ ObF w.heap.size w' v o ∧ Below w.heap.size w w'
set_option maxRecDepth 100000 in
set_option maxHeartbeats 16000000 in
theorem filled_any (A : Nat → Prop) (v : Value) (l : List EnD) (w : World) (hv : SlE Enc.ent A w v l) (hL : LayW w) (hF : FilH l) : Calls Tryd.prog 13 #[v] w (FilR (filO l l.length).1 w) := by
  obtain ⟨la, lc, rfl⟩ := hv.shape
  have HV := Lib.hid hv
  have HL := Lib.hid hL
  have HF := Lib.hid hF
  have hlen := hF.len
  clear hv hL hF
  go_enter Tryd.func13, Tryd.ntmps13
  go_wp2
  obtain ⟨w0, hw0⟩ : ∃ w0, w0 = (w.alloc (.cells #[.slice none 0 0, .slice none 0 0, .int .i64 0] 39)).alloc (.cells #[.slice none 0 0, .slice none 0 0, .int .i64 0] 39) := ⟨_, rfl⟩
  rw [← hw0]
  have hI0 : FilI l w 0 w0 := by
    rw [hw0]
    refine ⟨dnew (heap_alloc_new _ _) _, ⟨none, 0, none, 0, heap_alloc2_new _ _ _, obf_none _⟩, by ((repeat' (first | exact Below.refl _ _ | refine below_drewN ?_ _ | refine Below.drew ?_ | refine Below.alloc ?_ ?_ _ | refine Below.trans ?_ (Below.mono (by assumption) ?_))); all_goals (first | exact Nat.le_refl _ | exact Below.size (by assumption) | omega | (simp; done) | (simp; omega)))⟩
  clear hw0
  go_loopw [5, 6] (fun q5 q6 wr => ∃ k : Nat, k ≤ l.length ∧ q5 = .bool (filO l k).2 ∧ q6 = .int .i64 k ∧ FilI l w k wr) (fun _ q6 _ => l.length - (intOf q6).toNat)
  case atStart => exact ⟨0, Nat.zero_le _, rfl, rfl, hI0⟩
  case round =>
    obtain ⟨k, hk, rfl, rfl, ⟨hres, ⟨oa, oc, ka, kc, hbox, hov⟩, hbw⟩⟩ := hrel
    by_cases hlt : k < l.length
    · obtain ⟨b, off, da, dc, rfl, hb, c0, c1, c2, c3, c4, c5, c6, hd⟩ := Ent.at (HV.out.ext hbw) hlt
      have hkl : (k : Int) < l.length := by omega
      have hk0 : (0 : Int) ≤ k := by omega
      have HD := Lib.hid hd
      have HRS := Lib.hid hres
      have HBX := Lib.hid hbox
      have HOV := Lib.hid hov
      have HB := Lib.hid hbw
      have HME := Lib.hid (HF.out.may k hlt)
      have HOK := Lib.hid (HF.out.ok k hlt)
      have HDT := Lib.hid (HF.out.dat k hlt)
      have HKY := Lib.hid (HF.out.keys k hk)
      have HNX : Hid (filO l (k + 1) = ((txDo (filO l k).1 (filO l k).2 (appT 0 (sqE k (l.getD k EnD.none)))).o, (txDo (filO l k).1 (filO l k).2 (appT 0 (sqE k (l.getD k EnD.none)))).there)) := Lib.hid rfl
      obtain ⟨x, hx⟩ : ∃ x, x = l.getD k EnD.none := ⟨_, rfl⟩
      rw [← hx] at c0 c1 c2 c3 c4 c5 c6 HD HME HOK HDT HNX
      obtain ⟨⟨O, th⟩, hO⟩ : ∃ O, O = filO l k := ⟨_, rfl⟩
      rw [← hO] at HBX HOV HKY HOK HNX
      rw [← hO]
      simp only at HBX HOV HKY HOK HNX ⊢
      clear hd hres hbox hov hbw hb hx hO hI0
      go_upto_region 7 with fail
      obtain ⟨w1, hw1⟩ : ∃ w1, w1 = wr.alloc (.cells #[.int .i64 x.seq, .int .i64 x.owner, .int .i64 x.kind, .int .i64 x.off, .int .i64 x.len, .int .i64 x.snap, .slice da x.data.length dc] 24) := ⟨_, rfl⟩
      rw [← hw1]
      have r1 : w1.heap[wr.heap.size]? = some (.cells #[.int .i64 x.seq, .int .i64 x.owner, .int .i64 x.kind, .int .i64 x.off, .int .i64 x.len, .int .i64 x.snap, .slice da x.data.length dc] 24 (0, 0)) := by rw [hw1]; exact heap_alloc_new _ _
      have hb1 : Below wr.heap.size wr w1 := by rw [hw1]; ((repeat' (first | exact Below.refl _ _ | refine below_drewN ?_ _ | refine Below.drew ?_ | refine Below.alloc ?_ ?_ _ | refine Below.trans ?_ (Below.mono (by assumption) ?_))); all_goals (first | exact Nat.le_refl _ | exact Below.size (by assumption) | omega | (simp; done) | (simp; omega)))
      obtain ⟨x0, f0⟩ := blk_cell (i := 0) r1
      simp at x0
      clear hw1
      go_upto_region 8 with fail
      obtain ⟨w2, hw2⟩ : ∃ w2, w2 = w1.setCell ⟨wr.heap.size, 0, none⟩ (.int .i64 ((k : Int) + 1)) := ⟨_, rfl⟩
      rw [← hw2]
      have r2 : w2.heap[wr.heap.size]? = some (.cells #[.int .i64 ((k : Int) + 1), .int .i64 x.owner, .int .i64 x.kind, .int .i64 x.off, .int .i64 x.len, .int .i64 x.snap, .slice da x.data.length dc] 24 (0, 0)) := by
        rw [hw2]; simp [World.setCell, Array.getElem?_modify, r1]
      have hb2 : Below wr.heap.size wr w2 := by rw [hw2]; exact hb1.setCell (Nat.le_refl _) _
      obtain ⟨y0, -⟩ := blk_cell (i := 0) r2
      obtain ⟨y1, -⟩ := blk_cell (i := 1) r2
      obtain ⟨y2, -⟩ := blk_cell (i := 2) r2
      obtain ⟨y3, -⟩ := blk_cell (i := 3) r2
      obtain ⟨y4, -⟩ := blk_cell (i := 4) r2
      obtain ⟨y5, -⟩ := blk_cell (i := 5) r2
      obtain ⟨y6, -⟩ := blk_cell (i := 6) r2
      simp at y0 y1 y2 y3 y4 y5 y6
      clear hw2 hb1 x0 f0 r1 c0 c1 c2 c3 c4 c5 c6
      have HCN : Hid (chkN (sqE k x) = 0) := Lib.hid (by unfold chkN; rw [if_pos HME.out])
      have hap : Calls Tryd.prog 7 #[.int .i64 0, enV (sqE k x) (.slice da x.data.length dc)] w2 (fun e w' => ∃ va vc, e = .returned (.tuple #[.agg #[.string (appT 0 (sqE k x)).obj, .slice va (appT 0 (sqE k x)).ops.length vc], .int .i64 0]) ∧ SlE Enc.op (fun b => w2.heap.size ≤ b) w' (.slice va (appT 0 (sqE k x)).ops.length vc) (appT 0 (sqE k x)).ops ∧ Below w2.heap.size w2 w') := by
        refine (jappend_any A 0 (sqE k x) da dc w2 (HD.out.ext hb2) (by have := HDT.out; show x.data.length ≤ _; omega) (HL.out.ext (dcall HB.out hb2))).mono ?_
        rintro e w' ⟨va, vc, rfl, h⟩
        rw [HCN.out]
        exact ⟨va, vc, rfl, h⟩
      have HB2 := Lib.hid hb2
      clear hb2 r2
      obtain ⟨T, hT⟩ : ∃ T, T = appT 0 (sqE k x) := ⟨_, rfl⟩
      have HTT := Lib.hid hT
      rw [← hT] at hap HOK HNX
      clear hT
      obtain ⟨tn, tl⟩ := T
      (try simp only at hap)
      go_wp2_with fail
      refine hap.mono ?_
      clear hap
      rintro e w3 ⟨va, vc, rfl, hops, hb3⟩
      have HOPS := Lib.hid hops
      have HB3 := Lib.hid (dcall HB2.out hb3)
      clear hops hb3 y0 y1 y2 y3 y4 y5 y6
      go_upto_region 11 with fail
      obtain ⟨w4, hw4⟩ : ∃ w4, w4 = w3.alloc (.cells #[.string tn, .slice va tl.length vc] 28) := ⟨_, rfl⟩
      rw [← hw4]
      have r4 : w4.heap[w3.heap.size]? = some (.cells #[.string tn, .slice va tl.length vc] 28 (0, 0)) := by rw [hw4]; exact heap_alloc_new _ _
      have hb34 : Below w3.heap.size w3 w4 := by rw [hw4]; ((repeat' (first | exact Below.refl _ _ | refine below_drewN ?_ _ | refine Below.drew ?_ | refine Below.alloc ?_ ?_ _ | refine Below.trans ?_ (Below.mono (by assumption) ?_))); all_goals (first | exact Nat.le_refl _ | exact Below.size (by assumption) | omega | (simp; done) | (simp; omega)))
      have hb4 : Below wr.heap.size wr w4 := dcall HB3.out hb34
      have HO4 := Lib.hid (HOPS.out.ext hb34)
      have HOV4 := Lib.hid (HOV.out.ext hb4)
      have HBX4 := Lib.hid (dblk hb4 HBX.out)
      have HRS4 := Lib.hid (dblk hb4 HRS.out)
      obtain ⟨z0, -⟩ := blk_cell (i := 0) HBX4.out
      obtain ⟨z1, -⟩ := blk_cell (i := 1) HBX4.out
      obtain ⟨z2, -⟩ := blk_cell (i := 2) HBX4.out
      obtain ⟨u0, -⟩ := blk_cell (i := 0) r4
      obtain ⟨u1, -⟩ := blk_cell (i := 1) r4
      simp at z0 z1 z2 u0 u1
      have HB4 := Lib.hid hb4
      have HSM : Hid (∀ op ∈ tl, op.data.length ≤ 50000) := Lib.hid fun op ho => by
        have h := app_small (i := 0) (e := sqE k x) op (by rw [← HTT.out]; exact ho)
        have := HDT.out
        have h2 : (sqE k x).data.length = x.data.length := rfl
        omega
      have HKN : Hid (∀ op ∈ tl, op.kind = 4 ∨ op.kind = 9 ∨ op.kind = 10 ∨ op.kind = 12) := Lib.hid fun op ho => app_kinds (i := 0) (e := sqE k x) op (by rw [← HTT.out]; exact ho)
      clear hw4 r4 hb34 hb4 HB3 HOPS HOV HBX HRS HB2 HTT
      go_wp2_with fail
      refine (rtdo_st20 w.heap.size (fun _ => True) _ _ _ O th ⟨tn, tl⟩ w4 HOV4.out (by have := HKY.out; omega) HO4.out HSM.out HKN.out (dcall HB.out HB4.out).size).mono ?_
      obtain ⟨X, hX⟩ : ∃ X, X = txDo O th ⟨tn, tl⟩ := ⟨_, rfl⟩
      rw [← hX] at HOK HNX ⊢
      clear hX HO4 HSM
      obtain ⟨Xo, Xt, Xe⟩ := X
      obtain rfl : Xe = 0 := HOK.out
      rintro e w5 ⟨na, nc, ma, mc, rfl, hov5, hb5⟩
      have HOV5 := Lib.hid hov5
      have HBX5 := Lib.hid (dblk hb5 HBX4.out)
      have HRS5 := Lib.hid (dblk hb5 HRS4.out)
      have HB5 := Lib.hid (dcall HB4.out hb5)
      clear hov5 hb5 HBX4 HRS4 HB4 HOV4 z0 z1 z2 u0 u1
      go_upto_region 14 with fail
      obtain ⟨w6, hw6⟩ : ∃ w6, w6 = w5.alloc (.cells #[.slice na Xo.data.length nc, .slice ma Xo.keys.length mc, .int .i64 Xo.seq] 39) := ⟨_, rfl⟩
      rw [← hw6]
      have r6 : w6.heap[w5.heap.size]? = some (.cells #[.slice na Xo.data.length nc, .slice ma Xo.keys.length mc, .int .i64 Xo.seq] 39 (0, 0)) := by rw [hw6]; exact heap_alloc_new _ _
      have hb56 : Below w5.heap.size w5 w6 := by rw [hw6]; ((repeat' (first | exact Below.refl _ _ | refine below_drewN ?_ _ | refine Below.drew ?_ | refine Below.alloc ?_ ?_ _ | refine Below.trans ?_ (Below.mono (by assumption) ?_))); all_goals (first | exact Nat.le_refl _ | exact Below.size (by assumption) | omega | (simp; done) | (simp; omega)))
      have hb6 : Below w.heap.size w w6 := dcall HB.out (dcall HB5.out hb56)
      have hbx := dblk hb56 HBX5.out
      have hrs := dblk hb56 HRS5.out
      have hov := HOV5.out.ext hb56
      obtain ⟨q0, -⟩ := blk_cell (i := 0) r6
      obtain ⟨q1, -⟩ := blk_cell (i := 1) r6
      obtain ⟨q2, -⟩ := blk_cell (i := 2) r6
      simp at q0 q1 q2
      obtain ⟨z0, g0⟩ := blk_cell (i := 0) hbx
      obtain ⟨z1, g1⟩ := blk_cell (i := 1) hbx
      obtain ⟨z2, g2⟩ := blk_cell (i := 2) hbx
      simp at z0 z1 z2
      have hbl := (Array.getElem?_eq_some_iff.1 hbx).1
      obtain ⟨w7, hw7⟩ : ∃ w7, w7 = ((w6.setCell ⟨w.heap.size + 1, 0, none⟩ (.slice na Xo.data.length nc)).setCell ⟨w.heap.size + 1, 1, none⟩ (.slice ma Xo.keys.length mc)).setCell ⟨w.heap.size + 1, 2, none⟩ (.int .i64 Xo.seq) := ⟨_, rfl⟩
      have hp := set3_past (w := w6) (p := w.heap.size + 1) (.slice na Xo.data.length nc) (.slice ma Xo.keys.length mc) (.int .i64 Xo.seq)
      have HI : Hid (FilI l w (k + 1) w7) := Lib.hid (by
        have e1 : (filO l (k + 1)).1 = Xo := by rw [HNX.out]
        refine ⟨by rw [hw7]; exact (set3_ne _ _ _ _ _ (by omega)).trans hrs, ?_, by rw [hw7]; exact below3 hb6 (by omega) _ _ _⟩
        rw [e1]
        exact ⟨na, nc, ma, mc, by rw [hw7]; exact set3_blk hbx, by rw [hw7]; exact hov.set3 hbx (boxO3 _ _ _ _ _ _ _)⟩)
      have HW7 := Lib.hid hw7
      have HN2 : Hid ((filO l (k + 1)).2 = Xt) := Lib.hid (by rw [HNX.out])
      clear hw7 hp hw6 r6 hb56 hb6 hbx hrs hov HB5 HBX5 HRS5 HOV5 HNX hbl
      go_wp2
      rw [← HW7.out]
      go_round
      case rel => exact ⟨k + 1, by omega, by rw [HN2.out], by go_num, HI.out⟩
      case measure => simp [intOf]; omega
    · obtain rfl : k = l.length := by omega
      obtain ⟨z0, -⟩ := blk_cell (i := 0) hbox
      obtain ⟨z1, -⟩ := blk_cell (i := 1) hbox
      obtain ⟨z2, -⟩ := blk_cell (i := 2) hbox
      obtain ⟨q0, g0⟩ := blk_cell (i := 0) hres
      obtain ⟨q1, g1⟩ := blk_cell (i := 1) hres
      obtain ⟨q2, g2⟩ := blk_cell (i := 2) hres
      simp at z0 z1 z2 q0 q1 q2
      have HRS := Lib.hid hres
      have HOV := Lib.hid hov
      have HB := Lib.hid hbw
      have hbl := (Array.getElem?_eq_some_iff.1 hres).1
      clear hres hov hbw hbox hI0
      go_wp2
      refine bodyPost_ret (results_cell_w1 rfl _ _ w.heap.size 39 _ (0, 0) _ rfl (set3_blk HRS.out) Tryd.underlying39 rfl (by kernel_rfl)) rfl ?_
      have hp := set3_past (w := wr) (p := w.heap.size) (.slice oa (filO l l.length).1.data.length oc) (.slice ka (filO l l.length).1.keys.length kc) (.int .i64 (filO l l.length).1.seq)
      exact ⟨_, rfl, HOV.out.set3 HRS.out (boxO3 _ _ _ _ _ _ _), below3 HB.out (Nat.le_refl _) _ _ _⟩
end Go.Proofs.YtfeonfihlleoeaaDoor
namespace Go.Proofs.YtfeonfihlleoeaaDoor
open Go.RowKit Go.WideShapes

def snE : EnD := ⟨0, 0, 4, 0, 0, 0, []⟩
def l3E : List EnD := [snE, snE, snE]
/-- the first byte, its last bit turned -/
def flip0 : List UInt8 → List UInt8
  | [] => []
  | b :: l => (b ^^^ 1) :: l
def oA : ObD := (filO l3E 3).1
def oB : ObD := { oA with keys := oA.keys.set 1 ⟨(oA.keys.getD 1 ⟨ByteArray.empty, []⟩).name, flip0 (oA.keys.getD 1 ⟨ByteArray.empty, []⟩).value⟩ }
set_option maxRecDepth 1000000 in
theorem l3_fil : FilH l3E where
  len := by decide
  may := by
    intro k hk
    have : k = 0 ∨ k = 1 ∨ k = 2 := by simp [l3E] at hk; omega
    rcases this with rfl | rfl | rfl <;> exact of_decide_eq_true (by kernel_rfl)
  ok := by
    intro k hk
    have : k = 0 ∨ k = 1 ∨ k = 2 := by simp [l3E] at hk; omega
    rcases this with rfl | rfl | rfl <;> exact of_decide_eq_true (by kernel_rfl)
  keys := by
    intro k hk
    have : k = 0 ∨ k = 1 ∨ k = 2 ∨ k = 3 := by simp [l3E] at hk; omega
    rcases this with rfl | rfl | rfl | rfl <;> exact of_decide_eq_true (by kernel_rfl)
  dat := by
    intro k hk
    have : k = 0 ∨ k = 1 ∨ k = 2 := by simp [l3E] at hk; omega
    rcases this with rfl | rfl | rfl <;> exact of_decide_eq_true (by kernel_rfl)
set_option maxRecDepth 1000000 in
theorem oA_len : oA.keys.length = 3 := of_decide_eq_true (by kernel_rfl)
theorem oA_seq : oA.seq = 3 := of_decide_eq_true (by kernel_rfl)
theorem oA_dat : oA.data = [] := of_decide_eq_true (by kernel_rfl)
theorem oA_val : ∀ k ∈ oA.keys, k.value.length ≤ 1000 := of_decide_eq_true (by kernel_rfl)
theorem oA_one : 0 < (oA.keys.getD 1 ⟨ByteArray.empty, []⟩).value.length := of_decide_eq_true (by kernel_rfl)
theorem oB_val : ∀ k ∈ oB.keys, k.value.length ≤ 1000 := of_decide_eq_true (by kernel_rfl)
theorem oA_load : (loadL oA 1).length = 2 := of_decide_eq_true (by kernel_rfl)
theorem oA_first : ((loadL oA 1).getD 0 EnD.none).seq = 2 := of_decide_eq_true (by kernel_rfl)
theorem oB_load : (loadL oB 0).length = 1 := of_decide_eq_true (by kernel_rfl)
/-- the example's parts -/
structure ExO (k0 k1 k2 : KyD) : Prop where
  mk ::
  is : oA = ⟨[], [k0, k1, k2], 3⟩
  one : 0 < k1.value.length
  val : ∀ k ∈ [k0, k1, k2], k.value.length ≤ 1000
  val2 : ∀ k ∈ [k0, ⟨k1.name, flip0 k1.value⟩, k2], k.value.length ≤ 1000
  two : (loadL ⟨[], [k0, k1, k2], 3⟩ 1).length = 2
  first : ((loadL ⟨[], [k0, k1, k2], 3⟩ 1).getD 0 EnD.none).seq = 2
  less : (loadL ⟨[], [k0, ⟨k1.name, flip0 k1.value⟩, k2], 3⟩ 0).length = 1
theorem oA_parts : ∃ k0 k1 k2, ExO k0 k1 k2 := by
  obtain ⟨k0, k1, k2, hk⟩ : ∃ k0 k1 k2, oA.keys = [k0, k1, k2] := by
    have h := oA_len
    match oA.keys, h with
    | [a, b, c], _ => exact ⟨a, b, c, rfl⟩
  have ho : oA = ⟨[], [k0, k1, k2], 3⟩ := by
    rw [← hk, ← oA_dat, ← oA_seq]
  have hb : oB = ⟨[], [k0, ⟨k1.name, flip0 k1.value⟩, k2], 3⟩ := by
    unfold oB
    rw [ho]
    rfl
  refine ⟨k0, k1, k2, ho, ?_, ?_, ?_, ?_, ?_, ?_⟩
  · have := oA_one
    rw [hk] at this
    exact this
  · rw [← hk]; exact oA_val
  · have := oB_val
    rw [hb] at this
    exact this
  · rw [← ho]; exact oA_load
  · rw [← ho]; exact oA_first
  · rw [← hb]; exact oB_load
theorem j3_is : jrnS 3 = ⟨#[106, 51]⟩ := of_decide_eq_true (by kernel_rfl)
end Go.Proofs.YtfeonfihlleoeaaDoor
