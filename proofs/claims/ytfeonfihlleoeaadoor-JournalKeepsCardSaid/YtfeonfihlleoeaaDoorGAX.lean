/- What is read of an object stands where a box of two slices and a number is written. No function is named. The walk of terrazzoref09.Do. The row of keys that a call hands back may be written: what the second contracts need. (printed by gen_kf.py) -/
import Derived.Test.YtfeonfihlleoeaaDoorGAN
import Derived.Test.YtfeonfihlleoeaaDoorGAW
import Derived.Deep.RegionHeld3
namespace Go.Proofs.YtfeonfihlleoeaaDoor
open Go.RowKit Go.WideShapes

/-- a box of two slices and a number -/
def BoxO (cs : Array Value) : Prop := ∀ u ∈ cs, (∃ a n c, u = .slice a n c) ∨ (∃ s, u = .int .i64 s) ∨ ∃ b, u = .bool b
theorem boxO3 (a u : Option Addr) (n c m q : Nat) (s : Int) : BoxO #[.slice a n c, .slice u m q, .int .i64 s] := by
  intro x hx
  simp at hx
  rcases hx with rfl | rfl | rfl
  · exact .inl ⟨_, _, _, rfl⟩
  · exact .inl ⟨_, _, _, rfl⟩
  · exact .inr (.inl ⟨_, rfl⟩)
theorem boxO4 (a u : Option Addr) (n c m q : Nat) (s : Int) (b : Bool) : BoxO #[.slice a n c, .slice u m q, .int .i64 s, .bool b] := by
  intro x hx
  simp at hx
  rcases hx with rfl | rfl | rfl | rfl
  · exact .inl ⟨_, _, _, rfl⟩
  · exact .inl ⟨_, _, _, rfl⟩
  · exact .inr (.inl ⟨_, rfl⟩)
  · exact .inr (.inr ⟨_, rfl⟩)
theorem boxB (b : Bool) : BoxO #[.bool b] := by
  intro x hx
  simp at hx
  exact .inr (.inr ⟨_, hx⟩)
theorem boxI (s : Int) : BoxO #[.int .i64 s] := by
  intro x hx
  simp at hx
  exact .inr (.inl ⟨_, hx⟩)
theorem SlA.past {A : Nat → Prop} {w w' : World} {size n p : Nat} {v : Value} {xs : List Value} {cs : Array Value} {t : TypeId} (h : SlA A w size v n xs)
    (hp : w.heap[p]? = some (.cells cs t (0, 0))) (hx : ∀ u, xs[0]? = some u → u ∉ cs) (hs : w.heap.size ≤ w'.heap.size) (hb : ∀ b, b ≠ p → b < w.heap.size → w'.heap[b]? = w.heap[b]?) : SlA A w' size v n xs := by
  obtain ⟨h1, h2⟩ := h
  refine ⟨h1, h2.imp id ?_⟩
  rintro ⟨b, off, cap, rfl, hl, hA, hc, hcell⟩
  refine ⟨b, off, cap, rfl, by omega, hA, hc, fun j hj => ?_⟩
  have hne : b ≠ p := by
    rintro rfl
    have h0 := hcell 0 (by omega)
    have hx0 : 0 < xs.length := by omega
    have e0 : xs[0]? = some xs[0] := List.getElem?_eq_getElem hx0
    rw [(blk_cell hp).1, e0] at h0
    exact hx _ e0 (Array.mem_of_getElem? h0)
  rw [← hcell j hj]
  exact World.cell?_of_block (hb b hne hl)
theorem RB.past {A : Nat → Prop} {w w' : World} {p : Nat} {v : Value} {l : List UInt8} {cs : Array Value} {t : TypeId} (h : RB A w v l)
    (hp : w.heap[p]? = some (.cells cs t (0, 0))) (hB : BoxO cs) (hs : w.heap.size ≤ w'.heap.size) (hb : ∀ b, b ≠ p → b < w.heap.size → w'.heap[b]? = w.heap[b]?) : RB A w' v l := by
  refine SlA.past h hp (fun u hu hm => ?_) hs hb
  have hmem := List.mem_of_getElem? hu
  obtain ⟨x, -, rfl⟩ := List.mem_map.1 hmem
  rcases hB _ hm with ⟨_, _, _, e⟩ | ⟨_, e⟩ | ⟨_, e⟩ <;> simp [bv] at e
theorem Keys.past {A : Nat → Prop} {w w' : World} {p : Nat} {v : Value} {l : List KyD} {cs : Array Value} {t : TypeId} (h : SlE Enc.key A w v l)
    (hp : w.heap[p]? = some (.cells cs t (0, 0))) (hB : BoxO cs) (hs : w.heap.size ≤ w'.heap.size) (hb : ∀ b, b ≠ p → b < w.heap.size → w'.heap[b]? = w.heap[b]?) : SlE Enc.key A w' v l := by
  obtain ⟨ks, h1, h2, h3⟩ := h.flat
  refine SlE.of_flat h1 (fun i x c hi hc => ?_) (h3.past hp (fun u hu hm => ?_) hs hb)
  · obtain ⟨v, e, hv⟩ := h2 i x c hi hc
    exact ⟨v, e, hv.past hp hB hs hb⟩
  · cases ks with
    | nil => simp at hu
    | cons c ks =>
      have hl : 0 < l.length := by rw [← h1]; simp
      obtain ⟨v, rfl, -⟩ := h2 0 l[0] c (List.getElem?_eq_getElem hl) rfl
      simp at hu
      subst hu
      rcases hB _ hm with ⟨_, _, _, e⟩ | ⟨_, e⟩ | ⟨_, e⟩ <;> cases e
theorem ObV.past {A : Nat → Prop} {w w' : World} {p : Nat} {v : Value} {o : ObD} {cs : Array Value} {t : TypeId} (h : ObV A w v o)
    (hp : w.heap[p]? = some (.cells cs t (0, 0))) (hB : BoxO cs) (hs : w.heap.size ≤ w'.heap.size) (hb : ∀ b, b ≠ p → b < w.heap.size → w'.heap[b]? = w.heap[b]?) : ObV A w' v o := by
  obtain ⟨dv, kv, rfl, hd, hk⟩ := h
  exact ⟨dv, kv, rfl, hd.past hp hB hs hb, Keys.past hk hp hB hs hb⟩
theorem owns_past {w w' : World} {base size n p : Nat} {e t : TypeId} {v : Value} {xs : List Value} {cs : Array Value} {fr : Nat × Nat} (h : w.ownsRow base e size v n xs)
    (hp : w.heap[p]? = some (.cells cs t fr)) (ht : t ≠ e) (hb : ∀ b, b ≠ p → b < w.heap.size → w'.heap[b]? = w.heap[b]?) : w'.ownsRow base e size v n xs := by
  refine owns_keep h fun g hg => hb g ?_ (h.lt g hg).2
  rintro rfl
  rcases h.2 with ⟨rfl, _⟩ | ⟨g', cap, cur, rfl, _, h2, _⟩
  · simp [Value.ownBlock] at hg
  · simp only [Value.ownBlock, Option.some.injEq] at hg
    subst hg
    rw [h2] at hp
    simp only [Option.some.injEq, Obj.cells.injEq] at hp
    exact ht hp.2.1.symm
theorem Own8.past {base p : Nat} {w w' : World} {dv kv : Value} {o : ObD} {cs : Array Value} {t : TypeId} (h : Own8 base w dv kv o)
    (hp : w.heap[p]? = some (.cells cs t (0, 0))) (ht1 : t ≠ 5) (ht2 : t ≠ 51) (hB : BoxO cs) (hs : w.heap.size ≤ w'.heap.size) (hb : ∀ b, b ≠ p → b < w.heap.size → w'.heap[b]? = w.heap[b]?) : Own8 base w' dv kv o := by
  obtain ⟨hd, ks, hk, hc⟩ := h
  refine ⟨owns_past hd hp ht1 hb, ks, owns_past hk hp ht2 hb, hc.len, fun i x c hi hci => ?_⟩
  obtain ⟨v, e, hv⟩ := hc.at_ i x c hi hci
  refine ⟨v, e, (hv.past hp hB hs hb).weak fun b _ h => ⟨h.1, h.2.1, h.2.2.1, ?_⟩⟩
  obtain ⟨c1, hc1⟩ := h.2.2.2
  refine U8.of_eq ⟨c1, hc1⟩ (hb b ?_ (Array.getElem?_eq_some_iff.1 hc1).1)
  rintro rfl
  rw [hc1] at hp
  simp only [Option.some.injEq, Obj.cells.injEq] at hp
  exact ht1 hp.2.1.symm
theorem set4_blk {w : World} {p : Nat} {t : TypeId} {a b c d x y z u : Value} (h : w.heap[p]? = some (.cells #[a, b, c, d] t (0, 0))) :
    ((((w.setCell ⟨p, 0, none⟩ x).setCell ⟨p, 1, none⟩ y).setCell ⟨p, 2, none⟩ z).setCell ⟨p, 3, none⟩ u).heap[p]? = some (.cells #[x, y, z, u] t (0, 0)) := by
  simp [World.setCell, Array.getElem?_modify, h]
theorem set4_past {w : World} {p : Nat} (x y z u : Value) : w.heap.size ≤ ((((w.setCell ⟨p, 0, none⟩ x).setCell ⟨p, 1, none⟩ y).setCell ⟨p, 2, none⟩ z).setCell ⟨p, 3, none⟩ u).heap.size ∧
    ∀ b, b ≠ p → b < w.heap.size → ((((w.setCell ⟨p, 0, none⟩ x).setCell ⟨p, 1, none⟩ y).setCell ⟨p, 2, none⟩ z).setCell ⟨p, 3, none⟩ u).heap[b]? = w.heap[b]? :=
  ⟨by simp [World.setCell], fun _ hb _ => (Below.heap_setCell _ _ _ _ hb).trans (set3_ne _ _ _ _ _ hb)⟩
theorem four_cells {w : World} {p : Nat} {a b c d : Value} {t : TypeId} (h : w.heap[p]? = some (.cells #[a, b, c, d] t (0, 0))) :
    (w.cell? ⟨p, 0, none⟩ = some a ∧ w.frozen? ⟨p, 0, none⟩ = false) ∧ (w.cell? ⟨p, 1, none⟩ = some b ∧ w.frozen? ⟨p, 1, none⟩ = false) ∧ (w.cell? ⟨p, 2, none⟩ = some c ∧ w.frozen? ⟨p, 2, none⟩ = false) ∧ (w.cell? ⟨p, 3, none⟩ = some d ∧ w.frozen? ⟨p, 3, none⟩ = false) := ⟨blk_cell h, blk_cell h, blk_cell h, blk_cell h⟩
theorem set3_past {w : World} {p : Nat} (x y z : Value) : w.heap.size ≤ (((w.setCell ⟨p, 0, none⟩ x).setCell ⟨p, 1, none⟩ y).setCell ⟨p, 2, none⟩ z).heap.size ∧
    ∀ b, b ≠ p → b < w.heap.size → (((w.setCell ⟨p, 0, none⟩ x).setCell ⟨p, 1, none⟩ y).setCell ⟨p, 2, none⟩ z).heap[b]? = w.heap[b]? :=
  ⟨by simp [World.setCell], fun _ hb _ => set3_ne _ _ _ _ _ hb⟩
end Go.Proofs.YtfeonfihlleoeaaDoor
namespace Go.Proofs.YtfeonfihlleoeaaDoor
open Go.RowKit Go.WideShapes

/-- what a call that does a transaction leaves -/
def TDoRR (x : TDoR) (w : World) (e : Ending) (w' : World) : Prop := ∃ dv kv, e = .returned (.tuple #[.agg #[dv, kv, .int .i64 x.o.seq], .bool x.there, .int .i64 x.e]) ∧ ObV (fun _ => True) w' (.agg #[dv, kv, .int .i64 x.o.seq]) x.o ∧ Below w.heap.size w w'
theorem TDoRR.no {c : Int} {x : TDoR} {w w' : World} (hx : x = TDoR.no c) (hb : Below w.heap.size w w') : TDoRR x w (.returned (.tuple #[.agg #[.slice none 0 0, .slice none 0 0, .int .i64 0], .bool false, .int .i64 c])) w' := by
  subst hx
  exact ⟨_, _, rfl, obv_none _ _, hb⟩
theorem TDoRR.ok {x : TDoR} {dv kv : Value} {o : ObD} {s : Int} {th : Bool} {w w' : World} (hx : x = ⟨o, th, 0⟩) (hv : ObV (fun _ => True) w' (.agg #[dv, kv, .int .i64 s]) o) (hb : Below w.heap.size w w') : TDoRR x w (.returned (.tuple #[.agg #[dv, kv, .int .i64 s], .bool th, .int .i64 0])) w' := by
  subst hx
  have hs : s = o.seq := by
    obtain ⟨_, _, e, _⟩ := hv
    simp at e
    exact e.2.2
  subst hs
  exact ⟨_, _, rfl, hv, hb⟩
theorem results_cell_t2 {P : Program} {fn : Func} {p u1 u2 : Tmp} {ty : TypeId} (h : fn.results = #[.cell p ty, .tmp u1, .tmp u2]) (tmps : Array Value) (w : World) (g : Nat) (t : TypeId) (cs : Array Value) (fr : Nat × Nat) (d : TypeDesc)
    (hp : tmps.getD p undef = .pointer (some ⟨g, 0, none⟩)) (hg : w.heap[g]? = some (.cells cs t fr))
    (hu : P.underlying ty = some d) (hd : (match d with | .struct _ | .array _ _ => true | _ => false) = true) (hi : (P.info? ty).map (·.size) = some cs.size) :
    (results fn tmps).run P w = .ok (.tuple #[.agg cs, tmps.getD u1 undef, tmps.getD u2 undef]) w := by
  have hp' : tmps[p]?.getD undef = .pointer (some ⟨g, 0, none⟩) := by simpa using hp
  simp [results, h, hp', asAddr, run_loadVar_row w g t ty cs fr d hg hu hd hi]
theorem drop_step {o : ObD} {th : Bool} {ops : List OpD} {k : Nat} (hk : k < ops.length) : runT o th (ops.drop k) = if (doB o th ops[k]).e = 0 then (if (doB o th ops[k]).on = true then runT (doB o th ops[k]).o (doB o th ops[k]).there (ops.drop (k + 1)) else ⟨(doB o th ops[k]).o, (doB o th ops[k]).there, 0⟩) else TDoR.no (doB o th ops[k]).e := by
  rw [List.drop_eq_getElem_cons hk]
  rfl
theorem txDo_chk {o : ObD} {th : Bool} {t : TxD} (h : txE t ≠ 0) : txDo o th t = TDoR.no (txE t) := by unfold txDo; rw [if_neg h]
theorem txDo_may {o : ObD} {th : Bool} {t : TxD} (h : txE t = 0) (hm : mayB o = false) : txDo o th t = TDoR.no 1 := by unfold txDo; rw [if_pos h, if_neg (by rw [hm]; decide)]
theorem txDo_run {o : ObD} {th : Bool} {t : TxD} (h : txE t = 0) (hm : mayB o = true) : txDo o th t = runT (if th then o else ObD.none) th (t.ops.drop 0) := by unfold txDo; rw [if_pos h, if_pos hm]; rfl
set_option maxRecDepth 100000 in
set_option maxHeartbeats 16000000 in
theorem rtdo_any (A B : Nat → Prop) (v va : Value) (o : ObD) (th : Bool) (t : TxD) (w : World) (hv : ObV A w v o) (ho : o.keys.length ≤ 100000) (h : SlE Enc.op B w va t.ops) (hop : ∀ op ∈ t.ops, op.data.length ≤ 50000) :
    Calls Tryd.prog 26 #[v, .bool th, .agg #[.string t.obj, va]] w (TDoRR (txDo o th t) w) := by
  obtain ⟨dv0, kv0, rfl, hdd, hkk⟩ := hv
  obtain ⟨da, dc, rfl⟩ := hdd.shape
  obtain ⟨ka, kc, rfl⟩ := hkk.shape
  have HOV : Hid (ObV A w _ o) := Lib.hid ⟨_, _, rfl, hdd, hkk⟩
  obtain ⟨ta, tc, rfl⟩ := h.shape
  obtain ⟨ob, ops⟩ := t
  simp only at *
  have HS := Lib.hid h
  have HOP := Lib.hid hop
  clear hdd hkk h hop
  go_enter Tryd.func26, Tryd.ntmps26
  go_wp2_with fail
  obtain ⟨w0, hw0⟩ : ∃ w0, w0 = ((w.alloc (.cells #[.slice da o.data.length dc, .slice ka o.keys.length kc, .int .i64 o.seq] 39)).alloc (.cells #[.string ob, .slice ta ops.length tc] 28)).alloc (.cells #[.slice none 0 0, .slice none 0 0, .int .i64 0] 39) := ⟨_, rfl⟩
  rw [← hw0]
  have b0 : w0.heap[w.heap.size]? = some (.cells #[.slice da o.data.length dc, .slice ka o.keys.length kc, .int .i64 o.seq] 39 (0, 0)) := by rw [hw0]; exact dnew (dnew (heap_alloc_new _ _) _) _
  have b1 : w0.heap[w.heap.size + 1]? = some (.cells #[.string ob, .slice ta ops.length tc] 28 (0, 0)) := by rw [hw0]; exact dnew (heap_alloc2_new _ _ _) _
  have b2 : w0.heap[w.heap.size + 2]? = some (.cells #[.slice none 0 0, .slice none 0 0, .int .i64 0] 39 (0, 0)) := by rw [hw0]; have h := fun (W : World) o' => heap_alloc_new W o'; have := h ((w.alloc (.cells #[.slice da o.data.length dc, .slice ka o.keys.length kc, .int .i64 o.seq] 39)).alloc (.cells #[.string ob, .slice ta ops.length tc] 28)) (.cells #[.slice none 0 0, .slice none 0 0, .int .i64 0] 39); simpa using this
  have hw : Below w.heap.size w w0 := by rw [hw0]; ((repeat' (first | exact Below.refl _ _ | refine below_drewN ?_ _ | refine Below.drew ?_ | refine Below.alloc ?_ ?_ _ | refine Below.trans ?_ (Below.mono (by assumption) ?_))); all_goals (first | exact Nat.le_refl _ | exact Below.size (by assumption) | omega | (simp; done) | (simp; omega)))
  clear hw0
  refine (rcheck9_any B ⟨ob, ops⟩ _ _ (HS.out.ext hw)).mono ?_
  rintro e w1 ⟨rfl, hb1⟩
  have HW1 := Lib.hid (dcall hw hb1)
  have P1 := Lib.hid (dblk hb1 b0)
  have T1 := Lib.hid (dblk hb1 b1)
  have R1 := Lib.hid (dblk hb1 b2)
  clear hb1 b0 b1 b2 hw
  obtain ⟨x0, f0⟩ := blk_cell (i := 0) (R1.out)
  obtain ⟨x1, f1⟩ := blk_cell (i := 1) (R1.out)
  obtain ⟨x2, f2⟩ := blk_cell (i := 2) (R1.out)
  simp at x0 x1 x2
  by_cases hE : txE ⟨ob, ops⟩ = 0
  · have HE := Lib.hid hE
    rw [hE]
    clear hE
    obtain ⟨y0, e0⟩ := blk_cell (i := 0) (P1.out)
    obtain ⟨y1, e1⟩ := blk_cell (i := 1) (P1.out)
    obtain ⟨y2, e2⟩ := blk_cell (i := 2) (P1.out)
    simp at y0 y1 y2
    go_wp2_with fail
    refine (rmay8_any _ _ o _ (HOV.out.ext HW1.out) ho).mono ?_
    rintro e w2 ⟨rfl, hb2⟩
    have HW2 := Lib.hid (dcall HW1.out hb2)
    have P2 := Lib.hid (dblk hb2 P1.out)
    have T2 := Lib.hid (dblk hb2 T1.out)
    have R2 := Lib.hid (dblk hb2 R1.out)
    clear hb2 P1 T1 R1 HW1 y0 y1 y2 e0 e1 e2 x0 x1 x2 f0 f1 f2
    obtain ⟨x0, f0⟩ := blk_cell (i := 0) (R2.out)
    obtain ⟨x1, f1⟩ := blk_cell (i := 1) (R2.out)
    obtain ⟨x2, f2⟩ := blk_cell (i := 2) (R2.out)
    simp at x0 x1 x2
    cases hm : mayB o with
    | false =>
      have HX := Lib.hid (txDo_may (th := th) HE.out hm)
      clear hm
      go_wp2
      refine bodyPost_ret (results_cell_t2 rfl _ _ (w.heap.size + 2) 39 _ (0, 0) _ rfl (set3_blk R2.out) Tryd.underlying39 rfl (by kernel_rfl)) rfl ?_
      exact TDoRR.no HX.out (below3 HW2.out (by omega) _ _ _)
    | true =>
      have HX := Lib.hid (txDo_run (th := th) HE.out hm)
      have HM := Lib.hid hm
      clear hm
      obtain ⟨y0, e0⟩ := blk_cell (i := 0) (P2.out)
      obtain ⟨y1, e1⟩ := blk_cell (i := 1) (P2.out)
      obtain ⟨y2, e2⟩ := blk_cell (i := 2) (P2.out)
      simp at y0 y1 y2
      obtain ⟨X, hX⟩ : ∃ X, X = txDo o th ⟨ob, ops⟩ := ⟨_, rfl⟩
      have HXE := Lib.hid hX.symm
      rw [← hX] at HX
      obtain ⟨O1, hO1⟩ : ∃ O1, O1 = (if th then o else ObD.none) := ⟨_, rfl⟩
      have HM1 : Hid (mayB O1 = true) := Lib.hid (by rw [hO1]; exact mayB_of HM.out)
      have HN1 : Hid (th = false → O1 = ObD.none) := Lib.hid (fun h => by rw [hO1, h]; rfl)
      have HX1 : Hid (runT O1 th (ops.drop 0) = X) := Lib.hid (by rw [hO1]; exact HX.out.symm)
      have HO1 := Lib.hid hO1
      clear hX hO1 HX
      go_upto_if 28 with fail
      go_cut [1] (fun s1 wx => s1 = .bool th ∧ ∃ (a : Option Addr) (c : Nat) (u : Option Addr) (q : Nat), wx.heap[w.heap.size]? = some (.cells #[.slice a O1.data.length c, .slice u O1.keys.length q, .int .i64 O1.seq] 39 (0, 0)) ∧
        ObV (fun _ => True) wx (.agg #[.slice a O1.data.length c, .slice u O1.keys.length q, .int .i64 O1.seq]) O1 ∧ wx.heap[w.heap.size + 1]? = some (.cells #[.string ob, .slice ta ops.length tc] 28 (0, 0)) ∧
        wx.heap[w.heap.size + 2]? = some (.cells #[.slice none 0 0, .slice none 0 0, .int .i64 0] 39 (0, 0)) ∧ Below w.heap.size w wx)
      case first =>
        cases th with
        | true =>
          obtain rfl : O1 = o := HO1.out
          go_wp2_with fail
          go_meet
          exact ⟨rfl, da, dc, ka, kc, P2.out, (HOV.out.ext HW2.out).weak fun _ _ _ => trivial, T2.out, R2.out, HW2.out⟩
        | false =>
          obtain rfl : O1 = ObD.none := HO1.out
          go_wp2_with fail
          go_meet
          exact ⟨rfl, none, 0, none, 0, set3_blk P2.out, obv_none _ _, dset3 rfl (by simp) T2.out, dset3 rfl (by simp) R2.out, below3 HW2.out (Nat.le_refl _) _ _ _⟩
      case rest =>
        obtain ⟨rfl, a, c, u, q, hP, hV, hT, hR, hB⟩ := hcut
        have HP := Lib.hid hP
        have HV := Lib.hid hV
        have HT := Lib.hid hT
        have HR := Lib.hid hR
        have HB := Lib.hid hB
        clear hP hV hT hR hB P2 T2 R2 HW2 HO1 y0 y1 y2 e0 e1 e2 x0 x1 x2 f0 f1 f2
        have hle := (txE_ok' HE.out).1
        simp only at hle
        go_wp2
        go_loopw [1, 11] (fun q1 q11 wr => ∃ k : Nat, k ≤ ops.length ∧ q11 = .int .i64 k ∧ ∃ (th' : Bool) (o' : ObD) (a : Option Addr) (c : Nat) (u : Option Addr) (q : Nat), q1 = .bool th' ∧ wr.heap[w.heap.size]? = some (.cells #[.slice a o'.data.length c, .slice u o'.keys.length q, .int .i64 o'.seq] 39 (0, 0)) ∧
          ObV (fun _ => True) wr (.agg #[.slice a o'.data.length c, .slice u o'.keys.length q, .int .i64 o'.seq]) o' ∧ wr.heap[w.heap.size + 1]? = some (.cells #[.string ob, .slice ta ops.length tc] 28 (0, 0)) ∧
          wr.heap[w.heap.size + 2]? = some (.cells #[.slice none 0 0, .slice none 0 0, .int .i64 0] 39 (0, 0)) ∧ mayB o' = true ∧ (th' = false → o' = ObD.none) ∧ runT o' th' (ops.drop k) = X ∧ Below w.heap.size w wr) (fun _ q11 _ => ops.length - (intOf q11).toNat)
        case atStart => exact ⟨0, Nat.zero_le _, rfl, th, O1, _, _, _, _, rfl, HP.out, HV.out, HT.out, HR.out, HM1.out, HN1.out, HX1.out, HB.out⟩
        case round =>
          obtain ⟨k, hk, rfl, th', o', a', c', u', q', rfl, hP, hV, hT, hR, hM, hN, hX, hB⟩ := hrel
          clear HP HV HT HR HB HM1 HN1 HX1
          have HP := Lib.hid hP
          have HV := Lib.hid hV
          have HT := Lib.hid hT
          have HR := Lib.hid hR
          have HMM := Lib.hid hM
          have HN := Lib.hid hN
          have HX := Lib.hid hX
          have HB := Lib.hid hB
          clear hP hV hT hR hM hN hX hB
          obtain ⟨y0, y1, y2⟩ := three_cells HP.out
          obtain ⟨t1, -⟩ := blk_cell (i := 1) HT.out
          simp at t1
          have hl1 : w.heap.size + 1 < wr.heap.size := (Array.getElem?_eq_some_iff.1 HT.out).1
          by_cases hlt : k < ops.length
          · obtain ⟨b, off, x, rfl, hb, -, c0, c1, c2, c3, c4, hx⟩ := Ops.at (HS.out.ext HB.out) hlt
            obtain ⟨xa, xc, rfl⟩ := hx.shape
            have HXX := Lib.hid hx
            have HDR := Lib.hid (drop_step (o := o') (th := th') hlt)
            have hdl := HOP.out ops[k] (List.getElem_mem hlt)
            generalize ops[k] = op at *
            obtain ⟨ok, oo, on, onm, opd⟩ := op
            simp only at c0 c1 c2 c3 c4 HXX hdl
            clear hx
            go_upto_region 12 with fail
            have hcells : Hid (∀ W, Below wr.heap.size wr W → Below wr.heap.size wr W ∧ W.cell? ⟨w.heap.size, 0, none⟩ = some (.slice a' o'.data.length c') ∧ W.cell? ⟨w.heap.size, 1, none⟩ = some (.slice u' o'.keys.length q') ∧ W.cell? ⟨w.heap.size, 2, none⟩ = some (.int .i64 o'.seq) ∧ W.cell? ⟨w.heap.size + 1, 1, none⟩ = some (.slice (some ⟨b, off, none⟩) ops.length tc) ∧
                W.cell? ⟨b, off + k * 5, none⟩ = some (.int .i64 ok) ∧ W.cell? ⟨b, off + k * 5 + 1, none⟩ = some (.int .i64 oo) ∧ W.cell? ⟨b, off + k * 5 + 2, none⟩ = some (.int .i64 on) ∧ W.cell? ⟨b, off + k * 5 + 3, none⟩ = some (.string onm) ∧ W.cell? ⟨b, off + k * 5 + 4, none⟩ = some (.slice xa opd.length xc)) := Lib.hid fun W h =>
              ⟨h, cellExt h y0, cellExt h y1, cellExt h y2, cellExt h t1, cellExt h c0, cellExt h c1, cellExt h c2, cellExt h c3, cellExt h c4⟩
            have hdo := fun W (h : Below wr.heap.size wr W) => rdo_any _ _ _ o' th' ok oo on onm xa xc opd W (HV.out.ext h) (okl_of HMM.out) (RB.ext HXX.out h) hdl
            have hst := stay_of (op := ⟨ok, oo, on, onm, opd⟩) HMM.out HN.out
            unfold opV at hdo
            generalize doB o' th' ⟨ok, oo, on, onm, opd⟩ = D at *
            obtain ⟨xo, xt, xn, xe⟩ := D
            have HDO := Lib.hid hdo
            have HST := Lib.hid hst
            clear hdo hst y0 y1 y2 t1 c0 c1 c2 c3 c4 HXX
            have hk5 : (0 : Int) ≤ k := by omega
            have hkl5 : (k : Int) < ops.length := by omega
            go_cut [12, 13, 14, 15] (fun s12 s13 s14 s15 wx => ∃ (g : Nat) (ga : Option Addr) (gc : Nat) (gu : Option Addr) (gq : Nat), s12 = .pointer (some ⟨g, 0, none⟩) ∧ s13 = .bool xt ∧ s14 = .bool xn ∧ s15 = .int .i64 xe ∧ wr.heap.size ≤ g ∧
              wx.heap[g]? = some (.cells #[.slice ga xo.data.length gc, .slice gu xo.keys.length gq, .int .i64 xo.seq] 39 (0, 0)) ∧ ObV (fun _ => True) wx (.agg #[.slice ga xo.data.length gc, .slice gu xo.keys.length gq, .int .i64 xo.seq]) xo ∧ Below wr.heap.size wr wx)
            case first =>
              go_region_held3 (fun W => Below wr.heap.size wr W ∧ W.cell? ⟨w.heap.size, 0, none⟩ = some (.slice a' o'.data.length c') ∧ W.cell? ⟨w.heap.size, 1, none⟩ = some (.slice u' o'.keys.length q') ∧ W.cell? ⟨w.heap.size, 2, none⟩ = some (.int .i64 o'.seq) ∧ W.cell? ⟨w.heap.size + 1, 1, none⟩ = some (.slice (some ⟨b, off, none⟩) ops.length tc) ∧
                W.cell? ⟨b, off + k * 5, none⟩ = some (.int .i64 ok) ∧ W.cell? ⟨b, off + k * 5 + 1, none⟩ = some (.int .i64 oo) ∧ W.cell? ⟨b, off + k * 5 + 2, none⟩ = some (.int .i64 on) ∧ W.cell? ⟨b, off + k * 5 + 3, none⟩ = some (.string onm) ∧ W.cell? ⟨b, off + k * 5 + 4, none⟩ = some (.slice xa opd.length xc))
                ((refine hcells.out _ ?_; first
                  | (with_reducible exact Below.drew (Below.refl _ _))
                  | (with_reducible exact Below.drew (below_nw (Below.refl _ _) _))
                  | (with_reducible exact below_nw (Below.drew (Below.refl _ _)) _)
                  | (with_reducible exact hz6)
                  | (with_reducible exact below_nw hz6 _)
                  | (with_reducible refine below3 hz6 ?_ _ _ _; exact Nat.le_refl _)
                  | (rename_i hh _ _; with_reducible exact hh.1)))
                (first
                  | (go_at_call 41; refine (HDO.out _ (by first | exact Below.drew (Below.refl _ _) | exact below_nw (Below.drew (Below.refl _ _)) _ | exact Below.drew (below_nw (Below.refl _ _) _))).mono ?_; intro e w6 h6; obtain ⟨ga, gc, gu, gq, rfl, hv6, hb6⟩ := h6.ways; have hz6 : Below wr.heap.size wr w6 := (by first | exact Below.trans (Below.drew (Below.refl wr.heap.size wr)) (Below.mono hb6 (Nat.le_refl _)) | exact Below.trans (below_nw (Below.drew (Below.refl wr.heap.size wr)) _) (Below.mono hb6 (Nat.le_succ _)) | exact Below.trans (Below.drew (below_nw (Below.refl wr.heap.size wr) _)) (Below.mono hb6 (by simp))); (first | (have hbx := box_a hb6; obtain ⟨⟨k0, l0⟩, ⟨k1, l1⟩, ⟨k2, l2⟩⟩ := six_facts hbx) | (have hbx := box_b hb6; obtain ⟨⟨k0, l0⟩, ⟨k1, l1⟩, ⟨k2, l2⟩⟩ := six_facts hbx) | skip)))
              all_goals
                go_wp2_with fail
                go_meet
                first
                  | exact ⟨w6.heap.size, ga, gc, gu, gq, rfl, rfl, rfl, rfl, hz6.size, heap_alloc_new _ _, hv6.ext ((Below.refl _ _).alloc (Nat.le_refl _) _), below_nw hz6 _⟩
                  | exact ⟨wr.heap.size, ga, gc, gu, gq, rfl, rfl, rfl, rfl, Nat.le_refl _, set3_blk hbx, hv6.past hbx (boxO3 _ _ _ _ _ _ _) (set3_past _ _ _).1 (set3_past _ _ _).2, below3 hz6 (Nat.le_refl _) _ _ _⟩
            case rest =>
              obtain ⟨g, ga, gc, gu, gq, rfl, rfl, rfl, rfl, hg, hgb, hgv, hbc⟩ := hcut
              have G6 := Lib.hid hgb
              have X6 := Lib.hid hgv
              have P6 := Lib.hid (dblk hbc HP.out)
              have T6 := Lib.hid (dblk hbc HT.out)
              have R6 := Lib.hid (dblk hbc HR.out)
              have HB6 := Lib.hid (dcall HB.out hbc)
              have hgp : w.heap.size + 2 < g := by have := (Array.getElem?_eq_some_iff.1 HR.out).1; omega
              clear hgb hgv hbc hcells HDO HP HV HT HR HB
              obtain ⟨y0, e0⟩ := blk_cell (i := 0) (P6.out)
              obtain ⟨y1, e1⟩ := blk_cell (i := 1) (P6.out)
              obtain ⟨y2, e2⟩ := blk_cell (i := 2) (P6.out)
              simp at y0 y1 y2
              obtain ⟨x0, f0⟩ := blk_cell (i := 0) (R6.out)
              obtain ⟨x1, f1⟩ := blk_cell (i := 1) (R6.out)
              obtain ⟨x2, f2⟩ := blk_cell (i := 2) (R6.out)
              simp at x0 x1 x2
              obtain ⟨z0, z1, z2⟩ := three_cells G6.out
              by_cases hxe : xe = 0
              · subst hxe
                have HMX := Lib.hid (HST.out.may rfl)
                have HNX : Hid (xt = false → xo = ObD.none) := Lib.hid (HST.out.nn rfl)
                cases xn with
                | true =>
                  have HX2 : Hid (runT xo xt (ops.drop (k + 1)) = X) := Lib.hid (by have := HDR.out; rw [HX.out] at this; exact this.symm)
                  clear HDR
                  go_wp2
                  go_roundw
                  case rel => exact ⟨k + 1, by omega, by go_num, xt, xo, ga, gc, gu, gq, rfl, set3_blk P6.out, X6.out.past P6.out (boxO3 _ _ _ _ _ _ _) (set3_past _ _ _).1 (set3_past _ _ _).2, dset3 rfl (by simp) T6.out, dset3 rfl (by simp) R6.out, HMX.out, HNX.out, HX2.out, below3 HB6.out (Nat.le_refl _) _ _ _⟩
                  case measure => simp [intOf]; omega
                | false =>
                  have HX2 : Hid (X = ⟨xo, xt, 0⟩) := Lib.hid (by have := HDR.out; rw [HX.out] at this; exact this)
                  clear HDR
                  go_wp2
                  refine bodyPost_ret (results_cell_t2 rfl _ _ (w.heap.size + 2) 39 _ (0, 0) _ rfl (set3_blk (dset3 rfl (show w.heap.size + 2 ≠ w.heap.size by omega) R6.out)) Tryd.underlying39 rfl (by kernel_rfl)) rfl ?_
                  exact TDoRR.ok (HXE.out.trans HX2.out) ((X6.out.past P6.out (boxO3 _ _ _ _ _ _ _) (set3_past _ _ _).1 (set3_past _ _ _).2).past (dset3 rfl (show w.heap.size + 2 ≠ w.heap.size by omega) R6.out) (boxO3 _ _ _ _ _ _ _) (set3_past _ _ _).1 (set3_past _ _ _).2) (below3 (below3 HB6.out (Nat.le_refl _) _ _ _) (by omega) _ _ _)
              · have HX2 : Hid (X = TDoR.no xe) := Lib.hid (by have := HDR.out; rw [HX.out, if_neg hxe] at this; exact this)
                have q1 : (xe != 0) = true := by simpa using hxe
                have q2 : (xe == 0) = false := by simpa using hxe
                clear hxe HDR
                go_wp2
                refine bodyPost_ret (results_cell_t2 rfl _ _ (w.heap.size + 2) 39 _ (0, 0) _ rfl (set3_blk R6.out) Tryd.underlying39 rfl (by kernel_rfl)) rfl ?_
                exact TDoRR.no (HXE.out.trans HX2.out) (below3 HB6.out (by omega) _ _ _)
          · obtain rfl : k = ops.length := by omega
            have HX2 : Hid (X = ⟨o', th', 0⟩) := Lib.hid (by have := HX.out; rw [List.drop_length] at this; exact this.symm)
            obtain ⟨x0, f0⟩ := blk_cell (i := 0) (HR.out)
            obtain ⟨x1, f1⟩ := blk_cell (i := 1) (HR.out)
            obtain ⟨x2, f2⟩ := blk_cell (i := 2) (HR.out)
            simp at x0 x1 x2
            clear HX
            go_wp2
            refine bodyPost_ret (results_cell_t2 rfl _ _ (w.heap.size + 2) 39 _ (0, 0) _ rfl (set3_blk HR.out) Tryd.underlying39 rfl (by kernel_rfl)) rfl ?_
            exact TDoRR.ok (HXE.out.trans HX2.out) (HV.out.past HR.out (boxO3 _ _ _ _ _ _ _) (set3_past _ _ _).1 (set3_past _ _ _).2) (below3 HB.out (by omega) _ _ _)
  · have HX := Lib.hid (txDo_chk (o := o) (th := th) hE)
    generalize txE ⟨ob, ops⟩ = E at *
    have t1 : (E != 0) = true := by simpa using hE
    have t2 : (E == 0) = false := by simpa using hE
    clear hE
    go_wp2
    refine bodyPost_ret (results_cell_t2 rfl _ _ (w.heap.size + 2) 39 _ (0, 0) _ rfl (set3_blk R1.out) Tryd.underlying39 rfl (by kernel_rfl)) rfl ?_
    exact TDoRR.no HX.out (below3 HW1.out (by omega) _ _ _)
end Go.Proofs.YtfeonfihlleoeaaDoor
namespace Go.Proofs.YtfeonfihlleoeaaDoor
open Go.RowKit Go.WideShapes

/-- a row whose cells may be written -/
def KF (K0 : Nat) (w : World) (kv : Value) : Prop := ∀ a n c, kv = .slice (some a) n c → K0 ≤ a.block ∧ a.block < w.heap.size ∧ ∀ j, w.frozen? ⟨a.block, j, none⟩ = false
theorem KF.nil {K0 : Nat} (w : World) : KF K0 w (.slice none 0 0) := fun a n c e => by cases e
theorem KF.ext {K0 : Nat} {w w' : World} {kv : Value} (h : KF K0 w kv) (hb : Below w.heap.size w w') : KF K0 w' kv := fun a n c e => ⟨(h a n c e).1, Nat.lt_of_lt_of_le (h a n c e).2.1 hb.size, fun j => (hb.frozen (p := ⟨a.block, j, none⟩) (h a n c e).2.1).trans ((h a n c e).2.2 j)⟩
theorem KF.set {K0 : Nat} {w : World} {kv : Value} (h : KF K0 w kv) (p : Addr) (u : Value) : KF K0 (w.setCell p u) kv := fun a n c e => ⟨(h a n c e).1, by simpa [World.setCell] using (h a n c e).2.1, fun j => by
  have := (h a n c e).2.2 j
  unfold World.frozen? at this ⊢
  simp only [World.setCell, Array.getElem?_modify]
  by_cases hp : p.block = a.block
  · rw [hp, if_pos rfl]
    cases hh : w.heap[a.block]? with
    | none => rfl
    | some o =>
      rw [hh] at this
      cases o <;> first | exact this | rfl
  · rw [if_neg hp]
    exact this⟩
theorem KF.set3 {K0 : Nat} {w : World} {kv : Value} (h : KF K0 w kv) (p : Nat) (x y z : Value) : KF K0 (((w.setCell ⟨p, 0, none⟩ x).setCell ⟨p, 1, none⟩ y).setCell ⟨p, 2, none⟩ z) kv := ((h.set _ _).set _ _).set _ _
theorem EnRow.kf {α : Type} {E : Enc α} {t : TypeId} {A : Nat → Prop} {base : Nat} {w : World} {v : Value} {l : List α} {K0 : Nat} (h : EnRow E t A base w v l) (h0 : K0 ≤ base) : KF K0 w v := fun a n c e => by
  subst e
  obtain ⟨cs, -, -, h3⟩ := h.ex
  rcases h3.2 with ⟨e, _⟩ | ⟨g, cap, cur, e, hbase, hg, _⟩
  · cases e
  · cases e
    exact ⟨Nat.le_trans h0 hbase, (Array.getElem?_eq_some_iff.1 hg).1, fun j => (blk_cell hg).2⟩
def ObRF (K0 : Nat) (A : Nat → Prop) (x : ObD) (w : World) (e : Ending) (w' : World) : Prop := ∃ dv kv, e = .returned (.agg #[dv, kv, .int .i64 x.seq]) ∧ ObV (UpA A w) w' (.agg #[dv, kv, .int .i64 x.seq]) x ∧ Below w.heap.size w w' ∧ KF K0 w' kv
def RKeyF (K0 : Nat) (A : Nat → Prop) (o : ObD) (x : Option ObD) (w : World) (e : Ending) (w' : World) : Prop := ∃ dv kv, e = .returned (.tuple #[.agg #[dv, kv, .int .i64 (x.getD o).seq], .int .i64 (if x.isSome then 0 else 2)]) ∧ ObV (UpA A w) w' (.agg #[dv, kv, .int .i64 (x.getD o).seq]) (x.getD o) ∧ Below w.heap.size w w' ∧ (x.isSome = true → KF K0 w' kv)
theorem RKeyF.no {K0 : Nat} {A : Nat → Prop} {o : ObD} {dv kv : Value} {x : Option ObD} {w w' : World} (hx : x = none) (h : ObV (UpA A w) w' (.agg #[dv, kv, .int .i64 o.seq]) o) (hb : Below w.heap.size w w') : RKeyF K0 A o x w (.returned (.tuple #[.agg #[dv, kv, .int .i64 o.seq], .int .i64 2])) w' := by
  subst hx
  exact ⟨_, _, rfl, h, hb, fun h => by cases h⟩
theorem RKeyF.ok {K0 : Nat} {A : Nat → Prop} {o o' : ObD} {dv kv : Value} {x : Option ObD} {w w' : World} (hx : x = some o') (h : ObV (UpA A w) w' (.agg #[dv, kv, .int .i64 o'.seq]) o') (hb : Below w.heap.size w w') (hk : KF K0 w' kv) : RKeyF K0 A o x w (.returned (.tuple #[.agg #[dv, kv, .int .i64 o'.seq], .int .i64 0])) w' := by
  subst hx
  exact ⟨_, _, rfl, h, hb, fun _ => hk⟩
def DoRF (K0 : Nat) (x : DoR) (w : World) (e : Ending) (w' : World) : Prop := ∃ dv kv, e = .returned (.tuple #[.agg #[dv, kv, .int .i64 x.o.seq], .bool x.there, .bool x.on, .int .i64 x.e]) ∧ ObV (fun _ => True) w' (.agg #[dv, kv, .int .i64 x.o.seq]) x.o ∧ Below w.heap.size w w' ∧ KF K0 w' kv
theorem DoRF.no {K0 : Nat} {c : Int} {x : DoR} {w w' : World} (hx : x = DoR.no c) (hb : Below w.heap.size w w') : DoRF K0 x w (.returned (.tuple #[.agg #[.slice none 0 0, .slice none 0 0, .int .i64 0], .bool false, .bool false, .int .i64 c])) w' := by
  subst hx
  exact ⟨_, _, rfl, obv_none _ _, hb, KF.nil _⟩
theorem DoRF.ok {K0 : Nat} {x : DoR} {dv kv : Value} {o : ObD} {s : Int} {b : Bool} {th : Bool} {w w' : World} (hx : x = ⟨o, th, b, 0⟩) (hv : ObV (fun _ => True) w' (.agg #[dv, kv, .int .i64 s]) o) (hb : Below w.heap.size w w') (hk : KF K0 w' kv) : DoRF K0 x w (.returned (.tuple #[.agg #[dv, kv, .int .i64 s], .bool th, .bool b, .int .i64 0])) w' := by
  subst hx
  have hs : s = o.seq := by
    obtain ⟨_, _, e, _⟩ := hv
    simp at e
    exact e.2.2
  subst hs
  exact ⟨_, _, rfl, hv, hb, hk⟩
/-- an object whose row of keys may be written -/
structure ObF (K0 : Nat) (w : World) (v : Value) (o : ObD) : Prop where
  mk ::
  ob : ObV (fun _ => True) w v o
  kf : ∀ d k s, v = .agg #[d, k, s] → KF K0 w k
theorem ObF.ext {K0 : Nat} {w w' : World} {v : Value} {o : ObD} (h : ObF K0 w v o) (hb : Below w.heap.size w w') : ObF K0 w' v o := ⟨h.ob.ext hb, fun d k s e => (h.kf d k s e).ext hb⟩
theorem ObF.set3 {K0 : Nat} {w : World} {p : Nat} {v : Value} {o : ObD} {cs : Array Value} {t : TypeId} {x y z : Value} (h : ObF K0 w v o) (hp : w.heap[p]? = some (.cells cs t (0, 0))) (hB : BoxO cs) : ObF K0 (((w.setCell ⟨p, 0, none⟩ x).setCell ⟨p, 1, none⟩ y).setCell ⟨p, 2, none⟩ z) v o :=
  ⟨h.ob.past hp hB (set3_past _ _ _).1 (set3_past _ _ _).2, fun d k s e => (h.kf d k s e).set3 _ _ _ _⟩
theorem obf_none {K0 : Nat} (w : World) : ObF K0 w (.agg #[.slice none 0 0, .slice none 0 0, .int .i64 0]) ObD.none := ⟨obv_none _ _, fun d k s e => by cases e; exact KF.nil _⟩
theorem DoRF.ways {K0 : Nat} {x : DoR} {w w' : World} {e : Ending} (h : DoRF K0 x w e w') : ∃ a c u q, e = .returned (.tuple #[.agg #[.slice a x.o.data.length c, .slice u x.o.keys.length q, .int .i64 x.o.seq], .bool x.there, .bool x.on, .int .i64 x.e]) ∧
    ObF K0 w' (.agg #[.slice a x.o.data.length c, .slice u x.o.keys.length q, .int .i64 x.o.seq]) x.o ∧ Below w.heap.size w w' := by
  obtain ⟨dv, kv, rfl, hv, hb, hkf⟩ := h
  obtain ⟨d, k, e, hd, hk⟩ := id hv
  simp at e
  obtain ⟨rfl, rfl⟩ := e
  obtain ⟨a, c, rfl⟩ := hd.shape
  obtain ⟨u, q, rfl⟩ := hk.shape
  exact ⟨_, _, _, _, rfl, ⟨hv, fun _ _ _ e => by cases e; exact hkf⟩, hb⟩
end Go.Proofs.YtfeonfihlleoeaaDoor
