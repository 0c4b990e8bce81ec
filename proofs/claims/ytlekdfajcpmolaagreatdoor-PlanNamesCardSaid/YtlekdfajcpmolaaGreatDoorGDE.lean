/- The walk of plan.Create. plan.Do: what it leaves; where it is refused. -/
import Derived.Test.YtlekdfajcpmolaaGreatDoorGCJ
import Derived.Test.YtlekdfajcpmolaaGreatDoorGDA
import Derived.Test.YtlekdfajcpmolaaGreatDoorGCZ
import Derived.Test.YtlekdfajcpmolaaGreatDoorGDB
import Derived.Lib.SliceRun
import Derived.Test.YtlekdfajcpmolaaGreatDoorGDC
import Derived.Test.YtlekdfajcpmolaaGreatDoorGDD
namespace Go.Proofs.YtlekdfajcpmolaaGreatDoor
open Go.RowKit Go.WideShapes

theorem headB_pos (h : HeD) : 0 < (headB' h).length := by
  unfold headB'
  simp only [List.length_append, be_length]
  omega
/-- bytes of a head that may be; nil of one that may not -/
def PkO (h : HeD) (w : World) (e : Ending) (w' : World) : Prop := ∃ g c, e = .returned (.slice (some ⟨g, 0, none⟩) (pkD h).length c) ∧ OB w.heap.size w' (.slice (some ⟨g, 0, none⟩) (pkD h).length c) (pkD h) ∧ Below w.heap.size w w'
theorem hpack_yes (A : Nat → Prop) (h : HeD) (v : Value) (w : World) (hv : HeV A w v h) (hl : h.okl) (hm : mayD h = true) : Calls Tryz.prog 53 #[v] w (PkO h w) :=
  (hpack_any A h v w hv hl).mono fun e w' ⟨x, e1, h1, h2⟩ => by
    obtain ⟨g, c, rfl, -⟩ := h1.lies (by rw [pkD_yes hm]; exact headB_pos h)
    exact ⟨g, c, e1, h1, h2⟩
set_option maxRecDepth 100000 in
theorem hpack_no (A : Nat → Prop) (h : HeD) (v : Value) (w : World) (hv : HeV A w v h) (hl : h.okl) (hm : mayD h = false) : Calls Tryz.prog 53 #[v] w fun e w' => e = .returned (.slice none 0 0) ∧ Below w.heap.size w w' := by
  obtain ⟨mv, sv, rfl, h1, h2⟩ := hv
  obtain ⟨ma, mc, rfl⟩ := h1.shape
  obtain ⟨sa, sc, rfl⟩ := h2.shape
  have hal : Below w.heap.size w (w.alloc (.cells (hdC h (.slice ma h.map.length mc) (.slice sa h.snaps.length sc)).toArray 27)) := (Below.refl _ w).alloc (Nat.le_refl _) _
  have HC := Lib.hid (hcheck_any A h _ _ ⟨_, _, rfl, SlE.ext h1 hal, SlE.ext h2 hal⟩ hl)
  have HAL := Lib.hid hal
  have HK := Lib.hid (chkH_no hm)
  clear h1 h2 hal hm hl
  unfold hdV hdC at *
  go_enter Tryz.func53, Tryz.ntmps53
  go_wp2_with fail
  refine HC.out.mono ?_
  rw [HK.out]
  rintro e w2 ⟨rfl, hb2⟩
  have HB2 := Lib.hid hb2
  clear hb2
  go_wp2
  go_ret
  exact ⟨rfl, HAL.out.trans (HB2.out.mono HAL.out.size)⟩
/-- what makes an image -/
def crX (i : Int) (h : HeD) : TxD := if mayD h then ⟨headS i, [⟨2, 0, 0, ⟨#[]⟩, []⟩, ⟨9, 0, 0, keyH, pkD h⟩]⟩ else ⟨⟨#[]⟩, []⟩
theorem crX_yes {i : Int} {h : HeD} (e : mayD h = true) : crX i h = ⟨headS i, [⟨2, 0, 0, ⟨#[]⟩, []⟩, ⟨9, 0, 0, keyH, pkD h⟩]⟩ := if_pos e
theorem crX_no {i : Int} {h : HeD} (e : mayD h = false) : crX i h = ⟨⟨#[]⟩, []⟩ := by unfold crX; rw [e]; rfl
def CreO (i : Int) (h : HeD) (w : World) (x : Ending) (w' : World) : Prop := ∃ va vc, x = .returned (.tuple #[.agg #[.string (crX i h).obj, .slice va (crX i h).ops.length vc], .int .i64 (chkH h)]) ∧ SlE Enc.op (fun b => w.heap.size ≤ b) w' (.slice va (crX i h).ops.length vc) (crX i h).ops ∧ Below w.heap.size w w'
set_option maxRecDepth 100000 in
set_option maxHeartbeats 8000000 in
theorem create_any (A : Nat → Prop) (i : Int) (h : HeD) (v : Value) (w : World) (hv : HeV A w v h) (hl : h.okl) : Calls Tryz.prog 15 #[.int .i64 i, v] w (CreO i h w) := by
  have hno := fun W (hb : Below w.heap.size w W) => hpack_no A h v W (hv.ext hb) hl
  have hyes := fun W (hb : Below w.heap.size w W) => hpack_yes A h v W (hv.ext hb) hl
  obtain ⟨mv, sv, rfl, h1, h2⟩ := hv
  obtain ⟨ma, mc, rfl⟩ := h1.shape
  obtain ⟨sa, sc, rfl⟩ := h2.shape
  unfold hdV at *
  clear h1 h2
  obtain ⟨W1, hW1⟩ : ∃ W1, W1 = (w.alloc (.cells #[.int .i64 h.u, .int .i64 h.c, .int .i64 h.o, .int .i64 h.size, .slice ma h.map.length mc, .slice sa h.snaps.length sc, .int .i64 h.last, .int .i64 h.seq] 27)).alloc (.cells #[.string ⟨#[]⟩, .slice none 0 0] 42) := ⟨_, rfl⟩
  have hb1 : Below w.heap.size w W1 := by rw [hW1]; ((repeat' (first | exact Below.refl _ _ | refine below_drewN ?_ _ | refine Below.drew ?_ | refine Below.alloc ?_ ?_ _ | refine Below.trans ?_ (Below.mono (by assumption) ?_))); all_goals (first | exact Nat.le_refl _ | exact Below.size (by assumption) | omega | (simp; done) | (simp; omega)))
  have R1 := Lib.hid (show W1.heap[w.heap.size + 1]? = some (.cells #[.string ⟨#[]⟩, .slice none 0 0] 42 (0, 0)) from by rw [hW1]; exact heap_alloc2_new _ _ _)
  have HB1 := Lib.hid hb1
  have HW1 := Lib.hid hW1
  cases hmay : mayD h
  · have HN := Lib.hid (hno W1 hb1 hmay)
    have HX := Lib.hid (crX_no (i := i) hmay)
    have HK := Lib.hid (chkH_no hmay)
    clear hno hyes hmay hl hb1 hW1
    have qT : ∀ (w : World) (a : Option Addr) (n c n' c' : Nat), (binOp .eql 28 (.slice a n c) (.slice none n' c')).run Tryz.prog w = .ok (.bool a.isNone) w := fun w a n c n' c' => Lib.run_eql_slice_nil w _ _ a n c n' c' Tryz.underlying28
    go_enter Tryz.func15, Tryz.ntmps15
    go_wp2_with fail
    rw [← HW1.out]
    refine HN.out.mono ?_
    rintro x w2 ⟨rfl, hb2⟩
    have R2 := Lib.hid (blk19 hb2 R1.out)
    have HB2 := Lib.hid (HB1.out.trans (hb2.mono HB1.out.size))
    have hrs := (Array.getElem?_eq_some_iff.1 R2.out).1
    obtain ⟨u0, f0⟩ := blk_cell (i := 0) R2.out
    obtain ⟨u1, f1⟩ := blk_cell (i := 1) R2.out
    simp at u0 u1
    clear hb2 R1 HB1 HW1 HN
    go_wp2
    refine bodyPost_ret (results_cell_h rfl _ _ (w.heap.size + 1) 42 _ (0, 0) _ rfl (set2_blk R2.out) Tryz.underlying42 rfl (by kernel_rfl)) rfl ?_
    exact ⟨none, 0, by rw [HX.out, HK.out]; rfl, by rw [HX.out]; exact SlE.nil _ _ _, (HB2.out.setCell (show w.heap.size ≤ (⟨w.heap.size + 1, 0, none⟩ : Addr).block from Nat.le_succ _) _).setCell (show w.heap.size ≤ (⟨w.heap.size + 1, 1, none⟩ : Addr).block from Nat.le_succ _) _⟩
  · have HY := Lib.hid (hyes W1 hb1 hmay)
    have HX := Lib.hid (crX_yes (i := i) hmay)
    have HK := Lib.hid (chkH_yes hmay)
    clear hno hyes hmay hl hb1 hW1
    have qT : ∀ (w : World) (a : Option Addr) (n c n' c' : Nat), (binOp .eql 28 (.slice a n c) (.slice none n' c')).run Tryz.prog w = .ok (.bool a.isNone) w := fun w a n c n' c' => Lib.run_eql_slice_nil w _ _ a n c n' c' Tryz.underlying28
    go_enter Tryz.func15, Tryz.ntmps15
    go_wp2_with fail
    rw [← HW1.out]
    refine HY.out.mono ?_
    rintro x w2 ⟨g, gc, rfl, ho2, hb2⟩
    have R2 := Lib.hid (blk19 hb2 R1.out)
    have HB2 := Lib.hid (HB1.out.trans (hb2.mono HB1.out.size))
    have HO2 := Lib.hid ho2
    have hrs := (Array.getElem?_eq_some_iff.1 R2.out).1
    obtain ⟨u0, f0⟩ := blk_cell (i := 0) R2.out
    obtain ⟨u1, f1⟩ := blk_cell (i := 1) R2.out
    simp at u0 u1
    clear hb2 ho2 HW1 HY
    go_wp2_with (go_at_call 22; refine (phead_any i _).mono ?_; rintro e w3 ⟨rfl, rfl⟩)
    obtain ⟨w3, hw3⟩ : ∃ w3, w3 = (w2.setCell ⟨w.heap.size + 1, 0, none⟩ (.string (headS i))).setCell ⟨w.heap.size + 1, 1, none⟩ (.slice (some ⟨w2.heap.size, 0, none⟩) 2 2) := ⟨_, rfl⟩
    rw [← hw3]
    have hs3 : w3.heap.size = w2.heap.size := by rw [hw3]; simp [World.setCell]
    have hne : ∀ b, b ≠ w.heap.size + 1 → w3.heap[b]? = w2.heap[b]? := fun b hb => by rw [hw3]; exact (Below.heap_setCell _ ⟨w.heap.size + 1, 1, none⟩ _ _ hb).trans (Below.heap_setCell _ ⟨w.heap.size + 1, 0, none⟩ _ _ hb)
    have R3 : w3.heap[w.heap.size + 1]? = some (.cells #[.string (headS i), .slice (some ⟨w2.heap.size, 0, none⟩) 2 2] 42 (0, 0)) := by rw [hw3]; exact set2_blk R2.out
    have HB3 : Below w.heap.size w w3 := by rw [hw3]; exact (HB2.out.setCell (show w.heap.size ≤ (⟨w.heap.size + 1, 0, none⟩ : Addr).block from Nat.le_succ _) _).setCell (show w.heap.size ≤ (⟨w.heap.size + 1, 1, none⟩ : Addr).block from Nat.le_succ _) _
    clear hw3
    obtain ⟨w4, hw4⟩ : ∃ w4, w4 = w3.alloc (.cells #[.int .i64 2, .int .i64 0, .int .i64 0, .string ⟨#[]⟩, .slice none 0 0, .int .i64 9, .int .i64 0, .int .i64 0, .string ⟨#[104, 101, 97, 100]⟩, .slice (some ⟨g, 0, none⟩) (pkD h).length gc] 47) := ⟨_, rfl⟩
    rw [← hw4]
    have b4 : w4.heap[w2.heap.size]? = some (.cells #[.int .i64 2, .int .i64 0, .int .i64 0, .string ⟨#[]⟩, .slice none 0 0, .int .i64 9, .int .i64 0, .int .i64 0, .string ⟨#[104, 101, 97, 100]⟩, .slice (some ⟨g, 0, none⟩) (pkD h).length gc] 47 (0, 0)) := by rw [hw4, ← hs3]; exact heap_alloc_new _ _
    have hb4 : Below w3.heap.size w3 w4 := by rw [hw4]; exact (Below.refl _ w3).alloc (Nat.le_refl _) _
    have hs1 := HB1.out.size
    have hs2 := HB2.out.size
    have hW1s : w.heap.size + 1 < W1.heap.size := (Array.getElem?_eq_some_iff.1 R1.out).1
    refine bodyPost_ret (results_cell_h rfl _ _ (w.heap.size + 1) 42 _ (0, 0) _ rfl (blk19 hb4 R3) Tryz.underlying42 rfl (by kernel_rfl)) rfl ?_
    refine ⟨some ⟨w2.heap.size, 0, none⟩, 2, by rw [HX.out, HK.out]; rfl, ?_, call19 HB3 hb4⟩
    rw [HX.out]
    refine SlE.of_blk (E := Enc.op) (cap := 2) [[.int .i64 2, .int .i64 0, .int .i64 0, .string ⟨#[]⟩, .slice none 0 0], [.int .i64 9, .int .i64 0, .int .i64 0, .string ⟨#[104, 101, 97, 100]⟩, .slice (some ⟨g, 0, none⟩) (pkD h).length gc]] rfl (fun j x c hj hc => ?_) b4 rfl (by omega) (Nat.le_refl _)
    match j, hj, hc with
    | 0, hj, hc =>
      cases hj; cases hc
      exact ⟨_, rfl, RB.nil _ _⟩
    | 1, hj, hc =>
      cases hj; cases hc
      refine ⟨_, rfl, ?_⟩
      have h3 := RB.mono (HO2.out.rb.weak (A' := fun b => W1.heap.size ≤ b) fun b _ hb => hb) (w' := w3) ⟨by omega, fun b hb _ => hne b (by have : W1.heap.size ≤ b := hb; omega)⟩
      exact (h3.ext hb4).weak fun b _ hb => by have : W1.heap.size ≤ b := hb; omega
end Go.Proofs.YtlekdfajcpmolaaGreatDoor
namespace Go.Proofs.YtlekdfajcpmolaaGreatDoor
open Go.RowKit Go.WideShapes

theorem results_cell_h3 {P : Program} {fn : Func} {p u1 u2 u3 : Tmp} {ty : TypeId} (h : fn.results = #[.cell p ty, .tmp u1, .tmp u2, .tmp u3]) (tmps : Array Value) (w : World) (g : Nat) (t : TypeId) (cs : Array Value) (fr : Nat × Nat) (d : TypeDesc)
    (hp : tmps.getD p undef = .pointer (some ⟨g, 0, none⟩)) (hg : w.heap[g]? = some (.cells cs t fr))
    (hu : P.underlying ty = some d) (hd : (match d with | .struct _ | .array _ _ => true | _ => false) = true) (hi : (P.info? ty).map (·.size) = some cs.size) :
    (results fn tmps).run P w = .ok (.tuple #[.agg cs, tmps.getD u1 undef, tmps.getD u2 undef, tmps.getD u3 undef]) w := by
  have hp' : tmps[p]?.getD undef = .pointer (some ⟨g, 0, none⟩) := by simpa using hp
  simp [results, h, hp', asAddr, run_loadVar_row w g t ty cs fr d hg hu hd hi]
/-- what plan.Do leaves -/
def DoO (w : World) (P : DoP) (e : Ending) (w' : World) : Prop := ∃ hv la lc, e = .returned (.tuple #[hv, .slice la P.l.length lc, .int .i64 P.id, .int .i64 P.e]) ∧ HeV (fun b => w.heap.size ≤ b) w' hv P.h ∧ SlE Enc.txn (fun b => w.heap.size ≤ b) w' (.slice la P.l.length lc) P.l ∧ Below w.heap.size w w'
theorem DoO.no {x : Int} {P : DoP} {w w' : World} (h : P = DoP.no x) (hb : Below w.heap.size w w') : DoO w P (.returned (.tuple #[.agg #[.int .i64 0, .int .i64 0, .int .i64 0, .int .i64 0, .slice none 0 0, .slice none 0 0, .int .i64 0, .int .i64 0], .slice none 0 0, .int .i64 0, .int .i64 x])) w' := by
  subst h
  exact ⟨_, none, 0, rfl, HeV.none _ _, SlE.nil _ _ _, hb⟩
theorem doP_no {i : Int} {h : HeD} {e : EnD} {x : Int} (hm : mayHD h = true) (he : mayE e = true) (hs : h.seq < e.seq) (hx : (opPl h (clE e)).e = x) (h0 : x ≠ 0) : doP i h e = DoP.no x := by
  unfold doP
  rw [if_neg (by rw [hm]; decide), if_neg (by rw [he]; simp; omega), if_pos (by rw [hx]; exact h0), hx]
theorem doP_ok {i : Int} {h : HeD} {e : EnD} {H : HeD} {l : List StpD} {id : Int} (hm : mayHD h = true) (he : mayE e = true) (hs : h.seq < e.seq) (hx : opPl h (clE e) = ⟨H, l, id, 0⟩) :
    doP i h e = ⟨H.atS e.seq, l.map (txS i h e.seq) ++ [lastT i e.seq (headB' (H.atS e.seq))], id, 0⟩ ∧ mayHD (H.atS e.seq) = true := by
  have hd : doH h (clE e) = H.atS e.seq := by
    unfold doH
    rw [hx]
    dsimp only [clE]
  refine ⟨?_, ?_⟩
  · unfold doP
    rw [if_neg (by rw [hm]; decide), if_neg (by rw [he]; simp; omega), hx]
    dsimp only
    rw [if_neg (by decide), hd]
  · rw [← hd]
    exact opPl_may hm (clE_may he) (by rw [hx])
theorem un_pkD {h : HeD} (hm : mayD h = true) : unD (pkD h) = (h, 0) := by
  refine un_pkH (okL := okB) (objs := ObNum) (fun u c o ho => ?_) hm
  have H := lay_of ho
  obtain ⟨h1, h2, h3, h4, h5, -⟩ := H
  exact ⟨by omega, by omega, by omega, by omega, by omega, by omega⟩
theorem okl_may {h : HeD} (hm : mayD h = true) : h.okl := by
  have M := (mayH_iff h).1 hm
  have z := (may_parts (sized_parts M.sz).2.2.1).2.1
  refine ⟨by omega, by have := M.few; omega, fun s hs => ?_⟩
  have := (may_parts (sized_parts (snaps_sized _ _ M.snaps s hs).2).2.2.1).2.1
  omega
/-- the number of the operation is laid -/
theorem WkM.seqd {A : Nat → Prop} {B K : Nat} {W : World} {i : Int} {was h : HeD} {e : EnD} {l : List TxD} (hw : WkM A B K W i was h e l) (hA : ∀ b, A b → b < B) (hK : B + 7 ≤ K) (q : Int) : WkM A B K (W.setCell ⟨B + 3, 15, none⟩ (.int .i64 q)) i was (h.atS q) e l := by
  have hsm : Same A W (W.setCell ⟨B + 3, 15, none⟩ (.int .i64 q)) := ⟨by simp [World.setCell], fun b hb _ => Below.heap_setCell _ _ _ _ (show b ≠ B + 3 by have := hA b hb; omega)⟩
  have ne : ∀ b, b ≠ B + 3 → (W.setCell ⟨B + 3, 15, none⟩ (.int .i64 q)).heap[b]? = W.heap[b]? := fun b hb => Below.heap_setCell _ _ _ _ hb
  obtain ⟨P0, ⟨ev, P2, hev⟩, P4, ⟨av, P6, hav⟩, wm, wss, hm, hs, ev', lv, P3, q1, q2, q3, q4, q5, q6⟩ := hw
  refine ⟨(ne _ (by omega)).trans P0, ⟨ev, (ne _ (by omega)).trans P2, hev.mono hsm⟩, (ne _ (by omega)).trans P4, ⟨av, (ne _ (by omega)).trans P6, ?_⟩, ⟨wm, wss, hm, hs, ev', lv, setI_blk P3, SlE.mono q1 hsm, SlE.mono q2 hsm, q3.imp (fun h => SlE.mono h hsm) (fun h => h.same fun g e => ne g (by have := (h.lt g e).1; omega)), SlE.mono q4 hsm, q5.mono hsm, q6.same ⟨by simp [World.setCell], fun b hb _ => ne b (by have : K ≤ b := hb; omega)⟩⟩⟩
  exact hav.keepN (by simp [World.setCell]) fun g hg => ne g (by have := (hav.lt g hg).1; omega)
/-- the head of a plan, as it lies -/
theorem WkM.head {A : Nat → Prop} {B K : Nat} {W : World} {i : Int} {was h : HeD} {e : EnD} {l : List TxD} (hw : WkM A B K W i was h e l) : ∃ wm wss ma mc sa sc ev la lc, W.heap[B + 3]? = some (.cells (wkC was h wm wss (.slice ma h.map.length mc) (.slice sa h.snaps.length sc) e ev (.slice la l.length lc) (stepF (B + 6) (B + 2) (B + 4) B)).toArray 113 (0, 0)) ∧ HeV (fun _ => True) W (hdV h (.slice ma h.map.length mc) (.slice sa h.snaps.length sc)) h ∧ EnR Enc.txn 42 K W (.slice la l.length lc) l := by
  obtain ⟨P0, ⟨ev, P2, hev⟩, P4, ⟨av, P6, hav⟩, wm, wss, hm, hs, ev', lv, P3, q1, q2, q3, q4, q5, q6⟩ := hw
  have hmi : IntsA (fun _ => True) W hm h.map := by
    rcases q3 with h | h
    · exact SlE.weak h fun _ _ _ => trivial
    · exact SlE.weak h.sle fun _ _ _ => trivial
  obtain ⟨ma, mc, rfl⟩ := hmi.shape
  obtain ⟨sa, sc, rfl⟩ := q4.shape
  obtain ⟨la, lc, rfl⟩ := q6.shape
  exact ⟨wm, wss, ma, mc, sa, sc, ev', la, lc, P3, ⟨_, _, rfl, hmi, SlE.weak q4 fun _ _ _ => trivial⟩, q6⟩
/-- three operations in a row of the call's own, the middle one with data -/
theorem ops3 {A : Nat → Prop} {g : Nat} {w : World} {seq : Int} {dv : Value} {d : List UInt8} (hg : w.heap[g]? = some (.cells #[.int .i64 4, .int .i64 0, .int .i64 seq, .string ⟨#[]⟩, .slice none 0 0, .int .i64 9, .int .i64 0, .int .i64 0, .string ⟨#[104, 101, 97, 100]⟩, dv, .int .i64 12, .int .i64 0, .int .i64 seq, .string ⟨#[]⟩, .slice none 0 0] 47 (0, 0))) (hd : RB A w dv d) (hA : A g) :
    SlE Enc.op A w (.slice (some ⟨g, 0, none⟩) 3 3) [⟨4, 0, seq, ByteArray.empty, []⟩, ⟨9, 0, 0, keyH, d⟩, ⟨12, 0, seq, ByteArray.empty, []⟩] := by
  refine SlE.of_blk (E := Enc.op) (cap := 3) (l := [⟨4, 0, seq, ByteArray.empty, []⟩, ⟨9, 0, 0, keyH, d⟩, ⟨12, 0, seq, ByteArray.empty, []⟩]) [[.int .i64 4, .int .i64 0, .int .i64 seq, .string ⟨#[]⟩, .slice none 0 0], [.int .i64 9, .int .i64 0, .int .i64 0, .string ⟨#[104, 101, 97, 100]⟩, dv], [.int .i64 12, .int .i64 0, .int .i64 seq, .string ⟨#[]⟩, .slice none 0 0]] rfl (fun j x c hj hc => ?_) hg rfl hA (Nat.le_refl _)
  match j, hj, hc with
  | 0, hj, hc => cases hj; cases hc; exact ⟨_, rfl, RB.nil _ _⟩
  | 1, hj, hc => cases hj; cases hc; exact ⟨_, rfl, hd⟩
  | 2, hj, hc => cases hj; cases hc; exact ⟨_, rfl, RB.nil _ _⟩
theorem snapB_len {s : SnD} (h : mMay s.map = true) : (snapB s).length ≤ 400 := by
  have := mPack_len h
  unfold snapB blobB
  simp only [List.length_append, be_length]
  omega
theorem flatB_len : ∀ l : List SnD, (∀ s ∈ l, mMay s.map = true) → (l.flatMap snapB).length ≤ l.length * 400
  | [], _ => Nat.zero_le _
  | s :: l, h => by
    have h1 := snapB_len (h s (by simp))
    have h2 := flatB_len l fun x hx => h x (by simp [hx])
    rw [List.flatMap_cons, List.length_append, List.length_cons]
    omega
theorem pkD_len {h : HeD} (hm : mayD h = true) : (pkD h).length ≤ 100000 := by
  rw [pkD_yes hm]
  have M := (mayH_iff h).1 hm
  have h1 := mPack_len (sized_parts M.sz).2.2.1
  have h2 := flatB_len h.snaps fun s hs => (sized_parts (snaps_sized _ _ M.snaps s hs).2).2.2.1
  have h3 := M.few
  unfold headB' blobB
  simp only [List.length_append, be_length]
  omega
theorem DoO.ok {w w' : World} {P : DoP} {HN : HeD} {TL : List TxD} {LT : TxD} {id : Int} {g cap : Nat} {hv : Value} (hP : P = ⟨HN, TL ++ [LT], id, 0⟩) (h1 : HeV (fun b => w.heap.size ≤ b) w' hv HN) (h2 : SlE Enc.txn (fun b => w.heap.size ≤ b) w' (.slice (some ⟨g, 0, none⟩) (TL.length + 1) cap) (TL ++ [LT])) (hb : Below w.heap.size w w') :
    DoO w P (.returned (.tuple #[hv, .slice (some ⟨g, 0, none⟩) (TL.length + 1) cap, .int .i64 id, .int .i64 0])) w' := by
  subst hP
  have e : (TL ++ [LT]).length = TL.length + 1 := by simp
  exact ⟨hv, some ⟨g, 0, none⟩, cap, by rw [e], h1, by rw [e]; exact h2, hb⟩
/-- a transaction of three operations, boxed, since w -/
structure TxB (w W : World) (nm : ByteArray) (ops : Array Value) (s : Value) : Prop where
  mk ::
  ex : ∃ pt og : Nat, s = .pointer (some ⟨pt, 0, none⟩) ∧ w.heap.size ≤ pt ∧ w.heap.size ≤ og ∧ W.heap[pt]? = some (.cells #[.string nm, .slice (some ⟨og, 0, none⟩) 3 3] 42 (0, 0)) ∧ W.heap[og]? = some (.cells ops 47 (0, 0))
  bl : Below w.heap.size w W
theorem TxB.a {w : World} {nm : ByteArray} {ops : Array Value} : TxB w ((w.alloc (.cells #[.string nm, .slice (some ⟨w.heap.size + 1, 0, none⟩) 3 3] 42)).alloc (.cells ops 47)).drew nm ops (.pointer (some ⟨w.heap.size, 0, none⟩)) :=
  ⟨⟨w.heap.size, w.heap.size + 1, rfl, Nat.le_refl _, Nat.le_succ _, (Below.heap_alloc _ _ _ (by simp)).trans (heap_alloc_new w _), heap_alloc2_new w _ _⟩, Below.drew (((Below.refl _ w).alloc (Nat.le_refl _) _).alloc (by simp) _)⟩
theorem TxB.b {w : World} {nm : ByteArray} {ops : Array Value} : TxB w ((w.alloc (.cells ops 47)).alloc (.cells #[.string nm, .slice (some ⟨w.heap.size, 0, none⟩) 3 3] 42)).drew nm ops (.pointer (some ⟨w.heap.size + 1, 0, none⟩)) :=
  ⟨⟨w.heap.size + 1, w.heap.size, rfl, Nat.le_succ _, Nat.le_refl _, heap_alloc2_new w _ _, (Below.heap_alloc _ _ _ (by simp)).trans (heap_alloc_new w _)⟩, Below.drew (((Below.refl _ w).alloc (Nat.le_refl _) _).alloc (by simp) _)⟩
end Go.Proofs.YtlekdfajcpmolaaGreatDoor
