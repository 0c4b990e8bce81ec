/- The walk of a plan's write. UNDER WAY: builds with a sorry. The walk of plan.Do at kind 1. Printed by gen_do19.py. The walk of terrazzolaw19.awake. -/
import Derived.Test.YtlekdfajcpmolaaGreatDoorGDF
import Derived.Deep.QuietTactic
import Derived.Deep.RegionHeld
import Derived.StillTailTactics
import Derived.IntWalk
import Derived.Test.YtlekdfajcpmolaaGreatDoorGDE
import Derived.Test.YtlekdfajcpmolaaGreatDoorGDC
import Derived.Deep.RegionHeldLaw
import Derived.Deep.DrawnRows
import Derived.Test.YtlekdfajcpmolaaGreatDoorGDA
import Derived.Test.YtlekdfajcpmolaaGreatDoorGDH
import Derived.Test.YtlekdfajcpmolaaGreatDoorGCZ
namespace Go.Proofs.YtlekdfajcpmolaaGreatDoor
open Go.RowKit Go.WideShapes

theorem Pts.at {A : Nat → Prop} {w : World} {a : Option Addr} {n c : Nat} {l : List PtD} (h : SlE Enc.pt A w (.slice a n c) l) {i : Nat} (hi : i < l.length) :
    ∃ b off xa xc, a = some ⟨b, off, none⟩ ∧ b < w.heap.size ∧ A b ∧ w.cell? ⟨b, off + i * 4, none⟩ = some (.int .i64 l[i].ob) ∧ w.cell? ⟨b, off + i * 4 + 1, none⟩ = some (.int .i64 l[i].off) ∧ w.cell? ⟨b, off + i * 4 + 2, none⟩ = some (.int .i64 l[i].n) ∧
      w.cell? ⟨b, off + i * 4 + 3, none⟩ = some (.slice xa l[i].pcs.length xc) ∧ SlE Enc.pc A w (.slice xa l[i].pcs.length xc) l[i].pcs := by
  obtain ⟨b, off, cap, cs, e, hb, hA, ⟨v, rfl, hv⟩, hc⟩ := h.at (i := i) (x := l[i]) (by simp [hi])
  simp only [Value.slice.injEq] at e
  obtain ⟨rfl, _, _⟩ := e
  obtain ⟨xa, xc, rfl⟩ := hv.shape
  exact ⟨b, off, xa, xc, rfl, hb, hA, hc 0 (by decide), hc 1 (by decide), hc 2 (by decide), hc 3 (by decide), hv⟩
theorem Pcz.at {A : Nat → Prop} {w : World} {a : Option Addr} {n c : Nat} {l : List Pc} (h : SlE Enc.pc A w (.slice a n c) l) {i : Nat} (hi : i < l.length) :
    ∃ b off, a = some ⟨b, off, none⟩ ∧ b < w.heap.size ∧ w.cell? ⟨b, off + i * 4, none⟩ = some (.int .i64 l[i].ob) ∧ w.cell? ⟨b, off + i * 4 + 1, none⟩ = some (.int .i64 l[i].off) ∧ w.cell? ⟨b, off + i * 4 + 2, none⟩ = some (.int .i64 l[i].len) ∧ w.cell? ⟨b, off + i * 4 + 3, none⟩ = some (.int .i64 l[i].fr) := by
  obtain ⟨b, off, cap, cs, e, hb, hA, rfl, hc⟩ := h.at (i := i) (x := l[i]) (by simp [hi])
  simp only [Value.slice.injEq] at e
  obtain ⟨rfl, _, _⟩ := e
  exact ⟨b, off, rfl, hb, hc 0 (by decide), hc 1 (by decide), hc 2 (by decide), hc 3 (by decide)⟩
/-- a row lies in no block of another type -/
theorem EnR.ne_ty {α : Type} {E : Enc α} {t t' : TypeId} {base b : Nat} {w : World} {v : Value} {l : List α} {cs : Array Value} {fr : Nat × Nat} (h : EnR E t base w v l) (hb : w.heap[b]? = some (.cells cs t' fr)) (hne : t' ≠ t) : v.ownBlock ≠ some b := fun hown => by
  obtain ⟨ds, q1, q2, q3⟩ := h.ex
  rcases q3.2 with ⟨e0, _⟩ | ⟨g', cap', cur, e0, r1, r2, r3⟩
  · rw [e0] at hown; cases hown
  · rw [e0] at hown
    have e1 : g' = b := Option.some.inj hown
    subst e1
    rw [hb] at r2
    simp at r2
    exact hne r2.2.1
/-- an operation of the call's own, handed to a step -/
theorem op_row {KK g z : Nat} {w : World} {k off n : Int} {nm : ByteArray} {dv lv : Value} {d : List UInt8} {l : List TxD} (hg : w.heap[g]? = some (.cells #[.int .i64 k, .int .i64 off, .int .i64 n, .string nm, dv] 47 (0, 0))) (hd : OB z w dv d) (hz : KK ≤ z) (hgk : KK ≤ g) (hl : EnR Enc.txn 42 KK w lv l) :
    SlE Enc.op (fun b => KK ≤ b ∧ lv.ownBlock ≠ some b) w (.slice (some ⟨g, 0, none⟩) 1 1) [⟨k, off, n, nm, d⟩] := by
  refine SlE.of_blk (E := Enc.op) (A := fun b => KK ≤ b ∧ lv.ownBlock ≠ some b) (cap := 1) (l := [⟨k, off, n, nm, d⟩]) [[.int .i64 k, .int .i64 off, .int .i64 n, .string nm, dv]] rfl (fun j x c hj hc => ?_) hg rfl ⟨hgk, hl.ne_ty hg (by decide)⟩ (Nat.le_refl _)
  match j, hj, hc with
  | 0, hj, hc =>
    cases hj; cases hc
    exact ⟨_, rfl, RB.weak (A' := fun b => KK ≤ b ∧ lv.ownBlock ≠ some b) hd.rbU fun b _ hb => ⟨Nat.le_trans hz hb.1, by obtain ⟨cs, hcs⟩ := hb.2; exact hl.ne_ty hcs (by decide)⟩⟩
theorem setAll_512 : ∀ (l : List StpD) (m : List Int), m.length ≤ 512 → (setAll m l).length ≤ 512
  | [], _, h => h
  | s :: l, m, _ => setAll_512 l _ (may_parts (mSet_may m s.n s.st)).2.1
theorem partsC_len (ps : List Pc) : (partsC ps).length ≤ 512 := by
  unfold partsC
  rw [List.length_map]
  exact Nat.le_trans (List.length_filter_le _ _) (by simp)
/-- what a step leaves, in a loop that lays steps since w3 -/
structure WrO (A : Nat → Prop) (B p : Nat) (w3 : World) (i : Int) (was h : HeD) (e : EnD) (l : List TxD) (x y : Value) (en : Ending) (w' : World) : Prop where
  mk ::
  en : en = .returned (.tuple #[])
  wk : WkM A B w3.heap.size w' i was h e l
  st : ∀ b, b < w3.heap.size → b ≠ B + 3 → w'.heap[b]? = w3.heap[b]?
  bl : Below B w3 w'
  c : w'.cell? ⟨B + 3, 24, none⟩ = some (stepF (B + 6) (B + 2) (B + 4) B) ∧ w'.cell? ⟨p, 0, none⟩ = some x ∧ w'.cell? ⟨p, 1, none⟩ = some y
/-- some pieces' bytes -/
def wrB (data : List UInt8) (l : List Pc) : List UInt8 := l.flatMap fun p => (data.drop p.fr.toNat).take p.len.toNat
theorem wrB_succ (data : List UInt8) {l : List Pc} {q : Nat} (hq : q < l.length) : wrB data (l.take (q + 1)) = wrB data (l.take q) ++ (data.drop l[q].fr.toNat).take l[q].len.toNat := by
  unfold wrB
  rw [List.take_succ_eq_append_getElem hq, List.flatMap_append]
  simp
theorem wrB_len (data : List UInt8) (hd : data.length ≤ 512) : ∀ l : List Pc, (wrB data l).length ≤ l.length * 512
  | [] => Nat.zero_le _
  | p :: l => by
    have := wrB_len data hd l
    unfold wrB at this ⊢
    rw [List.flatMap_cons, List.length_append, List.length_take, List.length_drop, List.length_cons]
    omega
theorem parts_good {u c o off : Int} {n : Nat} {x : PtD} (hx : x ∈ partsC (pcs u c o off n)) : (∀ p ∈ x.pcs, PcGood u c o off n p) ∧ x.pcs.length ≤ n := by
  unfold partsC at hx
  obtain ⟨k, -, rfl⟩ := List.mem_map.1 hx
  exact ⟨fun p hp => pcs_good u c o off n p (List.mem_filter.1 hp).1, Nat.le_trans (List.length_filter_le _ _) (length_pcs u c o off n)⟩
/-- a plan stands where all else is made anew -/
theorem WkM.ext {A : Nat → Prop} {B K : Nat} {w w' : World} {i : Int} {was h : HeD} {e : EnD} {l : List TxD} (hw : WkM A B K w i was h e l) (hb : Below w.heap.size w w') : WkM A B K w' i was h e l := by
  obtain ⟨P0, ⟨ev, P2, hev⟩, P4, ⟨av, P6, hav⟩, wm, wss, hm, hs, ev', lv, P3, q1, q2, q3, q4, q5, q6⟩ := hw
  exact ⟨blk19 hb P0, ⟨ev, blk19 hb P2, RB.ext hev hb⟩, blk19 hb P4, ⟨av, blk19 hb P6, hav.ext hb⟩, ⟨wm, wss, hm, hs, ev', lv, blk19 hb P3, SlE.ext q1 hb, SlE.ext q2 hb, q3.imp (fun h => SlE.ext h hb) (fun h => h.ext hb), SlE.ext q4 hb, RB.ext q5 hb, q6.ext hb⟩⟩
theorem PCS_is {u c o off : Int} {n : Nat} (hok : okB u c o = true) (h0 : 0 ≤ off) (h1 : off ≤ 1099511627776) (hn : n ≤ 512) : PCS u c o off n = pcs u c o off n := by
  unfold PCS
  have hf : inF off = true := by rw [inF_iff]; omega
  rw [hok, hf]
  simp
  omega
/-- a span of an image lies in its first objects -/
theorem pcs_low {u c o off : Int} {n : Nat} (hok : okB u c o = true) (h0 : 0 ≤ off) (h1 : off ≤ 512) (h2 : off + n ≤ 512) : ∀ p ∈ PCS u c o off n, 0 ≤ p.ob ∧ p.ob < 512 := by
  rw [PCS_is hok h0 (by omega) (by omega)]
  intro p hp
  have g := pcs_good u c o off n p hp
  have g1 := g.fr
  have g2 := g.len
  have g3 := g.end_
  have g4 := (g.is 0 (by omega) (by omega)).1
  have a := plO_le_off (lay_of hok) (off := off + p.fr + 0) (by omega)
  have b := plO_nonneg (lay_of hok) (off := off + p.fr + 0) (by omega)
  omega
set_option maxRecDepth 100000 in
set_option maxHeartbeats 1600000 in
theorem write_any (A : Nat → Prop) (B : Nat) (i : Int) (was h : HeD) (e : EnD) (w : World) (hL : ∀ W, Below B w W → LayW W) (hA : ∀ b, A b → b < B) (hw : ∀ K, WkM A B K w i was h e [])
    (h0 : 0 ≤ e.off) (h1 : e.off ≤ 1099511627776) (h2 : e.data.length ≤ 512) (hob : e.off + e.data.length ≤ was.size → ∀ p ∈ PCS was.u was.c was.o e.off e.data.length, 0 ≤ p.ob ∧ p.ob < 512) (hml : h.map.length ≤ 512) (hok : okB was.u was.c was.o = true) :
    Calls Tryz.prog 47 #[.pointer (some ⟨B + 3, 0, none⟩)] w fun en w' =>
      (was.size < e.off + e.data.length ∧ en = .returned (.int .i64 180) ∧ Below B w w') ∨
      (e.off + e.data.length ≤ was.size ∧ en = .returned (.int .i64 0) ∧ (∃ K, B + 7 ≤ K ∧ K ≤ w'.heap.size ∧ WkM A B K w' i was ⟨h.u, h.c, h.o, h.size, setAll h.map (wrSteps was e.off e.data), h.snaps, h.last, h.seq⟩ e ((wrSteps was e.off e.data).map (txS i was e.seq))) ∧ Below B w w') := by
  have HW := Lib.hid hw
  obtain ⟨P0, ⟨ev, P2, hev⟩, P4, ⟨av, P6, hav⟩, wm, wss, hm, hs, ev', lv, P3, q1, q2, q3, q4, q5, q6⟩ := hw 0
  obtain ⟨ea, ec, rfl⟩ := q5.shape
  have HE := Lib.hid q5
  have P3H := Lib.hid P3
  clear P0 P2 hev P4 P6 hav q1 q2 q3 q4 q5 q6
  obtain ⟨c0, -⟩ := blk_cell (i := 0) P3
  obtain ⟨c1, -⟩ := blk_cell (i := 1) P3
  obtain ⟨c2, -⟩ := blk_cell (i := 2) P3
  obtain ⟨c3, -⟩ := blk_cell (i := 3) P3
  obtain ⟨c19, -⟩ := blk_cell (i := 19) P3
  obtain ⟨c22, -⟩ := blk_cell (i := 22) P3
  obtain ⟨u, c, o, sz, m0, ss0, la0, sq0⟩ := was
  obtain ⟨eq, eo, ek, ef, el, es, ed⟩ := e
  simp only at *
  replace c0 : w.cell? ⟨B + 3, 0, none⟩ = some (.int .i64 u) := c0
  replace c1 : w.cell? ⟨B + 3, 1, none⟩ = some (.int .i64 c) := c1
  replace c2 : w.cell? ⟨B + 3, 2, none⟩ = some (.int .i64 o) := c2
  replace c3 : w.cell? ⟨B + 3, 3, none⟩ = some (.int .i64 sz) := c3
  replace c19 : w.cell? ⟨B + 3, 19, none⟩ = some (.int .i64 ef) := c19
  replace c22 : w.cell? ⟨B + 3, 22, none⟩ = some (.slice ea ed.length ec) := c22
  clear P3
  have hbd : ef + ed.length ≤ 1099511628800 := by omega
  have hb0 : 0 ≤ ef + ed.length := by omega
  by_cases hgt : sz < ef + ed.length
  · go_enter Tryz.func47, Tryz.ntmps47
    go_wp2
    go_quiet (fail)
    go_wp2
    go_ret
    exact .inl ⟨hgt, rfl, by ((repeat' (first | exact Below.refl _ _ | refine below_drewN ?_ _ | refine Below.drew ?_ | refine Below.alloc ?_ ?_ _ | refine Below.trans ?_ (Below.mono (by assumption) ?_))); all_goals (first | exact Nat.le_refl _ | exact Below.size (by assumption) | omega | (simp; done) | (simp; omega)))⟩
  · have hws := wr_steps ⟨u, c, o, sz, m0, ss0, la0, sq0⟩ ef ed
    simp only at hws
    rw [← PCS_is hok h0 h1 h2] at hws
    have hpa := fun W => parts_any u c o ef ed.length W (hob (by omega))
    have hgd : ∀ x ∈ partsC (PCS u c o ef ed.length), (∀ p ∈ x.pcs, PcGood u c o ef ed.length p) ∧ x.pcs.length ≤ ed.length := by
      rw [PCS_is hok h0 h1 h2]
      exact fun x hx => parts_good hx
    obtain ⟨pl, hpl⟩ : ∃ pl, partsC (PCS u c o ef ed.length) = pl := ⟨_, rfl⟩
    rw [hpl] at hgd
    have hpl5 : pl.length ≤ 512 := by rw [← hpl]; exact partsC_len _
    have HGD := Lib.hid hgd
    clear hgd
    rw [hpl] at hws
    simp only [hpl] at hpa
    have HPA := Lib.hid hpa
    have HWS := Lib.hid hws
    clear hpa hws hpl
    go_enter Tryz.func47, Tryz.ntmps47
    go_wp2
    go_quiet (fail)
    go_upto_region 3 with fail
    rw [decide_eq_false (show ¬ sz < ef + (ed.length : Int) by omega)]
    obtain ⟨wq, hwq⟩ : ∃ wq, wq = w.drewN nq := ⟨_, rfl⟩
    have hbq : Below w.heap.size w wq := by rw [hwq]; ((repeat' (first | exact Below.refl _ _ | refine below_drewN ?_ _ | refine Below.drew ?_ | refine Below.alloc ?_ ?_ _ | refine Below.trans ?_ (Below.mono (by assumption) ?_))); all_goals (first | exact Nat.le_refl _ | exact Below.size (by assumption) | omega | (simp; done) | (simp; omega)))
    rw [← hwq]
    have d0 := cellExt hbq c0
    have d1 := cellExt hbq c1
    have d2 := cellExt hbq c2
    have d19 := cellExt hbq c19
    have d22 := cellExt hbq c22
    have HBQ := Lib.hid hbq
    clear hwq hbq c0 c1 c2 c3 c19 c22
    have hcl : Hid (∀ W, Below wq.heap.size wq W → Below wq.heap.size wq W ∧ W.cell? ⟨B + 3, 0, none⟩ = some (.int .i64 u) ∧ W.cell? ⟨B + 3, 1, none⟩ = some (.int .i64 c) ∧ W.cell? ⟨B + 3, 2, none⟩ = some (.int .i64 o) ∧ W.cell? ⟨B + 3, 19, none⟩ = some (.int .i64 ef) ∧ W.cell? ⟨B + 3, 22, none⟩ = some (.slice ea ed.length ec)) :=
      Lib.hid fun W h => ⟨h, cellExt h d0, cellExt h d1, cellExt h d2, cellExt h d19, cellExt h d22⟩
    unfold lay at HPA
    go_region_held3 (fun W => Below wq.heap.size wq W ∧ W.cell? ⟨B + 3, 0, none⟩ = some (.int .i64 u) ∧ W.cell? ⟨B + 3, 1, none⟩ = some (.int .i64 c) ∧ W.cell? ⟨B + 3, 2, none⟩ = some (.int .i64 o) ∧ W.cell? ⟨B + 3, 19, none⟩ = some (.int .i64 ef) ∧ W.cell? ⟨B + 3, 22, none⟩ = some (.slice ea ed.length ec))
      ((refine hcl.out _ ?_; first
        | (with_reducible exact Below.drew (Below.refl _ _))
        | (with_reducible exact hz3)
        | (rename_i hh _ _; with_reducible exact hh.1)))
      (first | (go_at_call 88; refine (HPA.out _).mono ?_; rintro en w3 ⟨v3, rfl, hsl3, hb3⟩; obtain ⟨pa, pc, rfl⟩ := hsl3.shape; have HSL := Lib.hid hsl3; have hz3 : Below wq.heap.size wq w3 := Below.trans (Below.drew (Below.refl wq.heap.size wq)) (Below.mono hb3 (Nat.le_refl _))))
    go_wp2
    have HB3 : Hid (Below w.heap.size w w3) := Lib.hid (HBQ.out.trans (hz3.mono HBQ.out.size))
    have HW3 := Lib.hid (WkM.ext (HW.out w3.heap.size) HB3.out)
    clear hz3
    go_loopw [4, 5, 7, 44] (fun _ _ _ q44 wr => ∃ k : Nat, k ≤ pl.length ∧ q44 = .int .i64 k ∧ WkM A B w3.heap.size wr i ⟨u, c, o, sz, m0, ss0, la0, sq0⟩ ⟨h.u, h.c, h.o, h.size, setAll h.map ((pl.take k).map (wrP ed)), h.snaps, h.last, h.seq⟩ ⟨eq, eo, ek, ef, el, es, ed⟩ (((pl.take k).map (wrP ed)).map (txS i ⟨u, c, o, sz, m0, ss0, la0, sq0⟩ eq)) ∧
      (∀ b, b < w3.heap.size → b ≠ B + 3 → wr.heap[b]? = w3.heap[b]?) ∧ Below B w3 wr) (fun _ _ _ q44 _ => pl.length - (intOf q44).toNat)
    case atStart => exact ⟨0, Nat.zero_le _, rfl, HW3.out, fun _ _ _ => rfl, Below.refl _ _⟩
    case round =>
      rename World => wo
      obtain ⟨k, hk, rfl, hwk, hst, hbe⟩ := hrel
      have HWK := Lib.hid hwk
      have HST := Lib.hid hst
      have HBE := Lib.hid hbe
      clear hwk hst hbe
      by_cases hlt : k < pl.length
      · have hB3 := (Array.getElem?_eq_some_iff.1 P3H.out).1
        have hsq := HBQ.out.size
        have hs3 := HBE.out.size
        have HSR := Lib.hid (SlE.mono HSL.out ⟨hs3, fun b hb hl => HST.out b hl (by have : wq.heap.size ≤ b := hb; omega)⟩)
        obtain ⟨b, off, xa, xc, rfl, hb, -, c0, c1, c2, c3, hx⟩ := Pts.at HSR.out hlt
        have HTK : Hid ((pl.take (k + 1)).map (wrP ed) = (pl.take k).map (wrP ed) ++ [wrP ed pl[k]]) := Lib.hid (by rw [List.take_succ_eq_append_getElem hlt, List.map_append]; rfl)
        have HMX : Hid (pl[k] ∈ pl) := Lib.hid (List.getElem_mem hlt)
        generalize pl[k] = x at *
        have HX := Lib.hid hx
        clear hx
        obtain ⟨hgx, hxl⟩ := HGD.out x HMX.out
        have HGX := Lib.hid hgx
        clear hgx HMX
        obtain ⟨xob, xoff, xn, xps⟩ := x
        simp only at *
        go_wp2
        obtain ⟨w4, hw4⟩ : ∃ w4, w4 = wo.alloc (.cells #[.int .i64 xob, .int .i64 xoff, .int .i64 xn, .slice xa xps.length xc] 155) := ⟨_, rfl⟩
        rw [← hw4]
        have P4 := Lib.hid (show w4.heap[wo.heap.size]? = some (.cells #[.int .i64 xob, .int .i64 xoff, .int .i64 xn, .slice xa xps.length xc] 155 (0, 0)) from by rw [hw4]; exact heap_alloc_new _ _)
        have hb4 : Below wo.heap.size wo w4 := by rw [hw4]; ((repeat' (first | exact Below.refl _ _ | refine below_drewN ?_ _ | refine Below.drew ?_ | refine Below.alloc ?_ ?_ _ | refine Below.trans ?_ (Below.mono (by assumption) ?_))); all_goals (first | exact Nat.le_refl _ | exact Below.size (by assumption) | omega | (simp; done) | (simp; omega)))
        have HX4 := Lib.hid (SlE.ext HX.out hb4)
        have HB4 := Lib.hid hb4
        have hs4 := hb4.size
        have hb4s : wo.heap.size < w4.heap.size := (Array.getElem?_eq_some_iff.1 P4.out).1
        clear hw4 hb4
        go_loopw [5, 7, 51] (fun q5 _ q51 wr => ∃ q : Nat, q ≤ xps.length ∧ q51 = .int .i64 q ∧ OB w4.heap.size wr q5 (wrB ed (xps.take q)) ∧ Below w4.heap.size w4 wr) (fun _ _ q51 _ => xps.length - (intOf q51).toNat)
        case atStart => exact ⟨0, Nat.zero_le _, rfl, OB.nil _ _, Below.refl _ _⟩
        case round =>
          obtain ⟨q, hq, rfl, hob5, hbz⟩ := hrel
          have HOB := Lib.hid hob5
          have HBZ := Lib.hid hbz
          clear hob5 hbz
          obtain ⟨-, -, -, -, wm2, wss2, hm2, hs2, ev2, lv2, B3r, -, -, -, -, q5r, q6r⟩ := HWK.out
          obtain ⟨ea2, ec2, rfl⟩ := q5r.shape
          obtain ⟨la2, lc2, rfl⟩ := q6r.shape
          have hbrz : Below wo.heap.size wo wr := HB4.out.trans (HBZ.out.mono hs4)
          have B3z := Lib.hid (blk19 hbrz B3r)
          have HEZ := Lib.hid (q5r.ext hbrz)
          have hsz := hbrz.size
          have hszz := HBZ.out.size
          have HBRZ := Lib.hid hbrz
          clear B3r q5r q6r hbrz
          by_cases hqt : q < xps.length
          · obtain ⟨pb, po, rfl, hpb, p0, p1, p2, p3⟩ := Pcz.at (SlE.ext HX4.out HBZ.out) hqt
            obtain ⟨fr, hfr⟩ : ∃ fr : Nat, xps[q].fr = (fr : Int) := ⟨xps[q].fr.toNat, by have := (HGX.out _ (List.getElem_mem hqt)).fr; omega⟩
            obtain ⟨ln, hln⟩ : ∃ ln : Nat, xps[q].len = (ln : Int) := ⟨xps[q].len.toNat, by have := (HGX.out _ (List.getElem_mem hqt)).len; omega⟩
            have hg := HGX.out _ (List.getElem_mem hqt)
            have g1 := hg.len
            have g2 := hg.end_
            have HSU : Hid (wrB ed (xps.take (q + 1)) = wrB ed (xps.take q) ++ (ed.drop fr).take ln) := Lib.hid (by rw [wrB_succ ed hqt, hfr, hln]; simp)
            rw [hfr, hln] at g2
            rw [hln] at g1 p2
            rw [hfr] at p3
            clear hg hfr hln
            generalize xps[q].ob = b0 at *
            generalize xps[q].off = b1 at *
            have hel : fr + ln ≤ ed.length := by omega
            obtain ⟨eb, eoff, rfl, heb, hec⟩ : ∃ eb eoff, ea2 = some ⟨eb, eoff, none⟩ ∧ eb < wr.heap.size ∧ ed.length ≤ ec2 := by
              obtain ⟨b, o, h1, h2, -, h3, -⟩ := RB.lie (l := ed) HEZ.out (by omega)
              exact ⟨b, o, h1, h2, h3⟩
            have HCUT : Hid (∀ c', ln ≤ c' → RB A wr (.slice (some ⟨eb, eoff + fr, none⟩) ln c') ((ed.drop fr).take ln)) := Lib.hid fun c' hc' => by
              have h1 : RB A wr (.slice (some ⟨eb, eoff + fr, none⟩) (ed.length - fr) (ec2 - fr)) (ed.drop fr) := RB.drop (l := ed) (c := ec2) HEZ.out (by omega) _ (by omega) (by omega)
              have hl : (ed.drop fr).length = ed.length - fr := by simp
              rw [← hl] at h1
              exact RB.take (l := ed.drop fr) (c := ec2 - fr) h1 (by omega) c' hc' (by omega)
            have hwl := wrB_len ed h2 (xps.take q)
            have hwl2 : (wrB ed (xps.take q)).length ≤ 512 * 512 := by
              rw [List.length_take] at hwl
              omega
            go_upto_region 10 with fail
            obtain ⟨w5, hw5⟩ : ∃ w5, w5 = wr.alloc (.cells #[.int .i64 b0, .int .i64 b1, .int .i64 (ln : Nat), .int .i64 (fr : Nat)] 162) := ⟨_, rfl⟩
            rw [← hw5]
            have hb5 : Below wr.heap.size wr w5 := by rw [hw5]; ((repeat' (first | exact Below.refl _ _ | refine below_drewN ?_ _ | refine Below.drew ?_ | refine Below.alloc ?_ ?_ _ | refine Below.trans ?_ (Below.mono (by assumption) ?_))); all_goals (first | exact Nat.le_refl _ | exact Below.size (by assumption) | omega | (simp; done) | (simp; omega)))
            have X5 := Lib.hid (show w5.heap[wr.heap.size]? = some (.cells #[.int .i64 b0, .int .i64 b1, .int .i64 (ln : Nat), .int .i64 (fr : Nat)] 162 (0, 0)) from by rw [hw5]; exact heap_alloc_new _ _)
            have B35 := Lib.hid (blk19 hb5 B3z.out)
            have hs5 := hb5.size
            clear hw5 p0 p1 p2 p3
            obtain ⟨x2, -⟩ := blk_cell (i := 2) X5.out
            obtain ⟨x3, -⟩ := blk_cell (i := 3) X5.out
            obtain ⟨y22, -⟩ := blk_cell (i := 22) B35.out
            simp at x2 x3
            replace y22 : w5.cell? ⟨B + 3, 22, none⟩ = some (.slice (some ⟨eb, eoff, none⟩) ed.length ec2) := y22
            have i0 : (0 : Int) ≤ (fr : Int) := by omega
            have i1 : (fr : Int) + ln ≤ ed.length := by omega
            have i2 : (ed.length : Int) ≤ ec2 := by omega
            have i3 : (fr : Int) < ec2 := by omega
            have hsum : IntKind.i64.wrap ((fr : Int) + ln) = (fr : Int) + ln := IntWalk.i64_in _ (by omega)
            go_still_tail 14, (by kernel_rfl)
            refine wpStill_step (fun K hK => ?_)
            go_simp
            rw [if_pos ⟨by omega, by omega⟩, if_pos (by omega), if_neg (by omega), show ((fr : Int) + ln).toNat - fr = ln by omega]
            refine ⟨rfl, hK _ ?_⟩
            clear hK K
            refine wpStill_nil ?_
            have HOB5 := Lib.hid (HOB.out.ext hb5)
            have hbd : Below w5.heap.size w5 w5.drew := Below.drew (Below.refl _ _)
            change wpList _ _ _ _ _ w5.drew
            refine wpList_appB w5.drew rfl _ _ rfl w4.heap.size _ (wrB ed (xps.take q)) (by rfl) (HOB5.out.ext hbd) A _ ((ed.drop fr).take ln) (by rfl) (((HCUT.out (ec2 - fr) (by omega)).ext hb5).ext hbd) (by simp only [List.length_take, List.length_drop]; omega) (by have := hbd.size; omega) ?_
            intro v6 w6 ho6 hb6
            rw [← HSU.out] at ho6
            have HO6 := Lib.hid ho6
            have HB6 : Hid (Below w4.heap.size w4 w6) := Lib.hid ((HBZ.out.trans ((hb5.trans (hbd.mono hs5)).mono hszz)).trans hb6)
            clear hbd ho6 hb6 hb5 HOB5
            go_wp2
            go_roundw
            case rel => exact ⟨q + 1, by omega, by go_num, HO6.out, HB6.out⟩
            case measure => simp [intOf]; omega
          · obtain rfl : q = xps.length := by omega
            rw [List.take_length] at HOB
            obtain ⟨ba, bc, rfl⟩ := HOB.out.rb.shape
            have hB7 : B + 7 ≤ w.heap.size := by
              obtain ⟨av, hav, -⟩ := (HW.out 0).ah
              have := (Array.getElem?_eq_some_iff.1 hav).1
              omega
            have P4r := Lib.hid (blk19 HBZ.out P4.out)
            obtain ⟨v0, -⟩ := blk_cell (i := 0) P4r.out
            obtain ⟨v1, -⟩ := blk_cell (i := 1) P4r.out
            obtain ⟨y24, -⟩ := blk_cell (i := 24) B3z.out
            simp at v0 v1
            replace y24 : wr.cell? ⟨B + 3, 24, none⟩ = some (stepF (B + 6) (B + 2) (B + 4) B) := y24
            have hbx1 : wo.heap.size < wr.heap.size := Nat.lt_of_lt_of_le hb4s hszz
            have hbx2 : B + 3 < wr.heap.size := (Array.getElem?_eq_some_iff.1 B3z.out).1
            have hW3 := HB3.out.size
            have HOBB := Lib.hid HOB.out
            have hstep : ∀ W, Below wr.heap.size wr W → W.heap[wr.heap.size]? = some (.cells #[.int .i64 5, .int .i64 xoff, .int .i64 0, .string ⟨#[]⟩, .slice ba (wrB ed xps).length bc] 47 (0, 0)) →
                Calls Tryz.prog 97 #[.int .i64 xob, .int .i64 1, .slice (some ⟨wr.heap.size, 0, none⟩) 1 1, .pointer (some ⟨B + 6, 0, none⟩), .pointer (some ⟨B + 2, 0, none⟩), .pointer (some ⟨B + 4, 0, none⟩), .pointer (some ⟨B, 0, none⟩)] W
                  (WrO A B wo.heap.size w3 i ⟨u, c, o, sz, m0, ss0, la0, sq0⟩ ⟨h.u, h.c, h.o, h.size, setAll h.map ((pl.take (k + 1)).map (wrP ed)), h.snaps, h.last, h.seq⟩ ⟨eq, eo, ek, ef, el, es, ed⟩ (((pl.take (k + 1)).map (wrP ed)).map (txS i ⟨u, c, o, sz, m0, ss0, la0, sq0⟩ eq)) (.int .i64 xob) (.int .i64 xoff)) := fun W hb hblk => by
              have hbo : Below wo.heap.size wo W := HBRZ.out.trans (hb.mono hsz)
              have hsW := hb.size
              have hkm := WkM.ext HWK.out hbo
              have hob := HOBB.out.ext hb
              have htl : ((pl.take k).map (wrP ed)).length ≤ 512 := by rw [List.length_map, List.length_take]; omega
              refine (step_any A B w3.heap.size i xob 1 _ _ _ _ (some ⟨wr.heap.size, 0, none⟩) 1 [⟨5, xoff, 0, ByteArray.empty, wrB ed xps⟩] W (hL W (((HB3.out.mono (by omega)).trans HBE.out).trans (hbo.mono (by omega)))) hA (by omega) (by omega) hkm (fun lv hlv => op_row hblk hob (by omega) (by omega) hlv) (by simp) (by rw [List.length_map]; omega) (Nat.le_trans (setAll_512 _ _ hml) (by decide))).mono ?_
              rintro en w7 ⟨rfl, h7, k7, s7, b7⟩
              have hP4 := (k7.2.2 wo.heap.size _ _ _ (blk19 hb P4r.out) (by decide) (by omega)).trans (blk19 hb P4r.out)
              obtain ⟨t0, -⟩ := blk_cell (i := 0) hP4
              obtain ⟨t1, -⟩ := blk_cell (i := 1) hP4
              simp at t0 t1
              have h24 : w7.cell? ⟨B + 3, 24, none⟩ = some (stepF (B + 6) (B + 2) (B + 4) B) := by
                obtain ⟨-, -, -, -, wm, wss, hm, hs, ev, lv, r3, -⟩ := h7
                exact (blk_cell (i := 24) r3).1
              refine ⟨rfl, ?_, fun b hb1 hb2 => ?_, HBE.out.trans ((hbo.mono (by omega)).trans b7), h24, t0, t1⟩
              · rw [HTK.out, setAll_snoc, List.map_append, List.map_singleton, txS_is]
                exact h7
              · rw [s7 b hb1 hb2, hbo.block b (by omega)]
                exact HST.out b hb1 hb2
            have HSTEP := Lib.hid hstep
            have hcl : Hid (∀ W, Below wr.heap.size wr W → W.cell? ⟨B + 3, 24, none⟩ = some (stepF (B + 6) (B + 2) (B + 4) B) ∧ W.cell? ⟨wo.heap.size, 0, none⟩ = some (.int .i64 xob) ∧ W.cell? ⟨wo.heap.size, 1, none⟩ = some (.int .i64 xoff)) := Lib.hid fun W h => ⟨cellExt h y24, cellExt h v0, cellExt h v1⟩
            have HQ5 := Lib.hid hgt
            clear hstep v0 v1 y24
            go_upto_region 12 with fail
            go_region_held3 (fun W => W.cell? ⟨B + 3, 24, none⟩ = some (stepF (B + 6) (B + 2) (B + 4) B) ∧ W.cell? ⟨wo.heap.size, 0, none⟩ = some (.int .i64 xob) ∧ W.cell? ⟨wo.heap.size, 1, none⟩ = some (.int .i64 xoff))
              ((first
                | (exact hz7)
                | (refine hcl.out _ ?_; with_reducible exact Below.drew (Below.refl _ _))
                | (refine hcl.out _ ?_; with_reducible exact Below.drew (Below.alloc (Below.refl _ _) (Nat.le_refl _) _))))
              (first | (go_at_call 97; refine (HSTEP.out _ (Below.drew (Below.alloc (Below.refl _ _) (Nat.le_refl _) _)) (heap_alloc_new wr _)).mono ?_; rintro en w7 ⟨rfl, h7, s7, b7, hz7⟩; have H7 := Lib.hid h7; have S7 := Lib.hid s7; have B7 := Lib.hid b7; clear h7 s7 b7))
            go_wp2
            go_roundw
            case rel => exact ⟨k + 1, by omega, by go_num, H7.out, S7.out, B7.out⟩
            case measure => simp [intOf]; omega
      · obtain rfl : k = pl.length := by omega
        rw [List.take_length, HWS.out] at HWK
        go_wp2
        go_ret
        have hB7 : B + 7 ≤ w.heap.size := by
          obtain ⟨av, hav, -⟩ := (HW.out 0).ah
          have := (Array.getElem?_eq_some_iff.1 hav).1
          omega
        exact .inr ⟨by omega, rfl, ⟨_, Nat.le_trans hB7 HB3.out.size, HBE.out.size, HWK.out⟩, (HB3.out.mono (by have := (Array.getElem?_eq_some_iff.1 P3H.out).1; omega)).trans HBE.out⟩
end Go.Proofs.YtlekdfajcpmolaaGreatDoor
namespace Go.Proofs.YtlekdfajcpmolaaGreatDoor
open Go.RowKit Go.WideShapes
attribute [local go_sem ↓] Go.wp_at_zero Go.wp_at_succ
set_option maxRecDepth 100000 in
set_option maxHeartbeats 16000000 in
theorem pdo_k1 (A : Nat → Prop) (i : Int) (h : HeD) (v : Value) (e : EnD) (ea : Option Addr) (ec : Nat) (w : World) (hL : LayW w) (hv : HeV A w v h) (hl : h.okl) (hve : RB A w (.slice ea e.data.length ec) e.data) (hdl : e.data.length ≤ 1000000) (hm : mayHD h = true) (he : mayE e = true) (hs : h.seq < e.seq) (hk : e.kind = 1) :
    Calls Tryz.prog 11 #[.int .i64 i, v, enV e (.slice ea e.data.length ec)] w (DoO w (doP i h e)) := by
  obtain ⟨t0, ti, tz0, tz1, tz2⟩ := info_parts infoTxn19
  have hck := fun W (hb : Below w.heap.size w W) => hcheck_any A h v W (hv.ext hb) hl
  have hek := fun W => echeck_any e ea ec W
  have hcn := fun W (hb : Below w.heap.size w W) => eclean_any A e ea ec W (hve.ext hb) hdl (hL.ext hb)
  have HVV := Lib.hid hv
  have HMH := Lib.hid hm
  have HME := Lib.hid he
  have HSQ := Lib.hid hs
  have HKD := Lib.hid hk
  have HCM := Lib.hid (clE_may he)
  have hck0 : chkN e = 0 := by unfold chkN; rw [he]; rfl
  have hok0 := chkH_yes hm
  obtain ⟨mv, sv, rfl, h1, h2⟩ := hv
  obtain ⟨ma, mc, rfl⟩ := h1.shape
  obtain ⟨sa, sc, rfl⟩ := h2.shape
  obtain ⟨E, hE⟩ : ∃ E, E = e := ⟨_, rfl⟩
  obtain ⟨Hh, hHh⟩ : ∃ Hh, Hh = h := ⟨_, rfl⟩
  obtain ⟨C, hC⟩ : ∃ C, C = clE e := ⟨_, rfl⟩
  rw [← hHh] at HMH
  rw [← hE] at HME
  rw [← hE, ← hHh] at HSQ
  rw [← hC] at HCM
  unfold ClnO at hcn
  simp only [← hC] at hcn
  rw [show doP i h e = doP i Hh E by rw [hE, hHh]]
  obtain ⟨u, c, o, sz, m, ss, la, sq⟩ := h
  obtain ⟨eq, eo, ek, ef, el, es, ed⟩ := e
  unfold hdV at *
  simp only [enV] at *
  rw [hck0] at hek
  rw [hok0] at hck
  have HL := Lib.hid hL
  have HHH := Lib.hid hHh
  have HEE := Lib.hid hE
  have HCC := Lib.hid hC
  have hsl := hl.snaps
  simp only at hsl
  clear h1 h2 hl hm he hs hk hL hve hdl hck0 hok0 hHh hE hC
  obtain ⟨W1, hW1⟩ : ∃ W1, W1 = ((w.alloc (.cells #[.int .i64 u, .int .i64 c, .int .i64 o, .int .i64 sz, .slice ma m.length mc, .slice sa ss.length sc, .int .i64 la, .int .i64 sq] 27)).alloc (.cells #[.int .i64 eq, .int .i64 eo, .int .i64 ek, .int .i64 ef, .int .i64 el, .int .i64 es, .slice ea ed.length ec] 30)).alloc (.cells #[.int .i64 0, .int .i64 0, .int .i64 0, .int .i64 0, .slice none 0 0, .slice none 0 0, .int .i64 0, .int .i64 0] 27) := ⟨_, rfl⟩
  have hb1 : Below w.heap.size w W1 := by rw [hW1]; ((repeat' (first | exact Below.refl _ _ | refine below_drewN ?_ _ | refine Below.drew ?_ | refine Below.alloc ?_ ?_ _ | refine Below.trans ?_ (Below.mono (by assumption) ?_))); all_goals (first | exact Nat.le_refl _ | exact Below.size (by assumption) | omega | (simp; done) | (simp; omega)))
  have R0 := Lib.hid (show W1.heap[w.heap.size]? = some (.cells #[.int .i64 u, .int .i64 c, .int .i64 o, .int .i64 sz, .slice ma m.length mc, .slice sa ss.length sc, .int .i64 la, .int .i64 sq] 27 (0, 0)) from by
    rw [hW1]; exact (Below.heap_alloc _ _ _ (by simp; omega)).trans ((Below.heap_alloc _ _ _ (by simp)).trans (heap_alloc_new w _)))
  have R1 := Lib.hid (show W1.heap[w.heap.size + 1]? = some (.cells #[.int .i64 eq, .int .i64 eo, .int .i64 ek, .int .i64 ef, .int .i64 el, .int .i64 es, .slice ea ed.length ec] 30 (0, 0)) from by
    rw [hW1]; exact (Below.heap_alloc _ _ _ (by simp)).trans (heap_alloc2_new _ _ _))
  have R2 := Lib.hid (show W1.heap[w.heap.size + 2]? = some (.cells #[.int .i64 0, .int .i64 0, .int .i64 0, .int .i64 0, .slice none 0 0, .slice none 0 0, .int .i64 0, .int .i64 0] 27 (0, 0)) from by
    rw [hW1]
    have := heap_alloc_new ((w.alloc (.cells #[.int .i64 u, .int .i64 c, .int .i64 o, .int .i64 sz, .slice ma m.length mc, .slice sa ss.length sc, .int .i64 la, .int .i64 sq] 27)).alloc (.cells #[.int .i64 eq, .int .i64 eo, .int .i64 ek, .int .i64 ef, .int .i64 el, .int .i64 es, .slice ea ed.length ec] 30)) (.cells #[.int .i64 0, .int .i64 0, .int .i64 0, .int .i64 0, .slice none 0 0, .slice none 0 0, .int .i64 0, .int .i64 0] 27)
    simpa using this)
  have HC := Lib.hid (hck W1 hb1)
  have HEK := Lib.hid hek
  have HCN := Lib.hid hcn
  have HW1 := Lib.hid hW1
  have HB1 := Lib.hid hb1
  clear hck hek hcn hb1 hW1
  go_enter Tryz.func11, Tryz.ntmps11
  go_wp2_with fail
  rw [← HW1.out]
  refine HC.out.mono ?_
  rintro x w2 ⟨rfl, hb2⟩
  have S0 := Lib.hid (blk19 hb2 R0.out)
  have S1 := Lib.hid (blk19 hb2 R1.out)
  have S2 := Lib.hid (blk19 hb2 R2.out)
  have HB2 := Lib.hid (call19 HB1.out hb2)
  clear hb2 R0 R1 R2 HW1 HC HB1
  obtain ⟨y0, f0⟩ := blk_cell (i := 0) (S1.out)
  obtain ⟨y1, f1⟩ := blk_cell (i := 1) (S1.out)
  obtain ⟨y2, f2⟩ := blk_cell (i := 2) (S1.out)
  obtain ⟨y3, f3⟩ := blk_cell (i := 3) (S1.out)
  obtain ⟨y4, f4⟩ := blk_cell (i := 4) (S1.out)
  obtain ⟨y5, f5⟩ := blk_cell (i := 5) (S1.out)
  obtain ⟨y6, f6⟩ := blk_cell (i := 6) (S1.out)
  simp at y0 y1 y2 y3 y4 y5 y6
  go_wp2_with fail
  refine (HEK.out _).mono ?_
  rintro x w3 ⟨rfl, hb3⟩
  have T0 := Lib.hid (blk19 hb3 S0.out)
  have T1 := Lib.hid (blk19 hb3 S1.out)
  have T2 := Lib.hid (blk19 hb3 S2.out)
  have HB3 := Lib.hid (call19 HB2.out hb3)
  have hrs := (Array.getElem?_eq_some_iff.1 T2.out).1
  clear hb3 S0 S1 S2 HB2 HEK y0 y1 y2 y3 y4 y5 y6 f0 f1 f2 f3 f4 f5 f6
  obtain ⟨y0, f0⟩ := blk_cell (i := 0) (T1.out)
  obtain ⟨y1, f1⟩ := blk_cell (i := 1) (T1.out)
  obtain ⟨y2, f2⟩ := blk_cell (i := 2) (T1.out)
  obtain ⟨y3, f3⟩ := blk_cell (i := 3) (T1.out)
  obtain ⟨y4, f4⟩ := blk_cell (i := 4) (T1.out)
  obtain ⟨y5, f5⟩ := blk_cell (i := 5) (T1.out)
  obtain ⟨y6, f6⟩ := blk_cell (i := 6) (T1.out)
  simp at y0 y1 y2 y3 y4 y5 y6
  obtain ⟨z0, g0⟩ := blk_cell (i := 0) T0.out
  obtain ⟨z1, g1⟩ := blk_cell (i := 1) T0.out
  obtain ⟨z2, g2⟩ := blk_cell (i := 2) T0.out
  obtain ⟨z3, g3⟩ := blk_cell (i := 3) T0.out
  obtain ⟨z4, g4⟩ := blk_cell (i := 4) T0.out
  obtain ⟨z5, g5⟩ := blk_cell (i := 5) T0.out
  obtain ⟨z6, g6⟩ := blk_cell (i := 6) T0.out
  obtain ⟨z7, g7⟩ := blk_cell (i := 7) T0.out
  simp at z0 z1 z2 z3 z4 z5 z6 z7
  clear f0 f1 f2 f3 f4 f5 f6 g0 g1 g2 g3 g4 g5 g6 g7
  have hsq : ¬ eq ≤ sq := by
    have h := HSQ.out
    rw [HHH.out, HEE.out] at h
    have h2 : sq < eq := h
    omega
  go_upto_region 6 with fail
  clear hsq
  have hcl : Hid (∀ W, Below w3.heap.size w3 W → Below w3.heap.size w3 W ∧ W.cell? ⟨w.heap.size, 0, none⟩ = some (.int .i64 u) ∧ W.cell? ⟨w.heap.size, 1, none⟩ = some (.int .i64 c) ∧ W.cell? ⟨w.heap.size, 2, none⟩ = some (.int .i64 o) ∧ W.cell? ⟨w.heap.size, 3, none⟩ = some (.int .i64 sz) ∧ W.cell? ⟨w.heap.size, 4, none⟩ = some (.slice ma m.length mc) ∧ W.cell? ⟨w.heap.size, 5, none⟩ = some (.slice sa ss.length sc) ∧ W.cell? ⟨w.heap.size, 6, none⟩ = some (.int .i64 la) ∧ W.cell? ⟨w.heap.size, 7, none⟩ = some (.int .i64 sq) ∧
      W.cell? ⟨w.heap.size + 1, 0, none⟩ = some (.int .i64 eq) ∧ W.cell? ⟨w.heap.size + 1, 1, none⟩ = some (.int .i64 eo) ∧ W.cell? ⟨w.heap.size + 1, 2, none⟩ = some (.int .i64 ek) ∧ W.cell? ⟨w.heap.size + 1, 3, none⟩ = some (.int .i64 ef) ∧ W.cell? ⟨w.heap.size + 1, 4, none⟩ = some (.int .i64 el) ∧ W.cell? ⟨w.heap.size + 1, 5, none⟩ = some (.int .i64 es) ∧ W.cell? ⟨w.heap.size + 1, 6, none⟩ = some (.slice ea ed.length ec)) :=
    Lib.hid fun W h => ⟨h, cellExt h z0, cellExt h z1, cellExt h z2, cellExt h z3, cellExt h z4, cellExt h z5, cellExt h z6, cellExt h z7, cellExt h y0, cellExt h y1, cellExt h y2, cellExt h y3, cellExt h y4, cellExt h y5, cellExt h y6⟩
  clear z0 z1 z2 z3 z4 z5 z6 z7 y0 y1 y2 y3 y4 y5 y6
  go_region_held3 (fun W => Below w3.heap.size w3 W ∧ W.cell? ⟨w.heap.size, 0, none⟩ = some (.int .i64 u) ∧ W.cell? ⟨w.heap.size, 1, none⟩ = some (.int .i64 c) ∧ W.cell? ⟨w.heap.size, 2, none⟩ = some (.int .i64 o) ∧ W.cell? ⟨w.heap.size, 3, none⟩ = some (.int .i64 sz) ∧ W.cell? ⟨w.heap.size, 4, none⟩ = some (.slice ma m.length mc) ∧ W.cell? ⟨w.heap.size, 5, none⟩ = some (.slice sa ss.length sc) ∧ W.cell? ⟨w.heap.size, 6, none⟩ = some (.int .i64 la) ∧ W.cell? ⟨w.heap.size, 7, none⟩ = some (.int .i64 sq) ∧
      W.cell? ⟨w.heap.size + 1, 0, none⟩ = some (.int .i64 eq) ∧ W.cell? ⟨w.heap.size + 1, 1, none⟩ = some (.int .i64 eo) ∧ W.cell? ⟨w.heap.size + 1, 2, none⟩ = some (.int .i64 ek) ∧ W.cell? ⟨w.heap.size + 1, 3, none⟩ = some (.int .i64 ef) ∧ W.cell? ⟨w.heap.size + 1, 4, none⟩ = some (.int .i64 el) ∧ W.cell? ⟨w.heap.size + 1, 5, none⟩ = some (.int .i64 es) ∧ W.cell? ⟨w.heap.size + 1, 6, none⟩ = some (.slice ea ed.length ec))
    ((refine hcl.out _ ?_; first
      | (with_reducible exact Below.drew (Below.refl _ _))
      | (with_reducible exact hz5)
      | (with_reducible exact hz4)))
    (first
      | (go_at_call 45; refine (begin_any (fun b => b < w4.heap.size) i u c o sz la sq ma mc m sa sc ss C a4 c4 w4 (HL.out.ext (HB3.out.trans (hz4.mono HB3.out.size))) ((HVV.out.weak (A' := fun b => b < w4.heap.size) fun b hb _ => by have := HB3.out.size; have := hz4.size; omega).ext (HB3.out.trans (hz4.mono HB3.out.size))) hsl (fun b h => h) (HO4.out.weak fun b hb _ => hb)).mono ?_; rintro x w5 ⟨rfl, hwk5, hb5⟩; have hz5 : Below w3.heap.size w3 w5 := hz4.trans (hb5.mono hz4.size); have HWK5 := Lib.hid hwk5; clear hwk5 hb5)
      | (go_at_call 46; refine (HCN.out _ (HB3.out.trans ((Below.drew (Below.refl _ _)).mono HB3.out.size))).mono ?_; rintro x w4 ⟨a4, c4, rfl, ho4, hb4⟩; have HO4 := Lib.hid ho4; have hz4 : Below w3.heap.size w3 w4 := Below.trans (Below.drew (Below.refl w3.heap.size w3)) (Below.mono hb4 (Nat.le_refl _)); clear ho4 hb4))
  have HB5 : Hid (Below w.heap.size w w5) := Lib.hid (HB3.out.trans (hz5.mono HB3.out.size))
  have U0 := Lib.hid (blk19 hz5 T0.out)
  have U1 := Lib.hid (blk19 hz5 T1.out)
  have U2 := Lib.hid (blk19 hz5 T2.out)
  have hBw : w.heap.size + 3 ≤ w4.heap.size := by have := hz4.size; omega
  clear hz4 hz5 HO4 T0 T1 T2 HB3 hcl HCN HVV
  generalize w4.heap.size = B at *
  have hB7 : B + 7 ≤ w5.heap.size := by
    obtain ⟨av, hav, -⟩ := (HWK5.out 0).ah
    have := (Array.getElem?_eq_some_iff.1 hav).1
    omega
  have hrs5 : w.heap.size + 2 < w5.heap.size := by omega
  obtain ⟨y0, f0⟩ := blk_cell (i := 0) (U1.out)
  obtain ⟨y1, f1⟩ := blk_cell (i := 1) (U1.out)
  obtain ⟨y2, f2⟩ := blk_cell (i := 2) (U1.out)
  obtain ⟨y3, f3⟩ := blk_cell (i := 3) (U1.out)
  obtain ⟨y4, f4⟩ := blk_cell (i := 4) (U1.out)
  obtain ⟨y5, f5⟩ := blk_cell (i := 5) (U1.out)
  obtain ⟨y6, f6⟩ := blk_cell (i := 6) (U1.out)
  simp at y0 y1 y2 y3 y4 y5 y6
  clear f0 f1 f2 f3 f4 f5 f6
  have hk1 : ek = 1 := by
    have h := HKD.out
    exact h
  subst hk1
  have HOP : Hid (opPl Hh C = if sz < C.off + C.data.length then OpR.no 180 else ⟨⟨u, c, o, sz, setAll m (wrSteps ⟨u, c, o, sz, m, ss, la, sq⟩ C.off C.data), ss, la, sq⟩, wrSteps ⟨u, c, o, sz, m, ss, la, sq⟩ C.off C.data, 0, 0⟩) := Lib.hid (by
    have hck1 : C.kind = 1 := by rw [HCC.out]; rfl
    rw [HHH.out]
    unfold opPl
    rw [if_pos hck1])
  have hcm := HCM.out
  obtain ⟨-, -, -, kk1, -⟩ := kind_ways hcm
  obtain ⟨⟨k1, k2⟩, k3, k4⟩ := kk1 (by rw [HCC.out]; rfl)
  have hM := (mayH_iff Hh).1 HMH.out
  rw [HHH.out] at hM
  have hok := hM.ok
  have hz := sized_parts hM.sz
  have hm5 := (may_parts hz.2.2.1).2.1
  simp only at hok hz hm5
  have HWR := Lib.hid (write_any (fun b => b < B) B i ⟨u, c, o, sz, m, ss, la, sq⟩ ⟨u, c, o, sz, m, ss, la, sq⟩ C w5 (fun W hb => HL.out.ext (HB5.out.trans (hb.mono (by omega)))) (fun b h => h) HWK5.out k3 (by omega) (by omega) (fun hle => pcs_low hok k3 k4 (by have h2 : C.off + C.data.length ≤ sz := hle; omega)) hm5 hok)
  have hCs : C.seq = eq := by rw [HCC.out]; rfl
  have HCS := Lib.hid hCs
  clear hcm kk1 k1 k2 k3 k4 hM hz hm5 hok hCs HWK5
  go_wp2_with fail
  refine HWR.out.mono ?_
  rintro x w6 (⟨hgt, rfl, hb6⟩ | ⟨hle, rfl, ⟨Kk, hK1, hK2, hwk6⟩, hb6⟩)
  · have HX := Lib.hid (doP_no (i := i) (x := 180) HMH.out HME.out HSQ.out (by rw [HEE.out, ← HCC.out, HOP.out, if_pos hgt]; rfl) (by decide))
    have V2 := Lib.hid ((hb6.block (w.heap.size + 2) (by omega)).trans U2.out)
    have HB6 := Lib.hid (HB5.out.trans (hb6.mono (by omega)))
    have hrs6 := (Array.getElem?_eq_some_iff.1 V2.out).1
    clear hgt hb6 HWR HOP U0 U1 U2 HB5 y0 y1 y2 y3 y4 y5 y6
    obtain ⟨q0, k0⟩ := blk_cell (i := 0) V2.out
    obtain ⟨q1, k1⟩ := blk_cell (i := 1) V2.out
    obtain ⟨q2, k2⟩ := blk_cell (i := 2) V2.out
    obtain ⟨q3, k3⟩ := blk_cell (i := 3) V2.out
    obtain ⟨q4, k4⟩ := blk_cell (i := 4) V2.out
    obtain ⟨q5, k5⟩ := blk_cell (i := 5) V2.out
    obtain ⟨q6, k6⟩ := blk_cell (i := 6) V2.out
    obtain ⟨q7, k7⟩ := blk_cell (i := 7) V2.out
    simp at q0 q1 q2 q3 q4 q5 q6 q7
    go_wp2
    refine bodyPost_ret (results_cell_h3 rfl _ _ (w.heap.size + 2) 27 _ (0, 0) _ rfl (set8_blk V2.out) Tryz.underlying27 rfl (by kernel_rfl)) rfl ?_
    exact DoO.no HX.out (set8_below HB6.out (by omega))
  · obtain ⟨HX0, hmy⟩ := doP_ok (i := i) HMH.out HME.out HSQ.out (by rw [HEE.out, ← HCC.out, HOP.out, if_neg (by have h2 : C.off + C.data.length ≤ sz := hle; omega)])
    have htl : ((wrSteps ⟨u, c, o, sz, m, ss, la, sq⟩ C.off C.data).map (txS i ⟨u, c, o, sz, m, ss, la, sq⟩ C.seq)).length ≤ 1000 := by
      rw [List.length_map]
      unfold wrSteps
      rw [List.length_map]
      exact Nat.le_trans (partsR_len _ _ _ _ _) (by decide)
    clear hle HOP HWR
    rw [show E.seq = eq by rw [HEE.out], show Hh = ⟨u, c, o, sz, m, ss, la, sq⟩ from HHH.out] at HX0
    rw [show E.seq = eq by rw [HEE.out]] at hmy
    rw [HCS.out] at hwk6 htl
    obtain ⟨TL, hTL⟩ : ∃ TL, TL = List.map (txS i ⟨u, c, o, sz, m, ss, la, sq⟩ eq) (wrSteps ⟨u, c, o, sz, m, ss, la, sq⟩ C.off C.data) := ⟨_, rfl⟩
    rw [← hTL] at HX0 hwk6 htl
    clear hTL
    generalize setAll m (wrSteps ⟨u, c, o, sz, m, ss, la, sq⟩ C.off C.data) = NM at *
    obtain ⟨HN, hHN⟩ : ∃ HN, HN = (⟨u, c, o, sz, NM, ss, la, sq⟩ : HeD) := ⟨_, rfl⟩
    rw [← hHN] at HX0 hwk6 hmy
    rw [← pkD_yes hmy] at HX0
    clear hHN
    have V1 := Lib.hid ((hb6.block (w.heap.size + 1) (by omega)).trans U1.out)
    have V2 := Lib.hid ((hb6.block (w.heap.size + 2) (by omega)).trans U2.out)
    have HB6 := Lib.hid (HB5.out.trans (hb6.mono (by omega)))
    have HX := Lib.hid HX0
    have HMY := Lib.hid hmy
    have HK6 := Lib.hid hwk6
    clear hb6 HX0 hmy hwk6 U0 U1 U2 HB5 y0 y1 y2 y3 y4 y5 y6
    obtain ⟨wm, wss, xa, xc, xs, xd, ev, la', lc', P3, -, -⟩ := HK6.out.head
    obtain ⟨-, f15⟩ := blk_cell (i := 15) P3
    obtain ⟨c15, -⟩ := blk_cell (i := 15) P3
    replace c15 : w6.cell? ⟨B + 3, 15, none⟩ = some (.int .i64 HN.seq) := c15
    obtain ⟨y0, -⟩ := blk_cell (i := 0) V1.out
    simp at y0
    have hp6 := (Array.getElem?_eq_some_iff.1 V1.out).1
    clear P3
    go_upto_region 25 with fail
    obtain ⟨w7, hw7⟩ : ∃ w7, w7 = w6.setCell ⟨B + 3, 15, none⟩ (.int .i64 eq) := ⟨_, rfl⟩
    rw [← hw7]
    have hne7 : ∀ b, b ≠ B + 3 → w7.heap[b]? = w6.heap[b]? := fun b hb => by rw [hw7]; exact Below.heap_setCell _ _ _ _ hb
    have hs7 : w7.heap.size = w6.heap.size := by rw [hw7]; simp [World.setCell]
    have HK7 : Hid (WkM (fun b => b < B) B Kk w7 i ⟨u, c, o, sz, m, ss, la, sq⟩ (HN.atS eq) C TL) := Lib.hid (by rw [hw7]; exact WkM.seqd HK6.out (fun b h => h) hK1 eq)
    have X1 := Lib.hid ((hne7 (w.heap.size + 1) (by omega)).trans V1.out)
    have X2 := Lib.hid ((hne7 (w.heap.size + 2) (by omega)).trans V2.out)
    have HB7 : Hid (Below w.heap.size w w7) := Lib.hid (by rw [hw7]; exact HB6.out.setCell (show w.heap.size ≤ B + 3 by omega) _)
    clear hw7 hne7 c15 f15 y0 V1 V2 HB6 HK6
    obtain ⟨wm, wss, xa, xc, xs, xd, ev, ra, rc, P3, hev, hrow⟩ := HK7.out.head
    have HPK := Lib.hid (hpack_yes (fun _ => True) (HN.atS eq) _ w7 hev (okl_may HMY.out) HMY.out)
    have HP3 := Lib.hid P3
    have HROW := Lib.hid hrow
    have HR0 := Lib.hid hrow
    obtain ⟨c8, -⟩ := blk_cell (i := 8) P3
    obtain ⟨c9, -⟩ := blk_cell (i := 9) P3
    obtain ⟨c10, -⟩ := blk_cell (i := 10) P3
    obtain ⟨c11, -⟩ := blk_cell (i := 11) P3
    obtain ⟨c12, -⟩ := blk_cell (i := 12) P3
    obtain ⟨c13, -⟩ := blk_cell (i := 13) P3
    obtain ⟨c14, -⟩ := blk_cell (i := 14) P3
    obtain ⟨c15, -⟩ := blk_cell (i := 15) P3
    replace c8 : w7.cell? ⟨B + 3, 8, none⟩ = some (.int .i64 HN.u) := c8
    replace c9 : w7.cell? ⟨B + 3, 9, none⟩ = some (.int .i64 HN.c) := c9
    replace c10 : w7.cell? ⟨B + 3, 10, none⟩ = some (.int .i64 HN.o) := c10
    replace c11 : w7.cell? ⟨B + 3, 11, none⟩ = some (.int .i64 HN.size) := c11
    replace c12 : w7.cell? ⟨B + 3, 12, none⟩ = some (.slice xa HN.map.length xc) := c12
    replace c13 : w7.cell? ⟨B + 3, 13, none⟩ = some (.slice xs HN.snaps.length xd) := c13
    replace c14 : w7.cell? ⟨B + 3, 14, none⟩ = some (.int .i64 HN.last) := c14
    replace c15 : w7.cell? ⟨B + 3, 15, none⟩ = some (.int .i64 eq) := c15
    clear P3 hev hrow
    go_wp2_with fail
    refine HPK.out.mono ?_
    rintro x w8 ⟨g, gc, rfl, ho8, hb8⟩
    have Y1 := Lib.hid (blk19 hb8 X1.out)
    have Y2 := Lib.hid (blk19 hb8 X2.out)
    have Y3 := Lib.hid (blk19 hb8 HP3.out)
    have HR8 := Lib.hid (HROW.out.ext hb8)
    have HB8 := Lib.hid (call19 HB7.out hb8)
    have HO8 := Lib.hid ho8
    have hs8 := hb8.size
    clear ho8 hb8 X1 X2 HP3 HROW HB7 HK7 HPK c8 c9 c10 c11 c12 c13 c14 c15
    obtain ⟨y0, -⟩ := blk_cell (i := 0) Y1.out
    simp at y0
    have hp8 := (Array.getElem?_eq_some_iff.1 Y1.out).1
    have hcl : Hid (∀ W, Below w8.heap.size w8 W → W.cell? ⟨w.heap.size + 1, 0, none⟩ = some (.int .i64 eq)) := Lib.hid fun W h => cellExt h y0
    go_upto_region 26 with fail
    go_cut [15] (fun s15 wx => TxB w8 wx (headS i) #[.int .i64 4, .int .i64 0, .int .i64 eq, .string ⟨#[]⟩, .slice none 0 0, .int .i64 9, .int .i64 0, .int .i64 0, .string ⟨#[104, 101, 97, 100]⟩, .slice (some ⟨g, 0, none⟩) (pkD (HN.atS eq)).length gc, .int .i64 12, .int .i64 0, .int .i64 eq, .string ⟨#[]⟩, .slice none 0 0] s15)
    case first =>
      go_region_held3 (fun W => W.cell? ⟨w.heap.size + 1, 0, none⟩ = some (.int .i64 eq))
        ((refine hcl.out _ ?_; ((repeat' (first | exact Below.refl _ _ | refine below_drewN ?_ _ | refine Below.drew ?_ | refine Below.alloc ?_ ?_ _ | refine Below.trans ?_ (Below.mono (by assumption) ?_))); all_goals (first | exact Nat.le_refl _ | exact Below.size (by assumption) | omega | (simp; done) | (simp; omega)))))
        (first | (go_at_call 22; refine (phead_any i _).mono ?_; rintro x wz ⟨rfl, rfl⟩))
      all_goals
        go_wp2_with fail
        go_meet
        first
          | exact TxB.a
          | exact TxB.b
    case rest =>
      obtain ⟨⟨pt, og, rfl, hpt, hog, hT, hO⟩, hbc⟩ := hcut
      have HT := Lib.hid hT
      have HO := Lib.hid hO
      have Z2 := Lib.hid (blk19 hbc Y2.out)
      have Z3 := Lib.hid (blk19 hbc Y3.out)
      have HRc := Lib.hid (HR8.out.ext hbc)
      have HOc := Lib.hid (HO8.out.ext hbc)
      have HBc := Lib.hid (call19 HB8.out hbc)
      have hbcs := hbc.size
      clear hT hO hbc Y1 Y2 Y3 HR8 HO8 HB8 y0 hcl
      have hptl := (Array.getElem?_eq_some_iff.1 HT.out).1
      go_wp2_with fail
      refine (hunpack_any _ _ (pkD (HN.atS eq)) wc HOc.out.rb (pkD_len HMY.out)).mono ?_
      rintro x w10 ⟨hv, rfl, hev, hb10⟩
      rw [un_pkD HMY.out] at hev ⊢
      obtain ⟨mv2, sv2, rfl, i1, i2⟩ := hev
      obtain ⟨na, nc, rfl⟩ := i1.shape
      obtain ⟨ta, tc, rfl⟩ := i2.shape
      have hl10 := hb10.size
      have I1 := Lib.hid i1
      have I2 := Lib.hid i2
      have HT1 := Lib.hid (blk19 hb10 HT.out)
      have HO1 := Lib.hid (blk19 hb10 HO.out)
      have A2 := Lib.hid (blk19 hb10 Z2.out)
      have A3 := Lib.hid (blk19 hb10 Z3.out)
      have HR10 := Lib.hid (HRc.out.ext hb10)
      have HO10 := Lib.hid (HOc.out.ext hb10)
      have HB10 := Lib.hid (call19 HBc.out hb10)
      have hown := HRc.out.lt
      have HOWN := Lib.hid hown
      have HROWN := Lib.hid HR0.out.lt
      clear i1 i2 hb10 HT HO Z2 Z3 HRc HOc HBc hown
      unfold hdV
      have hr10 := (Array.getElem?_eq_some_iff.1 A2.out).1
      obtain ⟨u23, -⟩ := blk_cell (i := 23) A3.out
      replace u23 : w10.cell? ⟨B + 3, 23, none⟩ = some (.slice ra TL.length rc) := u23
      obtain ⟨b0, -⟩ := blk_cell (i := 0) HT1.out
      obtain ⟨b1, -⟩ := blk_cell (i := 1) HT1.out
      simp at b0 b1
      obtain ⟨q0, k0⟩ := blk_cell (i := 0) A2.out
      obtain ⟨q1, k1⟩ := blk_cell (i := 1) A2.out
      obtain ⟨q2, k2⟩ := blk_cell (i := 2) A2.out
      obtain ⟨q3, k3⟩ := blk_cell (i := 3) A2.out
      obtain ⟨q4, k4⟩ := blk_cell (i := 4) A2.out
      obtain ⟨q5, k5⟩ := blk_cell (i := 5) A2.out
      obtain ⟨q6, k6⟩ := blk_cell (i := 6) A2.out
      obtain ⟨q7, k7⟩ := blk_cell (i := 7) A2.out
      simp at q0 q1 q2 q3 q4 q5 q6 q7
      go_upto_region 28 with fail
      obtain ⟨po, hpo⟩ : ∃ po, po = w10.heap.size := ⟨_, rfl⟩
      obtain ⟨w11, hw11⟩ : ∃ w11, w11 = w10.alloc (.cells #[.int .i64 (HN.atS eq).u, .int .i64 (HN.atS eq).c, .int .i64 (HN.atS eq).o, .int .i64 (HN.atS eq).size, .slice na (HN.atS eq).map.length nc, .slice ta (HN.atS eq).snaps.length tc, .int .i64 (HN.atS eq).last, .int .i64 (HN.atS eq).seq] 27) := ⟨_, rfl⟩
      rw [← hw11, ← hpo]
      have hb11 : Below w10.heap.size w10 w11 := by rw [hw11]; ((repeat' (first | exact Below.refl _ _ | refine below_drewN ?_ _ | refine Below.drew ?_ | refine Below.alloc ?_ ?_ _ | refine Below.trans ?_ (Below.mono (by assumption) ?_))); all_goals (first | exact Nat.le_refl _ | exact Below.size (by assumption) | omega | (simp; done) | (simp; omega)))
      have PO := Lib.hid (show w11.heap[po]? = some (.cells #[.int .i64 (HN.atS eq).u, .int .i64 (HN.atS eq).c, .int .i64 (HN.atS eq).o, .int .i64 (HN.atS eq).size, .slice na (HN.atS eq).map.length nc, .slice ta (HN.atS eq).snaps.length tc, .int .i64 (HN.atS eq).last, .int .i64 (HN.atS eq).seq] 27 (0, 0)) from by rw [hw11, hpo]; exact heap_alloc_new _ _)
      have hpo2 : w11.heap.size = po + 1 := by rw [hw11, hpo]; simp
      have D2 := Lib.hid (blk19 hb11 A2.out)
      have D3 := Lib.hid (blk19 hb11 A3.out)
      have HT2 := Lib.hid (blk19 hb11 HT1.out)
      have HO2 := Lib.hid (blk19 hb11 HO1.out)
      have HR11 := Lib.hid (HR10.out.ext hb11)
      have HOO := Lib.hid (HO10.out.ext hb11)
      have HB11 := Lib.hid (call19 HB10.out hb11)
      have J1 := Lib.hid (SlE.ext I1.out hb11)
      have J2 := Lib.hid (SlE.ext I2.out hb11)
      have hpoc : wc.heap.size ≤ po := by omega
      clear hw11 hb11 hpo A2 A3 HT1 HO1 HR10 HO10 HB10 I1 I2 u23 b0 b1 q0 q1 q2 q3 q4 q5 q6 q7 k0 k1 k2 k3 k4 k5 k6 k7
      have hS : ∀ W : World, W.heap[po]? = w11.heap[po]? → W.heap[B + 3]? = w11.heap[B + 3]? → W.heap[pt]? = w11.heap[pt]? → W.cell? ⟨po, 0, none⟩ = some (.int .i64 (HN.atS eq).u) ∧ W.cell? ⟨po, 1, none⟩ = some (.int .i64 (HN.atS eq).c) ∧ W.cell? ⟨po, 2, none⟩ = some (.int .i64 (HN.atS eq).o) ∧ W.cell? ⟨po, 3, none⟩ = some (.int .i64 (HN.atS eq).size) ∧ W.cell? ⟨po, 4, none⟩ = some (.slice na (HN.atS eq).map.length nc) ∧ W.cell? ⟨po, 5, none⟩ = some (.slice ta (HN.atS eq).snaps.length tc) ∧ W.cell? ⟨po, 6, none⟩ = some (.int .i64 (HN.atS eq).last) ∧ W.cell? ⟨po, 7, none⟩ = some (.int .i64 (HN.atS eq).seq) ∧ W.cell? ⟨B + 3, 23, none⟩ = some (.slice ra TL.length rc) ∧ W.cell? ⟨pt, 0, none⟩ = some (.string (headS i)) ∧ W.cell? ⟨pt, 1, none⟩ = some (.slice (some ⟨og, 0, none⟩) 3 3) := fun W h1 h2 h3 => by
        have e1 := h1.trans PO.out
        have e2 := h2.trans D3.out
        have e3 := h3.trans HT2.out
        exact ⟨(blk_cell (i := 0) e1).1, (blk_cell (i := 1) e1).1, (blk_cell (i := 2) e1).1, (blk_cell (i := 3) e1).1, (blk_cell (i := 4) e1).1, (blk_cell (i := 5) e1).1, (blk_cell (i := 6) e1).1, (blk_cell (i := 7) e1).1, (blk_cell (i := 23) e2).1, (blk_cell (i := 0) e3).1, (blk_cell (i := 1) e3).1⟩
      have hlt1 : po < w11.heap.size := by omega
      clear hpo2
      have hlt2 : B + 3 < w11.heap.size := (Array.getElem?_eq_some_iff.1 D3.out).1
      have hlt3 : pt < w11.heap.size := (Array.getElem?_eq_some_iff.1 HT2.out).1
      have hcl : Hid (∀ W, Below w11.heap.size w11 W → W.cell? ⟨po, 0, none⟩ = some (.int .i64 (HN.atS eq).u) ∧ W.cell? ⟨po, 1, none⟩ = some (.int .i64 (HN.atS eq).c) ∧ W.cell? ⟨po, 2, none⟩ = some (.int .i64 (HN.atS eq).o) ∧ W.cell? ⟨po, 3, none⟩ = some (.int .i64 (HN.atS eq).size) ∧ W.cell? ⟨po, 4, none⟩ = some (.slice na (HN.atS eq).map.length nc) ∧ W.cell? ⟨po, 5, none⟩ = some (.slice ta (HN.atS eq).snaps.length tc) ∧ W.cell? ⟨po, 6, none⟩ = some (.int .i64 (HN.atS eq).last) ∧ W.cell? ⟨po, 7, none⟩ = some (.int .i64 (HN.atS eq).seq) ∧ W.cell? ⟨B + 3, 23, none⟩ = some (.slice ra TL.length rc) ∧ W.cell? ⟨pt, 0, none⟩ = some (.string (headS i)) ∧ W.cell? ⟨pt, 1, none⟩ = some (.slice (some ⟨og, 0, none⟩) 3 3)) := Lib.hid fun W h => hS W (h.block po hlt1) (h.block (B + 3) hlt2) (h.block pt hlt3)
      have hge : Hid (∀ W0 W : World, Below w11.heap.size w11 W0 → W0.grownBy W (Value.slice ra TL.length rc).ownBlock → ∀ b, b < B + 7 ∨ wc.heap.size ≤ b ∨ b = pt → b < w11.heap.size → W.heap[b]? = w11.heap[b]?) := Lib.hid fun W0 W h hg => by
        have hs := h.size
        have ne : ∀ b, b < B + 7 ∨ wc.heap.size ≤ b ∨ b = pt → some b ≠ (Value.slice ra TL.length rc).ownBlock := fun b hb he => by
          have hh := HOWN.out b he.symm
          have h8 := HROWN.out b he.symm
          omega
        exact fun b hb hl => (hg.block b (by omega) (ne b hb)).trans (h.block b hl)
      have HLT : Hid (po < w11.heap.size ∧ B + 3 < w11.heap.size ∧ pt < w11.heap.size) := Lib.hid ⟨hlt1, hlt2, hlt3⟩
      have hgr : Hid (∀ W0 W : World, Below w11.heap.size w11 W0 → W0.grownBy W (Value.slice ra TL.length rc).ownBlock → W.cell? ⟨po, 0, none⟩ = some (.int .i64 (HN.atS eq).u) ∧ W.cell? ⟨po, 1, none⟩ = some (.int .i64 (HN.atS eq).c) ∧ W.cell? ⟨po, 2, none⟩ = some (.int .i64 (HN.atS eq).o) ∧ W.cell? ⟨po, 3, none⟩ = some (.int .i64 (HN.atS eq).size) ∧ W.cell? ⟨po, 4, none⟩ = some (.slice na (HN.atS eq).map.length nc) ∧ W.cell? ⟨po, 5, none⟩ = some (.slice ta (HN.atS eq).snaps.length tc) ∧ W.cell? ⟨po, 6, none⟩ = some (.int .i64 (HN.atS eq).last) ∧ W.cell? ⟨po, 7, none⟩ = some (.int .i64 (HN.atS eq).seq) ∧ W.cell? ⟨B + 3, 23, none⟩ = some (.slice ra TL.length rc) ∧ W.cell? ⟨pt, 0, none⟩ = some (.string (headS i)) ∧ W.cell? ⟨pt, 1, none⟩ = some (.slice (some ⟨og, 0, none⟩) 3 3)) := Lib.hid fun W0 W h hg =>
        hS W (hge.out W0 W h hg po (.inr (.inl hpoc)) hlt1) (hge.out W0 W h hg (B + 3) (.inl (by omega)) hlt2) (hge.out W0 W h hg pt (.inr (.inr rfl)) hlt3)
      have HRD : Hid (∀ W, Below w11.heap.size w11 W → SlE Enc.op (fun b => Kk ≤ b ∧ (Value.slice ra TL.length rc).ownBlock ≠ some b) W (.slice (some ⟨og, 0, none⟩) 3 3) (lastT i eq (pkD (HN.atS eq))).ops) := Lib.hid fun W h =>
        ops3 (blk19 h HO2.out) (RB.weak (A' := fun b => Kk ≤ b ∧ (Value.slice ra TL.length rc).ownBlock ≠ some b) (OB.rbU (HOO.out.ext h)) fun b _ hb => ⟨by have := hb.1; omega, by obtain ⟨cs, hcs⟩ := hb.2; exact (HR11.out.ext h).ne_ty hcs (by decide)⟩) ⟨by omega, (HR11.out.ext h).ne_ty (blk19 h HO2.out) (by decide)⟩
      obtain ⟨o0, -⟩ := blk_cell (i := 0) PO.out
      obtain ⟨o1, -⟩ := blk_cell (i := 1) PO.out
      have HSS := Lib.hid hS
      clear hS
      refine wp_region_held (S := fun W => W.cell? ⟨po, 0, none⟩ = some (.int .i64 (HN.atS eq).u) ∧ W.cell? ⟨po, 1, none⟩ = some (.int .i64 (HN.atS eq).c) ∧ W.cell? ⟨po, 2, none⟩ = some (.int .i64 (HN.atS eq).o) ∧ W.cell? ⟨po, 3, none⟩ = some (.int .i64 (HN.atS eq).size) ∧ W.cell? ⟨po, 4, none⟩ = some (.slice na (HN.atS eq).map.length nc) ∧ W.cell? ⟨po, 5, none⟩ = some (.slice ta (HN.atS eq).snaps.length tc) ∧ W.cell? ⟨po, 6, none⟩ = some (.int .i64 (HN.atS eq).last) ∧ W.cell? ⟨po, 7, none⟩ = some (.int .i64 (HN.atS eq).seq) ∧ W.cell? ⟨B + 3, 23, none⟩ = some (.slice ra TL.length rc) ∧ W.cell? ⟨pt, 0, none⟩ = some (.string (headS i)) ∧ W.cell? ⟨pt, 1, none⟩ = some (.slice (some ⟨og, 0, none⟩) 3 3)) (by kernel_rfl) ?_
      have hHeld := hcl.out w11.drew (Below.drew (Below.refl _ _))
      refine wpAnyH_take (i := 0) (oi := { dst := some 112, op := Op.load 27 (Operand.tmp 16), type := 27, pos := "plan.go:198", after := #[], guard := none }) (v := ?v0) rfl (by kernel_rfl) (by kernel_rfl) (by kernel_rfl) (fun _ _ _ h => h) (Or.inl ⟨by rfl, ?hy0⟩) hHeld ?r0
      case hy0 => (intro W hSW; (try dsimp only at hSW); go_simp; try (with_reducible rfl))
      simp only [Act.put, List.setIfInBounds_toArray, List.set_cons_zero, List.set_cons_succ]
      refine wpAnyH_take (i := 1) (oi := { dst := some 113, op := Op.move (Operand.tmp 11), type := 105, pos := "plan.go:198", after := #[], guard := none }) (v := ?v1) rfl (by kernel_rfl) (by kernel_rfl) (by kernel_rfl) (fun _ _ _ h => h) (Or.inl ⟨by rfl, ?hy1⟩) hHeld ?r1
      case hy1 => (intro W hSW; (try dsimp only at hSW); go_simp; try (with_reducible rfl))
      simp only [Act.put, List.setIfInBounds_toArray, List.set_cons_zero, List.set_cons_succ]
      refine wpAnyH_take (i := 2) (oi := { dst := some 114, op := Op.nilCheck (Operand.tmp 113), type := 0, pos := "plan.go:198", after := #[{ on := 1, ground := Ground.data }], guard := none }) (v := ?v2) rfl (by kernel_rfl) (by kernel_rfl) (by kernel_rfl) (fun _ _ _ h => h) (Or.inl ⟨by rfl, ?hy2⟩) hHeld ?r2
      case hy2 => (intro W hSW; (try dsimp only at hSW); go_simp; try (with_reducible rfl))
      simp only [Act.put, List.setIfInBounds_toArray, List.set_cons_zero, List.set_cons_succ]
      refine wpAnyH_take (i := 3) (oi := { dst := some 115, op := Op.fieldAddr 113 (Operand.tmp 114) 3, type := 0, pos := "plan.go:198", after := #[{ on := 2, ground := Ground.data }], guard := none }) (v := ?v3) rfl (by kernel_rfl) (by kernel_rfl) (by kernel_rfl) (fun _ _ _ h => h) (Or.inl ⟨by rfl, ?hy3⟩) hHeld ?r3
      case hy3 => (intro W hSW; (try dsimp only at hSW); go_simp; try (with_reducible rfl))
      simp only [Act.put, List.setIfInBounds_toArray, List.set_cons_zero, List.set_cons_succ]
      refine wpAnyH_take (i := 4) (oi := { dst := some 116, op := Op.load 33 (Operand.tmp 115), type := 33, pos := "plan.go:198", after := #[{ on := 3, ground := Ground.data }], guard := none }) (v := ?v4) rfl (by kernel_rfl) (by kernel_rfl) (by kernel_rfl) (fun _ _ _ h => h) (Or.inl ⟨by rfl, ?hy4⟩) hHeld ?r4
      case hy4 => (intro W hSW; (try dsimp only at hSW); go_simp; try (with_reducible rfl))
      simp only [Act.put, List.setIfInBounds_toArray, List.set_cons_zero, List.set_cons_succ]
      refine wpAnyH_take (i := 5) (oi := { dst := some 117, op := Op.load 42 (Operand.tmp 15), type := 42, pos := "plan.go:198", after := #[], guard := none }) (v := ?v5) rfl (by kernel_rfl) (by kernel_rfl) (by kernel_rfl) (fun _ _ _ h => h) (Or.inl ⟨by rfl, ?hy5⟩) hHeld ?r5
      case hy5 => (intro W hSW; (try dsimp only at hSW); go_simp; try (with_reducible rfl))
      simp only [Act.put, List.setIfInBounds_toArray, List.set_cons_zero, List.set_cons_succ]
      refine wpAnyH_take (i := 8) (oi := { dst := some 120, op := Op.move (Operand.tmp 12), type := 3, pos := "plan.go:198", after := #[{ on := 11, ground := Ground.gcOnly Departure.lateStores }], guard := none }) (v := ?v8) rfl (by kernel_rfl) (by kernel_rfl) (by kernel_rfl) (fun _ _ _ h => h) (Or.inl ⟨by rfl, ?hy8⟩) hHeld ?r8
      case hy8 => (intro W hSW; (try dsimp only at hSW); go_simp; try (with_reducible rfl))
      simp only [Act.put, List.setIfInBounds_toArray, List.set_cons_zero, List.set_cons_succ]
      refine wpAnyH_take (i := 9) (oi := { dst := some 121, op := Op.move (Operand.tmp 13), type := 34, pos := "plan.go:198", after := #[{ on := 12, ground := Ground.gcOnly Departure.lateStores }], guard := none }) (v := ?v9) rfl (by kernel_rfl) (by kernel_rfl) (by kernel_rfl) (fun _ _ _ h => h) (Or.inl ⟨by rfl, ?hy9⟩) hHeld ?r9
      case hy9 => (intro W hSW; (try dsimp only at hSW); go_simp; try (with_reducible rfl))
      simp only [Act.put, List.setIfInBounds_toArray, List.set_cons_zero, List.set_cons_succ]
      refine wpAnyH_ready (rs := [6]) (by kernel_rfl) (by simp) (AllReadyH.cons (o := { dst := some 118, op := Op.buildSlice 33 1 #[(0, Operand.tmp 117)], type := 33, pos := "plan.go:198", after := #[{ on := 5, ground := Ground.data }], guard := none }) rfl (fun K hK => ?_) AllReadyH.nil)
      go_simp
      refine hK.out _ _ (hcl.out _ (Below.drew (Below.alloc (Below.refl _ _) (Nat.le_refl _) _))) (fun hHeld => ?_)
      clear hK K
      refine wpAnyH_ready (rs := [7]) (by kernel_rfl) (by simp) (AllReadyH.cons (o := { dst := some 119, op := Op.call { callee := Callee.builtin Builtin.append, args := #[Operand.tmp 116, Operand.tmp 118], argTypes := #[33, 33] }, type := 33, pos := "plan.go:198", after := #[{ on := 4, ground := Ground.data }, { on := 6, ground := Ground.data }], guard := none }) rfl (fun K hK => ?_) AllReadyH.nil)
      refine step_pushG _ (by rfl) _ _ 33 (by rfl) Enc.txn Kk 42 t0 _ 40 Tryz.underlying33 ti tz0 tz1 tz2 (by rfl) (by decide) (by decide) _ TL TL.length rfl (by rfl) (HR11.out.ext (Below.drew (Below.alloc (Below.refl _ _) (Nat.le_refl _) _))) w11.heap.size [.string (headS i), .slice (some ⟨og, 0, none⟩) 3 3] 42 (lastT i eq (pkD (HN.atS eq))) (by rfl) (heap_alloc_new w11 _) ⟨_, rfl, HRD.out _ (Below.drew (Below.alloc (Below.refl _ _) (Nat.le_refl _) _))⟩ (Nat.le_trans htl (by decide)) (by simp; omega) ?_
      intro g2 cap2 w13 hrow hbel hgrow
      have HROW13 := Lib.hid hrow
      have HGROW := Lib.hid hgrow
      have HBEL := Lib.hid hbel
      have hb12 : Below w11.heap.size w11 (w11.alloc (.cells #[.string (headS i), .slice (some ⟨og, 0, none⟩) 3 3] 42)).drew := Below.drew (Below.alloc (Below.refl _ _) (Nat.le_refl _) _)
      have HB12 := Lib.hid hb12
      have E2 := Lib.hid ((hbel.block (w.heap.size + 2) (by omega)).trans (blk19 hb12 D2.out))
      have hs13 := hbel.size
      have hs12 := hb12.size
      have hr13 := (Array.getElem?_eq_some_iff.1 E2.out).1
      refine hK.out _ _ (hgr.out _ _ hb12 hgrow) (fun hHeld => ?_)
      clear hK K hrow hgrow hbel hb12
      refine wpAnyH_ready (rs := [10]) (by kernel_rfl) (by simp) (AllReadyH.cons (o := { dst := none, op := Op.store 27 (Operand.tmp 6) (Operand.tmp 112), type := 0, pos := "plan.go:198", after := #[{ on := 0, ground := Ground.data }, { on := 7, ground := Ground.chain }, { on := 0, ground := Ground.phase }, { on := 1, ground := Ground.textOnly Departure.lateStores }, { on := 2, ground := Ground.textOnly Departure.lateStores }, { on := 3, ground := Ground.textOnly Departure.lateStores }, { on := 4, ground := Ground.textOnly Departure.lateStores }, { on := 5, ground := Ground.textOnly Departure.lateStores }, { on := 6, ground := Ground.textOnly Departure.lateStores }, { on := 7, ground := Ground.textOnly Departure.lateStoresUnsure }, { on := 8, ground := Ground.textOnly Departure.lateStores }, { on := 9, ground := Ground.textOnly Departure.lateStores }], guard := none }) rfl (fun K hK => ?_) AllReadyH.nil)
      obtain ⟨q0, k0⟩ := blk_cell (i := 0) E2.out
      obtain ⟨q1, k1⟩ := blk_cell (i := 1) E2.out
      obtain ⟨q2, k2⟩ := blk_cell (i := 2) E2.out
      obtain ⟨q3, k3⟩ := blk_cell (i := 3) E2.out
      obtain ⟨q4, k4⟩ := blk_cell (i := 4) E2.out
      obtain ⟨q5, k5⟩ := blk_cell (i := 5) E2.out
      obtain ⟨q6, k6⟩ := blk_cell (i := 6) E2.out
      obtain ⟨q7, k7⟩ := blk_cell (i := 7) E2.out
      simp at q0 q1 q2 q3 q4 q5 q6 q7
      go_simp
      have HGE := Lib.hid (hge.out _ _ HB12.out HGROW.out)
      have hne8 : ∀ b, b ≠ w.heap.size + 1 + 1 → (set8 w13 (w.heap.size + 1 + 1) (.int .i64 (HN.atS eq).u) (.int .i64 (HN.atS eq).c) (.int .i64 (HN.atS eq).o) (.int .i64 (HN.atS eq).size) (.slice na (HN.atS eq).map.length nc) (.slice ta (HN.atS eq).snaps.length tc) (.int .i64 (HN.atS eq).last) (.int .i64 (HN.atS eq).seq)).heap[b]? = w13.heap[b]? := fun b hb => set8_ne hb
      refine hK.out _ _ (HSS.out _ ((hne8 po (by omega)).trans (HGE.out po (.inr (.inl hpoc)) HLT.out.1)) ((hne8 (B + 3) (by omega)).trans (HGE.out (B + 3) (.inl (by omega)) HLT.out.2.1)) ((hne8 pt (by omega)).trans (HGE.out pt (.inr (.inr rfl)) HLT.out.2.2))) (fun hHeld => ?_)
      clear hK K
      refine wpAnyH_take (i := 11) (oi := { dst := some 7, op := Op.assign (Operand.tmp 119), type := 33, pos := "plan.go:198", after := #[{ on := 7, ground := Ground.data }, { on := 10, ground := Ground.chain }, { on := 0, ground := Ground.phase }, { on := 1, ground := Ground.phase }, { on := 2, ground := Ground.phase }, { on := 3, ground := Ground.phase }, { on := 4, ground := Ground.phase }, { on := 5, ground := Ground.phase }, { on := 6, ground := Ground.phase }, { on := 7, ground := Ground.phase }, { on := 8, ground := Ground.textOnly Departure.lateStores }, { on := 9, ground := Ground.textOnly Departure.lateStores }, { on := 10, ground := Ground.phase }], guard := none }) (v := ?v11) rfl (by kernel_rfl) (by kernel_rfl) (by kernel_rfl) (fun _ _ _ h => h) (Or.inl ⟨by rfl, ?hy11⟩) hHeld ?r11
      case hy11 => (intro W hSW; (try dsimp only at hSW); go_simp; try (with_reducible rfl))
      simp only [Act.put, List.setIfInBounds_toArray, List.set_cons_zero, List.set_cons_succ]
      refine wpAnyH_take (i := 12) (oi := { dst := some 8, op := Op.assign (Operand.tmp 120), type := 3, pos := "plan.go:198", after := #[{ on := 8, ground := Ground.data }, { on := 11, ground := Ground.chain }, { on := 0, ground := Ground.phase }, { on := 1, ground := Ground.phase }, { on := 2, ground := Ground.phase }, { on := 3, ground := Ground.phase }, { on := 4, ground := Ground.phase }, { on := 5, ground := Ground.phase }, { on := 6, ground := Ground.phase }, { on := 7, ground := Ground.phase }, { on := 8, ground := Ground.phase }, { on := 9, ground := Ground.textOnly Departure.lateStores }, { on := 10, ground := Ground.phase }, { on := 11, ground := Ground.phase }], guard := none }) (v := ?v12) rfl (by kernel_rfl) (by kernel_rfl) (by kernel_rfl) (fun _ _ _ h => h) (Or.inl ⟨by rfl, ?hy12⟩) hHeld ?r12
      case hy12 => (intro W hSW; (try dsimp only at hSW); go_simp; try (with_reducible rfl))
      simp only [Act.put, List.setIfInBounds_toArray, List.set_cons_zero, List.set_cons_succ]
      refine wpAnyH_take (i := 13) (oi := { dst := some 9, op := Op.assign (Operand.tmp 121), type := 34, pos := "plan.go:198", after := #[{ on := 9, ground := Ground.data }, { on := 12, ground := Ground.chain }, { on := 0, ground := Ground.phase }, { on := 1, ground := Ground.phase }, { on := 2, ground := Ground.phase }, { on := 3, ground := Ground.phase }, { on := 4, ground := Ground.phase }, { on := 5, ground := Ground.phase }, { on := 6, ground := Ground.phase }, { on := 7, ground := Ground.phase }, { on := 8, ground := Ground.phase }, { on := 9, ground := Ground.phase }, { on := 10, ground := Ground.phase }, { on := 11, ground := Ground.phase }, { on := 12, ground := Ground.phase }], guard := none }) (v := ?v13) rfl (by kernel_rfl) (by kernel_rfl) (by kernel_rfl) (fun _ _ _ h => h) (Or.inl ⟨by rfl, ?hy13⟩) hHeld ?r13
      case hy13 => (intro W hSW; (try dsimp only at hSW); go_simp; try (with_reducible rfl))
      simp only [Act.put, List.setIfInBounds_toArray, List.set_cons_zero, List.set_cons_succ]
      refine wpAnyH_done (by kernel_rfl) ?_ _
      clear hHeld q0 q1 q2 q3 q4 q5 q6 q7 k0 k1 k2 k3 k4 k5 k6 k7
      go_wp2
      refine bodyPost_ret (results_cell_h3 rfl _ _ (w.heap.size + 2) 27 _ (0, 0) _ rfl (set8_blk E2.out) Tryz.underlying27 rfl (by kernel_rfl)) rfl ?_
      have hsame : Same (fun b => wc.heap.size ≤ b) w11 (set8 w13 (w.heap.size + 1 + 1) (.int .i64 (HN.atS eq).u) (.int .i64 (HN.atS eq).c) (.int .i64 (HN.atS eq).o) (.int .i64 (HN.atS eq).size) (.slice na (HN.atS eq).map.length nc) (.slice ta (HN.atS eq).snaps.length tc) (.int .i64 (HN.atS eq).last) (.int .i64 (HN.atS eq).seq)) := ⟨by rw [set8_size]; omega, fun b hb hl => (hne8 b (by have : wc.heap.size ≤ b := hb; omega)).trans (HGE.out b (.inr (.inl hb)) hl)⟩
      rw [HHH.out]
      exact DoO.ok HX.out ⟨_, _, rfl, SlE.weak (SlE.mono J1.out hsame) fun b _ hb => by have : wc.heap.size ≤ b := hb; omega, SlE.weak (SlE.mono J2.out hsame) fun b _ hb => by have : wc.heap.size ≤ b := hb; omega⟩
        (SlE.weak (HROW13.out.same ⟨by rw [set8_size]; exact Nat.le_refl _, fun b hb _ => hne8 b (by have : Kk ≤ b := hb; omega)⟩).sle fun b _ hb => by have : Kk ≤ b := hb; omega)
        (set8_below ((HB11.out.trans (HB12.out.mono (by omega))).trans (HBEL.out.mono (by omega))) (by omega))
end Go.Proofs.YtlekdfajcpmolaaGreatDoor
namespace Go.Proofs.YtlekdfajcpmolaaGreatDoor
open Go.RowKit Go.WideShapes
attribute [local go_sem ↓] Go.wp_at_zero Go.wp_at_succ

set_option maxRecDepth 100000 in
set_option maxHeartbeats 16000000 in
theorem awake19_any (w : World) (hL : LayW w) : Calls Tryz.prog 9 #[] w (Says true w) := by
  have HL := Lib.hid hL
  clear hL
  have kc := fun (w : World) (C : Array Value) (n c : Nat) => Go.Lib.run_convert_bytes_const (P := Tryz.prog) w 28 5 C n c Tryz.underlying28 Tryz.underlying5
  have kd := kc (w.alloc (.cells #[.int .i64 2, .int .i64 2, .int .i64 4, .int .i64 8, .slice none 0 0, .slice none 0 0, .int .i64 0, .int .i64 0] 27)) #[.int .u8 97, .int .u8 98, .int .u8 99] 3 3
  simp only [World.size_alloc] at kd
  clear kc
  go_enter Tryz.func9, Tryz.ntmps9
  go_wp2_with fail
  obtain ⟨w0, hw0⟩ : ∃ w0, w0 = (w.alloc (.cells #[.int .i64 2, .int .i64 2, .int .i64 4, .int .i64 8, .slice none 0 0, .slice none 0 0, .int .i64 0, .int .i64 0] 27)).alloc (.cells #[.int .u8 97, .int .u8 98, .int .u8 99] 5 (3, 4)) := ⟨_, rfl⟩
  rw [← hw0]
  have hb0 : Below w.heap.size w w0 := by rw [hw0]; ((repeat' (first | exact Below.refl _ _ | refine below_drewN ?_ _ | refine Below.drew ?_ | refine Below.alloc ?_ ?_ _ | refine Below.trans ?_ (Below.mono (by assumption) ?_))); all_goals (first | exact Nat.le_refl _ | exact Below.size (by assumption) | omega | (simp; done) | (simp; omega)))
  have r0 : w0.heap[w.heap.size]? = some (.cells #[.int .i64 2, .int .i64 2, .int .i64 4, .int .i64 8, .slice none 0 0, .slice none 0 0, .int .i64 0, .int .i64 0] 27 (0, 0)) := by rw [hw0]; exact (Below.heap_alloc _ _ _ (by simp)).trans (heap_alloc_new w _)
  have hve : RB (fun _ => True) w0 (.slice (some ⟨w.heap.size + 1, 0, none⟩) 3 3) [97, 98, 99] := by
    have hx : w0.heap[w.heap.size + 1]? = some (.cells #[.int .u8 97, .int .u8 98, .int .u8 99] 5 (3, 4)) := by rw [hw0]; exact heap_alloc2_new w _ _
    refine ⟨rfl, .inr ⟨w.heap.size + 1, 0, 3, rfl, (Array.getElem?_eq_some_iff.1 hx).1, trivial, Nat.le_refl _, fun j hj => ?_⟩⟩
    have hj2 : j < 3 := hj
    have : j = 0 ∨ j = 1 ∨ j = 2 := by omega
    rcases this with rfl | rfl | rfl <;> simp [World.cell?, hx, bv]
  have hdo := pdo_k1 (fun _ => True) 3 exH _ exE (some ⟨w.heap.size + 1, 0, none⟩) 3 w0 (HL.out.ext hb0) ⟨.slice none 0 0, .slice none 0 0, rfl, SlE.nil _ _ _, SlE.nil _ _ _⟩ (okl_may ex_may) hve (by decide) ex_may ex_mayE (by decide) rfl
  rw [ex_do] at hdo
  refine hdo.mono ?_
  rintro e w1 ⟨hv, la, lc, rfl, ⟨mv, sv, rfl, i1, i2⟩, hl, hb1⟩
  obtain ⟨na, nc, rfl⟩ : ∃ a c, mv = .slice a 2 c := i1.shape
  obtain ⟨ta, tc, rfl⟩ : ∃ a c, sv = .slice a 0 c := i2.shape
  rw [show hdV exG (.slice na 2 nc) (.slice ta 0 tc) = .agg #[.int .i64 2, .int .i64 2, .int .i64 4, .int .i64 8, .slice na 2 nc, .slice ta 0 tc, .int .i64 0, .int .i64 1] from rfl]
  dsimp only [List.length_cons, List.length_nil] at hl ⊢
  have R1 := Lib.hid (blk19 hb1 r0)
  have HB1 := Lib.hid (call19 hb0 hb1)
  obtain ⟨b, off, cap, cs, e0, hbl, -, ⟨v0, rfl, hv0⟩, hc0⟩ := SlE.at hl (i := 0) (x := exT ⟨#[100, 51, 46, 48]⟩ 1 [97]) rfl
  simp only [Value.slice.injEq] at e0
  obtain ⟨rfl, -, -⟩ := e0
  obtain ⟨b', off', cap', cs', e0, -, -, ⟨v1, rfl, hv1⟩, hc1⟩ := SlE.at hl (i := 1) (x := exT ⟨#[100, 51, 46, 49]⟩ 0 [98, 99]) rfl
  simp only [Value.slice.injEq, Option.some.injEq, Addr.mk.injEq] at e0
  obtain ⟨⟨rfl, rfl, -⟩, -, -⟩ := e0
  obtain ⟨b', off', cap', cs', e0, -, -, ⟨v2, rfl, hv2⟩, hc2⟩ := SlE.at hl (i := 2) (x := exL) rfl
  simp only [Value.slice.injEq, Option.some.injEq, Addr.mk.injEq] at e0
  obtain ⟨⟨rfl, rfl, -⟩, -, -⟩ := e0
  obtain ⟨oa, oc, rfl⟩ : ∃ a c, v0 = .slice a 3 c := hv0.shape
  obtain ⟨pa, pc, rfl⟩ : ∃ a c, v1 = .slice a 3 c := hv1.shape
  obtain ⟨ob, of, oq, os, e0, hol, -, ⟨d0, rfl, hd0⟩, ho⟩ := SlE.at hv0 (i := 1) (x := ⟨5, 1, 0, ByteArray.empty, [97]⟩) rfl
  simp only [Value.slice.injEq] at e0
  obtain ⟨rfl, -, -⟩ := e0
  obtain ⟨qb, qf, qq, qs, e0, hql, -, ⟨d1, rfl, hd1⟩, hq⟩ := SlE.at hv1 (i := 1) (x := ⟨5, 0, 0, ByteArray.empty, [98, 99]⟩) rfl
  simp only [Value.slice.injEq] at e0
  obtain ⟨rfl, -, -⟩ := e0
  obtain ⟨da, dc, rfl⟩ : ∃ a c, d0 = .slice a 1 c := hd0.shape
  obtain ⟨fa, fc, rfl⟩ : ∃ a c, d1 = .slice a 2 c := hd1.shape
  have HD0 := Lib.hid hd0
  have HD1 := Lib.hid hd1
  have s0 : w1.cell? ⟨b, off, none⟩ = some (.string ⟨#[100, 51, 46, 48]⟩) := hc0 0 (by decide)
  have s1 : w1.cell? ⟨b, off + 1, none⟩ = some (.slice (some ⟨ob, of, none⟩) 3 oc) := hc0 1 (by decide)
  have s2 : w1.cell? ⟨b, off + 2, none⟩ = some (.string ⟨#[100, 51, 46, 49]⟩) := hc1 0 (by decide)
  have s3 : w1.cell? ⟨b, off + 3, none⟩ = some (.slice (some ⟨qb, qf, none⟩) 3 pc) := hc1 1 (by decide)
  have s4 : w1.cell? ⟨b, off + 4, none⟩ = some (.string ⟨#[104, 51]⟩) := (hc2 0 (by decide)).trans (by show some (Value.string (headS 3)) = _; rw [ex_h3])
  have o0 : w1.cell? ⟨ob, of + 5, none⟩ = some (.int .i64 5) := ho 0 (by decide)
  have o1 : w1.cell? ⟨ob, of + 6, none⟩ = some (.int .i64 1) := ho 1 (by decide)
  have o2 : w1.cell? ⟨ob, of + 7, none⟩ = some (.int .i64 0) := ho 2 (by decide)
  have o3 : w1.cell? ⟨ob, of + 8, none⟩ = some (.string ByteArray.empty) := ho 3 (by decide)
  have o4 : w1.cell? ⟨ob, of + 9, none⟩ = some (.slice da 1 dc) := ho 4 (by decide)
  have q0 : w1.cell? ⟨qb, qf + 5, none⟩ = some (.int .i64 5) := hq 0 (by decide)
  have q1 : w1.cell? ⟨qb, qf + 6, none⟩ = some (.int .i64 0) := hq 1 (by decide)
  have q2 : w1.cell? ⟨qb, qf + 7, none⟩ = some (.int .i64 0) := hq 2 (by decide)
  have q3 : w1.cell? ⟨qb, qf + 8, none⟩ = some (.string ByteArray.empty) := hq 3 (by decide)
  have q4 : w1.cell? ⟨qb, qf + 9, none⟩ = some (.slice fa 2 fc) := hq 4 (by decide)
  have hw1 : w.heap.size < w1.heap.size := (Array.getElem?_eq_some_iff.1 R1.out).1
  clear hc0 hc1 hc2 ho hq hd0 hd1 hv0 hv1 hv2 hl i1 i2 hb1 r0 hb0 hve hdo hw0 kd
  obtain ⟨y0, f0⟩ := blk_cell (i := 0) R1.out
  obtain ⟨y1, f1⟩ := blk_cell (i := 1) R1.out
  obtain ⟨y2, f2⟩ := blk_cell (i := 2) R1.out
  obtain ⟨y3, f3⟩ := blk_cell (i := 3) R1.out
  obtain ⟨y4, f4⟩ := blk_cell (i := 4) R1.out
  obtain ⟨y5, f5⟩ := blk_cell (i := 5) R1.out
  obtain ⟨y6, f6⟩ := blk_cell (i := 6) R1.out
  obtain ⟨y7, f7⟩ := blk_cell (i := 7) R1.out
  simp at y0 y1 y2 y3 y4 y5 y6 y7
  clear f0 f1 f2 f3 f4 f5 f6 f7
  go_upto_region 7 with fail
  obtain ⟨w2, hw2⟩ : ∃ w2, w2 = ((w1.alloc (.cells #[.int .i64 2, .int .i64 2, .int .i64 4, .int .i64 8, .slice na 2 nc, .slice ta 0 tc, .int .i64 0, .int .i64 1] 27)).alloc (.cells #[.int .i64 5, .int .i64 1, .int .i64 0, .string ByteArray.empty, .slice da 1 dc] 47)).alloc (.cells #[.int .i64 5, .int .i64 0, .int .i64 0, .string ByteArray.empty, .slice fa 2 fc] 47) := ⟨_, rfl⟩
  rw [← hw2]
  have hb2 : Below w1.heap.size w1 w2 := by rw [hw2]; ((repeat' (first | exact Below.refl _ _ | refine below_drewN ?_ _ | refine Below.drew ?_ | refine Below.alloc ?_ ?_ _ | refine Below.trans ?_ (Below.mono (by assumption) ?_))); all_goals (first | exact Nat.le_refl _ | exact Below.size (by assumption) | omega | (simp; done) | (simp; omega)))
  have G0 : w2.heap[w1.heap.size]? = some (.cells #[.int .i64 2, .int .i64 2, .int .i64 4, .int .i64 8, .slice na 2 nc, .slice ta 0 tc, .int .i64 0, .int .i64 1] 27 (0, 0)) := by
    rw [hw2]; exact (Below.heap_alloc _ _ _ (by simp; omega)).trans ((Below.heap_alloc _ _ _ (by simp)).trans (heap_alloc_new w1 _))
  have G1 : w2.heap[w1.heap.size + 1]? = some (.cells #[.int .i64 5, .int .i64 1, .int .i64 0, .string ByteArray.empty, .slice da 1 dc] 47 (0, 0)) := by
    rw [hw2]; exact (Below.heap_alloc _ _ _ (by simp)).trans (heap_alloc2_new _ _ _)
  have G2 : w2.heap[w1.heap.size + 2]? = some (.cells #[.int .i64 5, .int .i64 0, .int .i64 0, .string ByteArray.empty, .slice fa 2 fc] 47 (0, 0)) := by
    rw [hw2]
    have := heap_alloc_new ((w1.alloc (.cells #[.int .i64 2, .int .i64 2, .int .i64 4, .int .i64 8, .slice na 2 nc, .slice ta 0 tc, .int .i64 0, .int .i64 1] 27)).alloc (.cells #[.int .i64 5, .int .i64 1, .int .i64 0, .string ByteArray.empty, .slice da 1 dc] 47)) (.cells #[.int .i64 5, .int .i64 0, .int .i64 0, .string ByteArray.empty, .slice fa 2 fc] 47)
    simpa using this
  have R2 := blk19 hb2 R1.out
  have HB2 := Lib.hid (call19 HB1.out hb2)
  have hcr := create_any (fun _ => True) 3 exH _ w2 ⟨.slice none 0 0, .slice none 0 0, rfl, SlE.nil _ _ _, SlE.nil _ _ _⟩ (okl_may ex_may)
  unfold CreO at hcr
  rw [crX_yes (i := 3) (h := exH) ex_may, chkH_yes (h := exH) ex_may, ex_h3] at hcr
  have HCR := Lib.hid hcr
  have HE0 := Lib.hid (HD0.out.ext hb2)
  have HE1 := Lib.hid (HD1.out.ext hb2)
  have t0 := cellExt hb2 s0
  have t2 := cellExt hb2 s2
  have t4 := cellExt hb2 s4
  have hbl2 := Nat.lt_of_lt_of_le hbl hb2.size
  clear hcr s0 s1 s2 s3 s4 o0 o1 o2 o3 o4 q0 q1 q2 q3 q4 y0 y1 y2 y3 y4 y5 y6 y7 hw2 hb2 R1 HB1 HD0 HD1
  obtain ⟨y0, f0⟩ := blk_cell (i := 0) R2
  obtain ⟨y1, f1⟩ := blk_cell (i := 1) R2
  obtain ⟨y2, f2⟩ := blk_cell (i := 2) R2
  obtain ⟨y3, f3⟩ := blk_cell (i := 3) R2
  obtain ⟨y4, f4⟩ := blk_cell (i := 4) R2
  obtain ⟨y5, f5⟩ := blk_cell (i := 5) R2
  obtain ⟨y6, f6⟩ := blk_cell (i := 6) R2
  obtain ⟨y7, f7⟩ := blk_cell (i := 7) R2
  simp at y0 y1 y2 y3 y4 y5 y6 y7
  clear f0 f1 f2 f3 f4 f5 f6 f7
  have hp2 := (Array.getElem?_eq_some_iff.1 R2).1
  go_wp2_with fail
  refine HCR.out.mono ?_
  rintro e w3 ⟨va, vc, rfl, -, hb3⟩
  have HB3 := Lib.hid (call19 HB2.out hb3)
  have hb34 : Below w3.heap.size w3 (w3.alloc (.cells #[.string ⟨#[104, 51]⟩, .slice va 2 vc] 42)) := (Below.refl _ _).alloc (Nat.le_refl _) _
  have cv0 : (Go.convert 28 9 (.slice da 1 dc)).run Tryz.prog (w3.alloc (.cells #[.string ⟨#[104, 51]⟩, .slice va 2 vc] 42)) = .ok (.string ⟨#[97]⟩) (w3.alloc (.cells #[.string ⟨#[104, 51]⟩, .slice va 2 vc] 42)) := conv_bs (HE0.out.ext hb3) _ hb34
  have cv1 : (Go.convert 28 9 (.slice fa 2 fc)).run Tryz.prog (w3.alloc (.cells #[.string ⟨#[104, 51]⟩, .slice va 2 vc] 42)) = .ok (.string ⟨#[98, 99]⟩) (w3.alloc (.cells #[.string ⟨#[104, 51]⟩, .slice va 2 vc] 42)) := conv_bs (HE1.out.ext hb3) _ hb34
  have u0 := cellExt hb3 t0
  have u2 := cellExt hb3 t2
  have u4 := cellExt hb3 t4
  have hbl3 := Nat.lt_of_lt_of_le hbl2 hb3.size
  have K0 := blk19 hb3 G0
  have K1 := blk19 hb3 G1
  have K2 := blk19 hb3 G2
  have hk0 := (Array.getElem?_eq_some_iff.1 K0).1
  have hk1 := (Array.getElem?_eq_some_iff.1 K1).1
  have hk2 := (Array.getElem?_eq_some_iff.1 K2).1
  obtain ⟨z2, -⟩ := blk_cell (i := 2) K0
  obtain ⟨z5, -⟩ := blk_cell (i := 7) K0
  obtain ⟨m1, -⟩ := blk_cell (i := 1) K1
  obtain ⟨m4, -⟩ := blk_cell (i := 4) K1
  obtain ⟨n1, -⟩ := blk_cell (i := 1) K2
  obtain ⟨n4, -⟩ := blk_cell (i := 4) K2
  obtain ⟨zz, -⟩ := blk_cell (i := 4) K0
  simp at z2 z5 m1 m4 n1 n4 zz
  have HMK : Hid (∀ W, Below w3.heap.size w3 W → Calls Tryz.prog 23 #[.int .i64 7] W fun e w' => e = .returned (.string ⟨#[115, 48, 48, 55]⟩) ∧ Below W.heap.size W w') := Lib.hid fun W h => by
    have := pmark_any 7 W (HL.out.ext (call19 HB3.out h))
    rw [ex_m7] at this
    exact this
  have HB34 := Lib.hid hb34
  clear t0 t2 t4 G0 G1 G2 K0 K1 K2 R2 y0 y1 y2 y3 y4 y5 y6 y7 hb3 HB2 HE0 HE1 hb34
  go_wp2_with (go_at_call 23; refine (HMK.out _ HB34.out).mono ?_; rintro e w5 ⟨rfl, hb5⟩)
  go_ret
  exact ⟨by simp, call19 (call19 HB3.out HB34.out) hb5⟩
end Go.Proofs.YtlekdfajcpmolaaGreatDoor
