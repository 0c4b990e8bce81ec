/- A region that draws its order and whose last operation waits for all others: the others under a condition that holds till then. No program is named. The walk of plan.begin. -/
import Derived.StillTail
import Derived.Deep.RegionHeld
import Derived.Test.YtlekdfajcpmolaaGreatDoorGCM
import Derived.Test.YtlekdfajcpmolaaGreatDoorGDA
import Derived.Test.YtlekdfajcpmolaaGreatDoorGCI
import Derived.Test.YtlekdfajcpmolaaGreatDoorGCC
import Derived.Test.YtlekdfajcpmolaaGreatDoorGAC
import Derived.Test.YtlekdfajcpmolaaGreatDoorGDB
import Derived.Test.YtlekdfajcpmolaaGreatDoorGCF
namespace Go.Proofs.YtlekdfajcpmolaaGreatDoor
open Go

/-- every edge goes back -/
def backB (md : Region.Mode) (ops : Array Oper) : Bool :=
  (List.range ops.size).all fun j => match ops[j]? with
    | some oj => oj.after.all fun e => !Region.binds md e || decide (e.on < j)
    | none => true
section
variable {P : Program} {ops : Array Oper} {md : Region.Mode} {Q : Exit → Act → World → Prop} {S : World → Prop}
theorem backB_spec (h : backB md ops = true) {j : Nat} {oj : Oper} (hj : ops[j]? = some oj) : ∀ e ∈ oj.after, Region.binds md e = true → e.on < j := by
  intro e he hb
  have h1 := List.all_eq_true.1 h j (List.mem_range.2 (Array.getElem?_eq_some_iff.1 hj).1)
  simp only [hj] at h1
  have h2 := Array.all_eq_true'.1 h1 e he
  simpa [hb] using h2
/-- what is asked behind a region whose last operation has yet to come -/
def SinkQ (P : Program) (ops : Array Oper) (n : Nat) (Q : Exit → Act → World → Prop) : Exit → Act → World → Prop
  | .normal, a, w => wpOp P ops Q n (Q .normal) a w
  | .exit i, a, w => Q (.exit i) a w
  | .goto i, a, w => Q (.goto i) a w
  | .ret, a, w => Q .ret a w
  | .panic c, a, w => Q (.panic c) a w
  | .outgrown, a, w => Q .outgrown a w
theorem SinkQ.imp {n : Nat} : ∀ (e : Exit) (a : Act) (w : World), e ≠ .normal → SinkQ P ops n Q e a w → Q e a w := by
  intro e a w he h
  cases e <;> first | exact absurd rfl he | exact h
theorem wp_monoQ {o : Oper} {a : Act} {w : World} {K K' : Act → World → Prop} {Q' : Exit → Act → World → Prop} (h : ∀ a w, K a w → K' a w) (hq : ∀ (e : Exit) a w, e ≠ .normal → Q' e a w → Q e a w)
    (hh : o.wp P a w K Q') : o.wp P a w K' Q := by
  have ho : LetsOut Q' → LetsOut Q := fun ⟨a, w, q⟩ => ⟨a, w, hq _ _ _ (by simp) q⟩
  unfold Oper.wp at *
  generalize (execOp a.eval o).run P w = r at *
  cases r with
  | ok n w' =>
    cases n <;> simp only [Oper.upon] at hh ⊢ <;>
      first
        | exact h _ _ hh
        | exact Calls.mono hh (fun e w'' he => by cases e <;> first | exact h _ _ he | exact hq _ _ _ (by simp) he | exact ho he)
        | exact Rows.mono hh (fun _ _ he => h _ _ he)
        | exact hq _ _ _ (by simp) hh
  | halt x w' => cases x <;> simp only [Oper.upon] at hh ⊢ <;> first | exact hh | exact hq _ _ _ (by simp) hh | exact ho hh
theorem wpOp_monoQ {i : Nat} {a : Act} {w : World} {K K' : Act → World → Prop} {Q' : Exit → Act → World → Prop} (h : ∀ a w, K a w → K' a w) (hq : ∀ (e : Exit) a w, e ≠ .normal → Q' e a w → Q e a w)
    (hh : wpOp P ops Q' i K a w) : wpOp P ops Q i K' a w := by
  have ho : LetsOut Q' → LetsOut Q := fun ⟨a, w, q⟩ => ⟨a, w, hq _ _ _ (by simp) q⟩
  unfold wpOp at *
  split
  · exact h _ _ (by simpa [*] using hh)
  · rename_i o h0
    simp only [h0] at hh
    split
    · rename_i hw; simp only [hw, if_true] at hh; exact hh.imp (wp_monoQ h hq) fun hx => ⟨hx.1, ho hx.2⟩
    · rename_i hw; simp only [hw] at hh; exact h _ _ hh
theorem least_ready {n : Nat} {listed : Array Bool} (hb : backB md ops = true) (hn : n + 1 = ops.size) (inv : HeadInv md ops n listed) :
    ∀ (i : Nat), i < n → listed.getD i true = false → ∃ j, j < n ∧ j ∈ Region.ready md ops listed := by
  intro i
  induction i using Nat.strongRecOn with
  | _ i ih =>
    intro hi hu
    by_cases h : ∃ j, j < i ∧ listed.getD j true = false
    · obtain ⟨j, hj, hj2⟩ := h
      exact ih j hj (by omega) hj2
    · have hio : i < ops.size := by omega
      refine ⟨i, hi, mem_ready.2 ⟨hu, ops[i], by simp [hio], fun e he hbe => ?_⟩⟩
      have hlt := backB_spec hb (show ops[i]? = some ops[i] by simp [hio]) e he hbe
      have hs := inv.size
      have h2 : listed.getD e.on true ≠ false := fun h3 => h ⟨e.on, hlt, h3⟩
      have hl : e.on < listed.size := by omega
      simp [hl] at h2 ⊢
      exact h2
theorem ready_sink {n j : Nat} {listed : Array Bool} (hb : backB md ops = true) (hn : n + 1 = ops.size) (hj : j ≠ n) : j ∈ Region.ready md ops (listed.setIfInBounds n true) ↔ j ∈ Region.ready md ops listed := by
  constructor
  · intro h
    obtain ⟨h0, o, ho, hall⟩ := mem_ready.1 h
    have hlt : j < ops.size := (Array.getElem?_eq_some_iff.1 ho).1
    refine mem_ready.2 ⟨by rw [← getD_set_ne true (Ne.symm hj)]; exact h0, o, ho, fun e he hbe => ?_⟩
    have h1 := hall e he hbe
    have h2 := backB_spec hb ho e he hbe
    rwa [getD_set_ne false (by omega)] at h1
  · exact fun h => ready_mono h hj
theorem sink_ready {n : Nat} {listed : Array Bool} (hb : backB md ops = true) (hn : n + 1 = ops.size) (inv : HeadInv md ops n listed) (h : ∀ i, i < n → listed.getD i true ≠ false) : Region.ready md ops listed = [n] ∧ Region.ready md ops (listed.setIfInBounds n true) = [] := by
  have hno : ops[n]? = some (ops[n]'(by omega)) := by simp
  have hr : ∀ j, j ∈ Region.ready md ops listed ↔ j = n := by
    intro j
    constructor
    · intro hj
      obtain ⟨h0, o, ho, -⟩ := mem_ready.1 hj
      have hlt : j < ops.size := (Array.getElem?_eq_some_iff.1 ho).1
      by_cases hjn : j < n
      · exact absurd h0 (h j hjn)
      · omega
    · rintro rfl
      refine mem_ready.2 ⟨inv.tail _ (Nat.le_refl _) (by omega), _, hno, fun e he hbe => ?_⟩
      have h2 := backB_spec hb hno e he hbe
      have h3 := h e.on h2
      have hl : e.on < listed.size := by rw [inv.size]; omega
      simp [hl] at h3 ⊢
      exact h3
  constructor
  · have h1 : (Region.ready md ops listed).Nodup := by unfold Region.ready; exact List.Pairwise.filter _ List.nodup_range
    cases hl : Region.ready md ops listed with
    | nil => have := (hr n).2 rfl; rw [hl] at this; cases this
    | cons x xs =>
      rw [hl] at h1 hr
      obtain rfl := (hr x).1 (by simp)
      cases xs with
      | nil => rfl
      | cons y ys =>
        obtain rfl := (hr y).1 (by simp)
        simp at h1
  · refine List.eq_nil_iff_forall_not_mem.2 fun j hj => ?_
    obtain ⟨h0, o, ho, -⟩ := mem_ready.1 hj
    have hlt : j < ops.size := (Array.getElem?_eq_some_iff.1 ho).1
    by_cases hjn : j = n
    · subst hjn
      have hl : j < listed.size := by rw [inv.size]; omega
      simp [hl] at h0
    · exact hjn ((hr j).1 ((ready_sink hb hn hjn).1 hj))
theorem wpAny_sink {n : Nat} (hs : Region.sinkB md ops n = true) (hc : Region.chainB md ops n = true) (hb : backB md ops = true) (hn : n + 1 = ops.size) :
    ∀ (fuel : Nat) (listed : Array Bool) (a : Act) (w : World), HeadInv md ops n listed → wpAny P md ops (SinkQ P ops n Q) fuel (listed.setIfInBounds n true) a w → wpAny P md ops Q (fuel + 1) listed a w := by
  intro fuel
  induction fuel with
  | zero =>
    intro listed a w inv H
    have hall : ∀ i, i < n → listed.getD i true ≠ false := fun i hi hu => by
      obtain ⟨j, hj, hjr⟩ := least_ready hb hn inv i hi hu
      have := (ready_sink hb hn (Nat.ne_of_lt hj)).2 hjr
      rw [H.1] at this
      cases this
    obtain ⟨h1, h2⟩ := sink_ready hb hn inv hall
    refine ⟨fun h => (by rw [h1] at h; cases h), fun i hi => ?_⟩
    rw [h1] at hi
    obtain rfl := List.mem_singleton.1 hi
    exact wpOp_mono (fun a' w' h => ⟨h2, h⟩) H.2
  | succ fuel ih =>
    intro listed a w inv H
    by_cases hex : ∃ i, i < n ∧ listed.getD i true = false
    · obtain ⟨i0, hi0, hu0⟩ := hex
      have hnr : n ∉ Region.ready md ops listed := tail_waits hs hc (by omega) inv _ i0 rfl hi0 hu0 n (Nat.le_refl _)
      refine ⟨fun h => ?_, fun i hi => ?_⟩
      · obtain ⟨j, _, hjr⟩ := least_ready hb hn inv i0 hi0 hu0
        rw [h] at hjr
        cases hjr
      · have hin : i ≠ n := fun e => hnr (e ▸ hi)
        have hlt : i < n := by
          obtain ⟨_, o, ho, _⟩ := mem_ready.1 hi
          have := (Array.getElem?_eq_some_iff.1 ho).1
          omega
        refine wpOp_monoQ (fun a' w' h => ih _ a' w' (inv.set hi hlt) ?_) SinkQ.imp (H.2 i ((ready_sink hb hn hin).2 hi))
        rw [Array.setIfInBounds_comm _ _ hin]
        exact h
    · have hall : ∀ i, i < n → listed.getD i true ≠ false := fun i hi hu => hex ⟨i, hi, hu⟩
      obtain ⟨h1, h2⟩ := sink_ready hb hn inv hall
      refine ⟨fun h => (by rw [h1] at h; cases h), fun i hi => ?_⟩
      rw [h1] at hi
      obtain rfl := List.mem_singleton.1 hi
      exact wpOp_mono (fun a' w' h => wpAny_done h2 h _) (H.1 h2)
/-- the end: the last operation -/
theorem sink_end {n : Nat} {o : Oper} {a : Act} {w : World} (ho : ops[n]? = some o) (h : ∀ K' : Act → World → Prop, (∀ a w, Q .normal a w → K' a w) → if Region.wanted o (yielded ops a.tmps) = true then Oper.wp P o a w K' Q else K' (a.put o.dst undef) w) : SinkQ P ops n Q .normal a w := wpOp_step ho h
/-- the beginning: the last operation, number n, is left to the end -/
theorem wp_region_sink {id n : Nat} {a : Act} {w : World} (S : World → Prop) (hm : P.follows .mixedOrders = true) (hs : Region.sinkB .any ops n = true) (hc : Region.chainB .any ops n = true) (hb : backB .any ops = true) (hn : ops.size = n + 1)
    (hS : S w.drew) (h : S w.drew → wpAnyH P .any ops (SinkQ P ops n Q) S n ((Array.replicate (n + 1) false).setIfInBounds n true) a w.drew) : (Code.region id ops true).wp P Q a w := by
  refine wp_region_any hm ?_
  rw [hn]
  refine wpAny_sink hs hc hb hn.symm n _ a _ ⟨by simp [hn], fun j oj _ hl => ?_, fun t h1 h2 => ?_⟩ (wpAny_of_held _ _ _ _ (h hS))
  · rw [getD_replicate_false] at hl
    cases hl
  · have : t < n + 1 := by omega
    simp [this]
end
end Go.Proofs.YtlekdfajcpmolaaGreatDoor
namespace Go.Proofs.YtlekdfajcpmolaaGreatDoor
open Go.RowKit Go.WideShapes

/-- what stands ahead of each step's operation -/
def ahS (h : HeD) (seq : Int) : List OpD := ⟨4, 0, seq, ByteArray.empty, []⟩ :: (if 0 < newestH h then [⟨11, 0, 0, markS (newestH h), []⟩] else [])
def enC (e : EnD) (v : Value) : List Value := [.int .i64 e.seq, .int .i64 e.owner, .int .i64 e.kind, .int .i64 e.off, .int .i64 e.len, .int .i64 e.snap, v]
/-- the function that lays a step -/
abbrev stepF (pa pe pW pi : Nat) : Value := .func (.func 97) #[] #[.pointer (some ⟨pa, 0, none⟩), .pointer (some ⟨pe, 0, none⟩), .pointer (some ⟨pW, 0, none⟩), .pointer (some ⟨pi, 0, none⟩)]
def wkC (was h : HeD) (wm wss hm hs : Value) (e : EnD) (ev lv sv : Value) : List Value := hdC was wm wss ++ hdC h hm hs ++ enC e ev ++ [lv, sv]
/-- a plan on its way, in the boxes that begin has made behind B -/
structure WkM (A : Nat → Prop) (B K : Nat) (W : World) (i : Int) (was h : HeD) (e : EnD) (l : List TxD) : Prop where
  mk ::
  im : W.heap[B]? = some (.cells #[.int .i64 i] 3 (0, 0))
  en : ∃ ev, W.heap[B + 2]? = some (.cells (enC e ev).toArray 30 (0, 0)) ∧ RB A W ev e.data
  va : W.heap[B + 4]? = some (.cells #[.pointer (some ⟨B + 3, 0, none⟩)] 105 (0, 0))
  ah : ∃ av, W.heap[B + 6]? = some (.cells #[av] 40 (0, 0)) ∧ EnRow Enc.op 47 NoB (B + 5) W av (ahS was e.seq)
  bx : ∃ wm wss hm hs ev lv, W.heap[B + 3]? = some (.cells (wkC was h wm wss hm hs e ev lv (stepF (B + 6) (B + 2) (B + 4) B)).toArray 113 (0, 0)) ∧ IntsA A W wm was.map ∧ SnapsA A W wss was.snaps ∧
    (IntsA A W hm h.map ∨ NI (B + 7) W hm h.map) ∧ SnapsA A W hs h.snaps ∧ RB A W ev e.data ∧ EnR Enc.txn 42 K W lv l
theorem wk_made {A : Nat → Prop} {B K : Nat} {W : World} {i : Int} {was : HeD} {e : EnD} {wm wss ev av : Value} (hA : ∀ b, A b → b < B) (P0 : W.heap[B]? = some (.cells #[.int .i64 i] 3 (0, 0)))
    (P2 : W.heap[B + 2]? = some (.cells (enC e ev).toArray 30 (0, 0))) (P3 : W.heap[B + 3]? = some (.cells (wkC was was wm wss wm wss e ev (.slice none 0 0) .nilFunc).toArray 113 (0, 0)))
    (P4 : W.heap[B + 4]? = some (.cells #[.pointer (some ⟨B + 3, 0, none⟩)] 105 (0, 0))) (P6 : W.heap[B + 6]? = some (.cells #[av] 40 (0, 0))) (hav : EnRow Enc.op 47 NoB (B + 5) W av (ahS was e.seq))
    (hm : IntsA A W wm was.map) (hss : SnapsA A W wss was.snaps) (hE : RB A W ev e.data) : WkM A B K (W.setCell ⟨B + 3, 24, none⟩ (stepF (B + 6) (B + 2) (B + 4) B)) i was was e [] := by
  have hsm : Same A W (W.setCell ⟨B + 3, 24, none⟩ (stepF (B + 6) (B + 2) (B + 4) B)) := ⟨by simp [World.setCell], fun b hb _ => Below.heap_setCell _ _ _ _ (show b ≠ B + 3 by have := hA b hb; omega)⟩
  have ne : ∀ b, b ≠ B + 3 → (W.setCell ⟨B + 3, 24, none⟩ (stepF (B + 6) (B + 2) (B + 4) B)).heap[b]? = W.heap[b]? := fun b hb => Below.heap_setCell _ _ _ _ hb
  refine ⟨(ne _ (by omega)).trans P0, ⟨ev, (ne _ (by omega)).trans P2, hE.mono hsm⟩, (ne _ (by omega)).trans P4, ⟨av, (ne _ (by omega)).trans P6, ?_⟩, ⟨wm, wss, wm, wss, ev, .slice none 0 0, setI_blk P3, SlE.mono hm hsm, SlE.mono hss hsm, .inl (SlE.mono hm hsm), SlE.mono hss hsm, hE.mono hsm, EnR.nil _ _ _ _⟩⟩
  exact hav.keepN (by simp [World.setCell]) fun g hg => ne g (by have := (hav.lt g hg).1; omega)
theorem seven_blk (w : World) (o0 o1 o2 o3 o4 o5 o6 : Obj) : let W := ((((((w.alloc o0).alloc o1).alloc o2).alloc o3).alloc o4).alloc o5).alloc o6
    W.heap.size = w.heap.size + 7 ∧ W.heap[w.heap.size]? = some o0 ∧ W.heap[w.heap.size + 1]? = some o1 ∧ W.heap[w.heap.size + 2]? = some o2 ∧ W.heap[w.heap.size + 3]? = some o3 ∧ W.heap[w.heap.size + 4]? = some o4 ∧ W.heap[w.heap.size + 5]? = some o5 ∧ W.heap[w.heap.size + 6]? = some o6 := by
  refine ⟨by simp, ?_, ?_, ?_, ?_, ?_, ?_, ?_⟩
  · exact (Below.heap_alloc _ _ _ (by simp <;> omega)).trans ((Below.heap_alloc _ _ _ (by simp <;> omega)).trans ((Below.heap_alloc _ _ _ (by simp <;> omega)).trans ((Below.heap_alloc _ _ _ (by simp <;> omega)).trans ((Below.heap_alloc _ _ _ (by simp <;> omega)).trans ((Below.heap_alloc _ _ _ (by simp <;> omega)).trans ((heap_alloc_new w o0 : (w.alloc o0).heap[w.heap.size]? = some o0)))))))
  · exact (Below.heap_alloc _ _ _ (by simp <;> omega)).trans ((Below.heap_alloc _ _ _ (by simp <;> omega)).trans ((Below.heap_alloc _ _ _ (by simp <;> omega)).trans ((Below.heap_alloc _ _ _ (by simp <;> omega)).trans ((Below.heap_alloc _ _ _ (by simp <;> omega)).trans ((by rw [show w.heap.size + 1 = (w.alloc o0).heap.size from by simp]; exact heap_alloc_new _ _ : (((w.alloc o0).alloc o1)).heap[w.heap.size + 1]? = some o1))))))
  · exact (Below.heap_alloc _ _ _ (by simp <;> omega)).trans ((Below.heap_alloc _ _ _ (by simp <;> omega)).trans ((Below.heap_alloc _ _ _ (by simp <;> omega)).trans ((Below.heap_alloc _ _ _ (by simp <;> omega)).trans ((by rw [show w.heap.size + 2 = ((w.alloc o0).alloc o1).heap.size from by simp]; exact heap_alloc_new _ _ : ((((w.alloc o0).alloc o1).alloc o2)).heap[w.heap.size + 2]? = some o2)))))
  · exact (Below.heap_alloc _ _ _ (by simp <;> omega)).trans ((Below.heap_alloc _ _ _ (by simp <;> omega)).trans ((Below.heap_alloc _ _ _ (by simp <;> omega)).trans ((by rw [show w.heap.size + 3 = (((w.alloc o0).alloc o1).alloc o2).heap.size from by simp]; exact heap_alloc_new _ _ : (((((w.alloc o0).alloc o1).alloc o2).alloc o3)).heap[w.heap.size + 3]? = some o3))))
  · exact (Below.heap_alloc _ _ _ (by simp <;> omega)).trans ((Below.heap_alloc _ _ _ (by simp <;> omega)).trans ((by rw [show w.heap.size + 4 = ((((w.alloc o0).alloc o1).alloc o2).alloc o3).heap.size from by simp]; exact heap_alloc_new _ _ : ((((((w.alloc o0).alloc o1).alloc o2).alloc o3).alloc o4)).heap[w.heap.size + 4]? = some o4)))
  · exact (Below.heap_alloc _ _ _ (by simp <;> omega)).trans ((by rw [show w.heap.size + 5 = (((((w.alloc o0).alloc o1).alloc o2).alloc o3).alloc o4).heap.size from by simp]; exact heap_alloc_new _ _ : (((((((w.alloc o0).alloc o1).alloc o2).alloc o3).alloc o4).alloc o5)).heap[w.heap.size + 5]? = some o5))
  · exact (by rw [show w.heap.size + 6 = ((((((w.alloc o0).alloc o1).alloc o2).alloc o3).alloc o4).alloc o5).heap.size from by simp]; exact heap_alloc_new _ _ : ((((((((w.alloc o0).alloc o1).alloc o2).alloc o3).alloc o4).alloc o5).alloc o6)).heap[w.heap.size + 6]? = some o6)
theorem below7w (w : World) (o0 o1 o2 o3 o4 o5 o6 : Obj) : Below w.heap.size w (((((((w.alloc o0).alloc o1).alloc o2).alloc o3).alloc o4).alloc o5).alloc o6) :=
  (((((((Below.refl _ w).alloc (Nat.le_refl _) _).alloc (by simp) _).alloc (by simp; omega) _).alloc (by simp; omega) _).alloc (by simp; omega) _).alloc (by simp; omega) _).alloc (by simp; omega) _
set_option maxRecDepth 100000 in
set_option maxHeartbeats 1600000 in
theorem begin_any (A : Nat → Prop) (i u c o sz la sq : Int) (ma : Option Addr) (mc : Nat) (m : List Int) (sa : Option Addr) (sc : Nat) (ss : List SnD) (e : EnD) (ea : Option Addr) (ec : Nat) (w : World) (hL : LayW w)
    (hv : HeV A w (.agg #[.int .i64 u, .int .i64 c, .int .i64 o, .int .i64 sz, .slice ma m.length mc, .slice sa ss.length sc, .int .i64 la, .int .i64 sq]) ⟨u, c, o, sz, m, ss, la, sq⟩) (hs : ss.length ≤ 100000) (hA : ∀ b, A b → b < w.heap.size) (he : RB A w (.slice ea e.data.length ec) e.data) :
    Calls Tryz.prog 45 #[.int .i64 i, .agg #[.int .i64 u, .int .i64 c, .int .i64 o, .int .i64 sz, .slice ma m.length mc, .slice sa ss.length sc, .int .i64 la, .int .i64 sq], .agg #[.int .i64 e.seq, .int .i64 e.owner, .int .i64 e.kind, .int .i64 e.off, .int .i64 e.len, .int .i64 e.snap, .slice ea e.data.length ec]] w fun en w' => en = .returned (.pointer (some ⟨w.heap.size + 3, 0, none⟩)) ∧ (∀ K, WkM A w.heap.size K w' i ⟨u, c, o, sz, m, ss, la, sq⟩ ⟨u, c, o, sz, m, ss, la, sq⟩ e []) ∧ Below w.heap.size w w' := by
  have HV := Lib.hid hv
  have HL := Lib.hid hL
  clear hv hL
  obtain ⟨i0, hi, hz0, hz1, hz2⟩ := info_parts infoOpT
  obtain ⟨eq, eo, ek, ef, el, es, ed⟩ := e
  simp only
  go_enter Tryz.func45, Tryz.ntmps45
  go_upto_region 3 with fail
  obtain ⟨W1, hW1⟩ : ∃ W1, W1 = ((((((w.alloc (.cells #[.int .i64 i] 3)).alloc (.cells #[.int .i64 u, .int .i64 c, .int .i64 o, .int .i64 sz, .slice ma m.length mc, .slice sa ss.length sc, .int .i64 la, .int .i64 sq] 27)).alloc
    (.cells #[.int .i64 eq, .int .i64 eo, .int .i64 ek, .int .i64 ef, .int .i64 el, .int .i64 es, .slice ea ed.length ec] 30)).alloc
    (.cells (wkC ⟨u, c, o, sz, m, ss, la, sq⟩ ⟨u, c, o, sz, m, ss, la, sq⟩ (.slice ma m.length mc) (.slice sa ss.length sc) (.slice ma m.length mc) (.slice sa ss.length sc) ⟨eq, eo, ek, ef, el, es, ed⟩ (.slice ea ed.length ec) (.slice none 0 0) .nilFunc).toArray 113)).alloc
    (.cells #[.pointer (some ⟨w.heap.size + 3, 0, none⟩)] 105)).alloc (.cells #[.int .i64 4, .int .i64 0, .int .i64 eq, .string ⟨#[]⟩, .slice none 0 0] 47)).alloc (.cells #[.slice (some ⟨w.heap.size + 5, 0, none⟩) 1 1] 40) := ⟨_, rfl⟩
  have hx : W1 = W1 := rfl
  conv at hx => lhs; rw [hW1]
  simp only [wkC, hdC, enC, List.cons_append, List.nil_append] at hx
  show Code.wp _ _ _ _ _
  rw [show _ = W1 from hx]
  have hsz : W1.heap.size = w.heap.size + 7 := by rw [hW1]; simp
  obtain ⟨-, g0, g1, g2, g3, g4, g5, g6⟩ := seven_blk w (.cells #[.int .i64 i] 3) (.cells #[.int .i64 u, .int .i64 c, .int .i64 o, .int .i64 sz, .slice ma m.length mc, .slice sa ss.length sc, .int .i64 la, .int .i64 sq] 27)
    (.cells #[.int .i64 eq, .int .i64 eo, .int .i64 ek, .int .i64 ef, .int .i64 el, .int .i64 es, .slice ea ed.length ec] 30)
    (.cells (wkC ⟨u, c, o, sz, m, ss, la, sq⟩ ⟨u, c, o, sz, m, ss, la, sq⟩ (.slice ma m.length mc) (.slice sa ss.length sc) (.slice ma m.length mc) (.slice sa ss.length sc) ⟨eq, eo, ek, ef, el, es, ed⟩ (.slice ea ed.length ec) (.slice none 0 0) .nilFunc).toArray 113)
    (.cells #[.pointer (some ⟨w.heap.size + 3, 0, none⟩)] 105) (.cells #[.int .i64 4, .int .i64 0, .int .i64 eq, .string ⟨#[]⟩, .slice none 0 0] 47) (.cells #[.slice (some ⟨w.heap.size + 5, 0, none⟩) 1 1] 40)
  have hb1 : Below w.heap.size w W1 := by rw [hW1]; exact below7w w _ _ _ _ _ _ _
  rw [← hW1] at g0 g1 g2 g3 g4 g5 g6
  clear hx
  have G0 := Lib.hid g0
  have G2 := Lib.hid g2
  have G3 := Lib.hid g3
  have G4 := Lib.hid g4
  have G5 := Lib.hid g5
  have G6 := Lib.hid g6
  have HB1 := Lib.hid hb1
  have HV1 := Lib.hid (HeV.ext HV.out hb1)
  have HE1 := Lib.hid (he.ext hb1)
  have hL1 := HL.out.ext hb1
  have HL1 := Lib.hid hL1
  generalize hBB : w.heap.size = B at *
  have HBB := Lib.hid hBB
  clear hBB
  clear hW1 g0 g2 g3 g4 g5 hb1 he
  have HN := Lib.hid (pnewest_any A ⟨u, c, o, sz, m, ss, la, sq⟩ _ W1 HV1.out hs)
  obtain ⟨a0, -⟩ := blk_cell (i := 0) g1
  obtain ⟨a1, -⟩ := blk_cell (i := 1) g1
  obtain ⟨a2, -⟩ := blk_cell (i := 2) g1
  obtain ⟨a3, -⟩ := blk_cell (i := 3) g1
  obtain ⟨a4, -⟩ := blk_cell (i := 4) g1
  obtain ⟨a5, -⟩ := blk_cell (i := 5) g1
  obtain ⟨a6, -⟩ := blk_cell (i := 6) g1
  obtain ⟨a7, -⟩ := blk_cell (i := 7) g1
  simp at a0 a1 a2 a3 a4 a5 a6 a7
  clear g1 g6
  obtain ⟨N, hN⟩ : ∃ N, newestH ⟨u, c, o, sz, m, ss, la, sq⟩ = N := ⟨_, rfl⟩
  rw [hN] at HN
  have HNN := Lib.hid hN
  clear hN
  go_wp2_with fail
  refine HN.out.mono ?_
  rintro e w2 ⟨rfl, hb2⟩
  have HB2 := Lib.hid hb2
  clear hb2 a0 a1 a2 a3 a4 a5 a6 a7
  have hs2 := HB2.out.size
  have HG2 : ∀ b x, W1.heap[b]? = some x → w2.heap[b]? = some x := fun b x h => blk19 HB2.out h
  have P0 := Lib.hid (HG2 _ _ G0.out)
  have P2 := Lib.hid (HG2 _ _ G2.out)
  have P3 := Lib.hid (HG2 _ _ G3.out)
  have P4 := Lib.hid (HG2 _ _ G4.out)
  have P5 := Lib.hid (HG2 _ _ G5.out)
  have P6 := Lib.hid (HG2 _ _ G6.out)
  have PV := Lib.hid (HeV.ext HV1.out HB2.out)
  have PE := Lib.hid (RB.ext HE1.out HB2.out)
  have PL := Lib.hid (LayW.ext HL1.out HB2.out)
  have PB : Hid (Below B w w2) := Lib.hid (HB1.out.trans (HB2.out.mono (by omega)))
  clear HG2 G0 G2 G3 G4 G5 G6 HV1 HE1 HL1 HB1 HB2 HN hL1
  obtain ⟨k0, k1⟩ := blk_cell (i := 0) P6.out
  obtain ⟨k4, -⟩ := blk_cell (i := 0) P4.out
  obtain ⟨k3, f3⟩ := blk_cell (i := 24) P3.out
  replace k0 : w2.cell? ⟨B + 1 + 1 + 1 + 1 + 1 + 1, 0, none⟩ = some (.slice (some ⟨B + 5, 0, none⟩) 1 1) := k0
  replace k1 : w2.frozen? ⟨B + 1 + 1 + 1 + 1 + 1 + 1, 0, none⟩ = false := k1
  replace k4 : w2.cell? ⟨B + 1 + 1 + 1 + 1, 0, none⟩ = some (.pointer (some ⟨B + 3, 0, none⟩)) := k4
  replace k3 : w2.cell? ⟨B + 3, 24, none⟩ = some .nilFunc := k3
  have hB2 : B + 7 ≤ w2.heap.size := by omega
  by_cases h0 : 0 < N
  · go_upto_region 5 with fail
    have PLD := Lib.hid (PL.out.ext (Below.drew (Below.refl _ _)))
    have HROW : Hid (EnRow Enc.op 47 NoB (B + 5) w2 (.slice (some ⟨B + 5, 0, none⟩) 1 1) [⟨4, 0, eq, ByteArray.empty, []⟩]) := Lib.hid (EnRow.one (c := [.int .i64 4, .int .i64 0, .int .i64 eq, .string ⟨#[]⟩, .slice none 0 0]) P5.out ⟨_, rfl, RB.nil _ _⟩ (Nat.le_refl _))
    refine wp_region_sink (n := 6) (fun W => W.cell? ⟨B + 1 + 1 + 1 + 1 + 1 + 1, 0, none⟩ = some (.slice (some ⟨B + 5, 0, none⟩) 1 1)) (by kernel_rfl) (by kernel_rfl) (by kernel_rfl) (by kernel_rfl) rfl k0 (fun hHeld => ?_)
    refine wpAnyH_take (i := 0) (oi := { dst := some 23, op := Op.load 40 (Operand.tmp 8), type := 40, pos := "plan.go:84", after := #[], guard := none }) (v := ?v0) rfl (by kernel_rfl) (by kernel_rfl) (by kernel_rfl) (fun _ _ _ h => h) (Or.inl ⟨by rfl, ?hy0⟩) hHeld ?r0
    case hy0 => (intro W hSW; (try dsimp only at hSW); go_simp; try (with_reducible rfl))
    simp only [Act.put, List.setIfInBounds_toArray, List.set_cons_zero, List.set_cons_succ]
    refine wpAnyH_take (i := 1) (oi := { dst := some 24, op := Op.move (Operand.tmp 9), type := 3, pos := "plan.go:84", after := #[], guard := none }) (v := ?v1) rfl (by kernel_rfl) (by kernel_rfl) (by kernel_rfl) (fun _ _ _ h => h) (Or.inl ⟨by rfl, ?hy1⟩) hHeld ?r1
    case hy1 => (intro W hSW; (try dsimp only at hSW); go_simp; try (with_reducible rfl))
    simp only [Act.put, List.setIfInBounds_toArray, List.set_cons_zero, List.set_cons_succ]
    refine wpAnyH_ready (rs := [2]) (by kernel_rfl) (by simp) (AllReadyH.cons (o := { dst := some 25, op := Op.call { callee := Callee.value (Operand.func 23), args := #[Operand.tmp 24], argTypes := #[3] }, type := 9, pos := "plan.go:84", after := #[{ on := 1, ground := Ground.data }], guard := none }) rfl (fun K hK => ?_) AllReadyH.nil)
    go_simp
    go_wp2_with (go_at_call 23; refine (pmark_any N _ PLD.out).mono ?_; rintro e w3 ⟨rfl, hb3⟩)
    have hb23 : Below w2.heap.size w2 w3 := (Below.drew (Below.refl _ _)).trans hb3
    have HB23 := Lib.hid hb23
    have hs3 := hb23.size
    have m0 : w3.cell? ⟨B + 1 + 1 + 1 + 1 + 1 + 1, 0, none⟩ = some (.slice (some ⟨B + 5, 0, none⟩) 1 1) := cellExt hb23 k0
    clear hb3 hb23
    refine hK.out _ _ m0 (fun hHeld => ?_)
    clear hK K
    refine wpAnyH_take (i := 3) (oi := { dst := some 26, op := Op.build 47 #[(0, Operand.const (Value.int IntKind.i64 11)), (3, Operand.tmp 25)], type := 47, pos := "plan.go:84", after := #[{ on := 2, ground := Ground.data }], guard := none }) (v := ?v3) rfl (by kernel_rfl) (by kernel_rfl) (by kernel_rfl) (fun _ _ _ h => h) (Or.inl ⟨by rfl, ?hy3⟩) hHeld ?r3
    case hy3 => (intro W hSW; (try dsimp only at hSW); go_simp; try (with_reducible rfl))
    simp only [Act.put, List.setIfInBounds_toArray, List.set_cons_zero, List.set_cons_succ]
    refine wpAnyH_ready (rs := [4]) (by kernel_rfl) (by simp) (AllReadyH.cons (o := { dst := some 27, op := Op.buildSlice 40 1 #[(0, Operand.tmp 26)], type := 40, pos := "plan.go:84", after := #[{ on := 3, ground := Ground.data }], guard := none }) rfl (fun K hK => ?_) AllReadyH.nil)
    go_simp
    have hba : Below w3.heap.size w3 (w3.alloc (.cells #[.int .i64 11, .int .i64 0, .int .i64 0, .string (markS N), .slice none 0 0] 47)) := (Below.refl _ w3).alloc (Nat.le_refl _) _
    have n0 := cellExt hba m0
    have HBA : Hid (Below w2.heap.size w2 (w3.alloc (.cells #[.int .i64 11, .int .i64 0, .int .i64 0, .string (markS N), .slice none 0 0] 47))) := Lib.hid (HB23.out.trans (hba.mono hs3))
    clear hba
    refine hK.out _ _ n0 (fun hHeld => ?_)
    clear hK K
    refine wpAnyH_ready (rs := [5]) (by kernel_rfl) (by simp) (AllReadyH.cons (o := { dst := some 28, op := Op.call { callee := Callee.builtin Builtin.append, args := #[Operand.tmp 23, Operand.tmp 27], argTypes := #[40, 40] }, type := 40, pos := "plan.go:84", after := #[{ on := 0, ground := Ground.data }, { on := 4, ground := Ground.data }, { on := 2, ground := Ground.chain }], guard := none }) rfl (fun K hK => ?_) AllReadyH.nil)
    refine step_push _ (by rfl) _ _ 40 (by rfl) Enc.op NoB (B + 5) 47 i0 _ 64 Tryz.underlying40 hi hz0 hz1 hz2 (by rfl) (by decide) (by decide) _ [⟨4, 0, eq, ByteArray.empty, []⟩] (by rfl) (EnRow.ext HROW.out HBA.out) w3.heap.size [.int .i64 11, .int .i64 0, .int .i64 0, .string (markS N), .slice none 0 0] 47 ⟨11, 0, 0, markS N, []⟩ (by rfl) (heap_alloc_new w3 _) ⟨_, rfl, RB.nil _ _⟩ (by simp) (by simp; omega) (fun b hb => hb.elim) ?_
    intro g cap w4 hrow hgrow hbel hat
    have hfar : ∀ b x, b ≠ B + 5 → w2.heap[b]? = some x → w4.heap[b]? = some x := fun b x hne hx => by
      have hlt := (Array.getElem?_eq_some_iff.1 hx).1
      have h1 := blk19 HBA.out hx
      exact (hgrow.block b (Array.getElem?_eq_some_iff.1 h1).1 (fun e => hne (Option.some.inj e))).trans h1
    have Q0 := Lib.hid (hfar _ _ (by omega) P0.out)
    have Q2 := Lib.hid (hfar _ _ (by omega) P2.out)
    have Q3 := Lib.hid (hfar _ _ (by omega) P3.out)
    have Q4 := Lib.hid (hfar _ _ (by omega) P4.out)
    have Q6 := Lib.hid (hfar _ _ (by omega) P6.out)
    obtain ⟨k0', k1'⟩ := blk_cell (i := 0) Q6.out
    replace k0' : w4.cell? ⟨B + 1 + 1 + 1 + 1 + 1 + 1, 0, none⟩ = some (.slice (some ⟨B + 5, 0, none⟩) 1 1) := k0'
    replace k1' : w4.frozen? ⟨B + 1 + 1 + 1 + 1 + 1 + 1, 0, none⟩ = false := k1'
    have HR4 : Hid (EnRow Enc.op 47 NoB (B + 5) w4 (.slice (some ⟨g, 0, none⟩) 2 cap) (ahS ⟨u, c, o, sz, m, ss, la, sq⟩ eq)) := Lib.hid (by
      unfold ahS
      rw [HNN.out, if_pos h0]
      exact hrow)
    have HB4 : Hid (Below B w2 w4) := Lib.hid ((HBA.out.mono (by omega)).trans (hbel.mono (by omega)))
    clear hrow hgrow hbel hat hfar n0 m0 k0 k1 k3 k4 f3 P0 P2 P3 P4 P6
    refine hK.out _ _ k0' (fun hHeld => ?_)
    clear hK K
    refine wpAnyH_done (by kernel_rfl) (sink_end (o := { dst := none, op := Op.store 40 (Operand.tmp 8) (Operand.tmp 28), type := 0, pos := "plan.go:84", after := #[{ on := 5, ground := Ground.data }, { on := 5, ground := Ground.chain }, { on := 0, ground := Ground.phase }, { on := 1, ground := Ground.phase }, { on := 2, ground := Ground.phase }, { on := 3, ground := Ground.phase }, { on := 4, ground := Ground.phase }, { on := 5, ground := Ground.phase }], guard := none }) rfl fun K hK => ?_) _
    go_simp
    refine hK _ _ ?_
    clear hK K hHeld
    obtain ⟨w5, hw5⟩ : ∃ w5, w5 = w4.setCell ⟨B + 1 + 1 + 1 + 1 + 1 + 1, 0, none⟩ (.slice (some ⟨g, 0, none⟩) 2 cap) := ⟨_, rfl⟩
    have ne5 : ∀ b, b ≠ B + 6 → w5.heap[b]? = w4.heap[b]? := fun b hb => by rw [hw5]; exact Below.heap_setCell _ _ _ _ hb
    have R0 := Lib.hid ((ne5 _ (by omega)).trans Q0.out)
    have R2 := Lib.hid ((ne5 _ (by omega)).trans Q2.out)
    have R3 := Lib.hid ((ne5 _ (by omega)).trans Q3.out)
    have R4 := Lib.hid ((ne5 _ (by omega)).trans Q4.out)
    have R6 : Hid (w5.heap[B + 6]? = some (.cells #[.slice (some ⟨g, 0, none⟩) 2 cap] 40 (0, 0))) := Lib.hid (by rw [hw5]; exact setI_blk Q6.out)
    have HB5 : Hid (Below B w2 w5) := Lib.hid (by rw [hw5]; exact HB4.out.setCell (show B ≤ B + 6 by omega) _)
    have HR5 : Hid (EnRow Enc.op 47 NoB (B + 5) w5 (.slice (some ⟨g, 0, none⟩) 2 cap) (ahS ⟨u, c, o, sz, m, ss, la, sq⟩ eq)) := Lib.hid (by
      rw [hw5]
      exact HR4.out.set (fun e => EnRow.ne_blk HR4.out Q6.out e) (fun h => h))
    rw [← hw5]
    clear hw5 ne5 Q0 Q2 Q3 Q4 Q6 HB4 HR4 k0' k1'
    obtain ⟨k4, -⟩ := blk_cell (i := 0) R4.out
    obtain ⟨k3, f3⟩ := blk_cell (i := 24) R3.out
    replace k4 : w5.cell? ⟨B + 1 + 1 + 1 + 1, 0, none⟩ = some (.pointer (some ⟨B + 3, 0, none⟩)) := k4
    replace k3 : w5.cell? ⟨B + 3, 24, none⟩ = some .nilFunc := k3
    have hst : ∀ v, v.oneCell' = true → (store ⟨B + 3, 24, none⟩ v).run Tryz.prog w5 = .ok () (w5.setCell ⟨B + 3, 24, none⟩ v) := fun v hv => by
      rw [run_store Tryz.prog w5 ⟨B + 3, 24, none⟩ v _ hv]
      simp [k3, f3]
    go_wp2
    rw [hst _ rfl]
    go_wp2
    go_ret
    rw [HBB.out]
    obtain ⟨wm, wss, ev', h1, h2⟩ := PV.out
    simp only [hdV, Value.agg.injEq] at ev'
    simp at ev'
    obtain ⟨rfl, rfl⟩ := ev'
    have hsm : Same A w2 w5 := ⟨HB5.out.size, fun b hb _ => HB5.out.block b (hA b hb)⟩
    exact ⟨rfl, fun K => wk_made hA R0.out R2.out R3.out R4.out R6.out HR5.out (SlE.mono h1 hsm) (SlE.mono h2 hsm) (PE.out.mono hsm), (PB.out.trans HB5.out).setCell (by show B ≤ B + 3; omega) _⟩
  · go_upto_region 6 with fail
    have hst : ∀ v, v.oneCell' = true → (store ⟨B + 3, 24, none⟩ v).run Tryz.prog w2 = .ok () (w2.setCell ⟨B + 3, 24, none⟩ v) := fun v hv => by
      rw [run_store Tryz.prog w2 ⟨B + 3, 24, none⟩ v _ hv]
      simp [k3, f3]
    go_wp2
    rw [hst _ rfl]
    go_wp2
    go_ret
    rw [HBB.out]
    obtain ⟨wm, wss, ev', h1, h2⟩ := PV.out
    simp only [hdV, Value.agg.injEq] at ev'
    simp at ev'
    obtain ⟨rfl, rfl⟩ := ev'
    refine ⟨rfl, fun K => wk_made hA P0.out P2.out P3.out P4.out P6.out ?_ h1 h2 PE.out, PB.out.setCell (by show B ≤ B + 3; omega) _⟩
    unfold ahS
    rw [HNN.out, if_neg (by omega)]
    exact EnRow.one (c := [.int .i64 4, .int .i64 0, .int .i64 eq, .string ⟨#[]⟩, .slice none 0 0]) P5.out ⟨_, rfl, RB.nil _ _⟩ (Nat.le_refl _)
end Go.Proofs.YtlekdfajcpmolaaGreatDoor
