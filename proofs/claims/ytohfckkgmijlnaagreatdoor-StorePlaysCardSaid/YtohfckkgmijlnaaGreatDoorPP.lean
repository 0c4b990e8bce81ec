/- errors.Is at an api.Errno and at txn's enough, errors.As at an api.Errno: Go's own text is walked. What is read of an object stands where a box of two slices and a number is written. No function is named. -/
import Derived.Test.YtohfckkgmijlnaaGreatDoorPI
import Derived.Test.YtohfckkgmijlnaaGreatDoorPO
namespace Go.Proofs.YtohfckkgmijlnaaGreatDoor
open Go.RowKit Go.Extern.Stop Go.Stop Go.Extern

def enoughV : Value := .iface 87 (.agg #[])
def errnoV (e : Int) : Value := .iface 34 (.int .i64 e)
theorem typeOfN (v : Value) (w : World) : (ReflectliteType.typeOf #[.iface 87 v]).run Tryz.prog w = .ok (.iface 126 (.agg #[.pointer (some ⟨4, 87, none⟩)])) w := by kernel_rfl
theorem compN (w : World) : ((ReflectliteType.method fun t => do Rtype.noPackHeld "Comparable" t; (fun a => Value.bool a.comparable) <$> typeInfo t) #[.agg #[.pointer (some ⟨4, 87, none⟩)]]).run Tryz.prog w = .ok (.bool true) w := by kernel_rfl
theorem methodComparable (h : Value) (w : World) : (Go.method 332 126 (.agg #[h]) "Comparable").run Tryz.prog w = .ok (159, .agg #[h]) w := by kernel_rfl
theorem noIsE (v : Value) (xT : TypeId) (w : World) : (Instr.typeAssert (.iface 34 v) xT 128 true).run Tryz.prog w = .ok (.tuple #[.nilIface, .bool false]) w := run_typeAssert_lacksB Tryz.underlying128 (by kernel_rfl) (by kernel_rfl) v xT w
theorem noUnwrapE (v : Value) (xT : TypeId) (w : World) : (Instr.typeAssert (.iface 34 v) xT 131 true).run Tryz.prog w = .ok (.tuple #[.nilIface, .bool false]) w := run_typeAssert_lacksB Tryz.underlying131 (by kernel_rfl) (by kernel_rfl) v xT w
theorem noUnwrapsE (v : Value) (xT : TypeId) (w : World) : (Instr.typeAssert (.iface 34 v) xT 133 true).run Tryz.prog w = .ok (.tuple #[.nilIface, .bool false]) w := run_typeAssert_lacksB Tryz.underlying133 (by kernel_rfl) (by kernel_rfl) v xT w
theorem eqN (w : World) : (binOp .eql 83 (.iface 87 (.agg #[])) (.iface 87 (.agg #[]))).run Tryz.prog w = .ok (.bool true) w := by kernel_rfl
set_option maxRecDepth 100000 in
set_option maxHeartbeats 4000000 in
theorem is_errno (x : Int) (w : World) :
    Calls Tryz.prog 37 #[errnoV x, enoughV] w fun r w' => r = .returned (.bool false) ∧ w' = w := by
  have hO := @run_callFunc_extern Tryz.prog 54 _ ReflectliteType.typeOf Tryz.func54 (by kernel_rfl) (by kernel_rfl) (by kernel_rfl) (by kernel_rfl)
  have hC := @run_callFunc_extern Tryz.prog 159 _ (ReflectliteType.method fun t => do Rtype.noPackHeld "Comparable" t; pure (.bool (← typeInfo t).comparable)) Tryz.func159 (by kernel_rfl) (by kernel_rfl) (by kernel_rfl) (by kernel_rfl)
  have tT := typeOfN
  have cT := compN
  have mR := methodComparable
  have nI := noIsE
  have nU := noUnwrapE
  have nV := noUnwrapsE
  have hty := run_eql_iface_types (P := Tryz.prog) 34 87 (.int .i64 x) (.agg #[]) Tryz.underlying83 (by decide) w
  unfold errnoV enoughV
  go_enter Tryz.func37, Tryz.ntmps37
  go_wp2
  refine wp_loop_rounds 1 ?_
  rw [rounds_succ]
  go_wp2
  go_ret
  exact ⟨rfl, rfl⟩
set_option maxRecDepth 100000 in
set_option maxHeartbeats 4000000 in
theorem is_enough (w : World) :
    Calls Tryz.prog 37 #[enoughV, enoughV] w fun r w' => r = .returned (.bool true) ∧ w' = w := by
  have hO := @run_callFunc_extern Tryz.prog 54 _ ReflectliteType.typeOf Tryz.func54 (by kernel_rfl) (by kernel_rfl) (by kernel_rfl) (by kernel_rfl)
  have hC := @run_callFunc_extern Tryz.prog 159 _ (ReflectliteType.method fun t => do Rtype.noPackHeld "Comparable" t; pure (.bool (← typeInfo t).comparable)) Tryz.func159 (by kernel_rfl) (by kernel_rfl) (by kernel_rfl) (by kernel_rfl)
  have tT := typeOfN
  have cT := compN
  have mR := methodComparable
  have hq := eqN
  unfold enoughV
  go_enter Tryz.func37, Tryz.ntmps37
  go_wp2
  refine wp_loop_rounds 1 ?_
  rw [rounds_succ]
  go_wp2
  go_ret
  exact ⟨rfl, rfl⟩
set_option maxRecDepth 100000 in
set_option maxHeartbeats 4000000 in
theorem ras_errno (e : Int) (t a : Addr) (old : Value) (w : World) (ha : w.cell? a = some (.pointer (some t))) (ht0 : w.cell? t = some old) (hf0 : w.frozen? t = false) :
    Calls Tryz.prog 59 #[errnoV e, .iface 89 (.pointer (some t)), .agg #[.pointer (some ⟨4, 89, none⟩), .pointer (some a), .int .u64 150], .iface 126 (.agg #[.pointer (some ⟨4, 34, none⟩)])] w
      fun r w' => r = .returned (.bool true) ∧ ∃ w2, Below w.heap.size w w2 ∧ w' = w2.setCell t (.int .i64 e) := by
  have hV := @run_callFunc_extern Tryz.prog 56 _ (fun args => ReflectliteValue.unpack (args.getD 0 (.tuple #[]))) Tryz.func56 (by kernel_rfl) (by kernel_rfl) (by kernel_rfl) (by kernel_rfl)
  have hO := @run_callFunc_extern Tryz.prog 54 _ ReflectliteType.typeOf Tryz.func54 (by kernel_rfl) (by kernel_rfl) (by kernel_rfl) (by kernel_rfl)
  have hA := @run_callFunc_extern Tryz.prog 158 _ (ReflectliteType.relation "AssignableTo" ReflectliteType.assignableTo) Tryz.func158 (by kernel_rfl) (by kernel_rfl) (by kernel_rfl) (by kernel_rfl)
  have hEl := @run_callFunc_extern Tryz.prog 68 _ (ReflectliteValue.method (ReflectliteValue.valueError "reflectlite.Value.Elem" 0) ReflectliteValue.elem) Tryz.func68 (by kernel_rfl) (by kernel_rfl) (by kernel_rfl) (by kernel_rfl)
  have hS := @run_callFunc_extern Tryz.prog 69 _ ReflectliteValue.set Tryz.func69 (by kernel_rfl) (by kernel_rfl) (by kernel_rfl) (by kernel_rfl)
  have tO := typeOfE
  have mA := methodAssignableTo
  have aE := assignE
  have vE := valueOfE
  have hal : a.block < w.heap.size := World.block_lt_of_cell? w _ ha
  have htl : t.block < w.heap.size := World.block_lt_of_cell? w _ ht0
  have el := fun o1 => elemV a t (w.alloc o1) (cellExt (by ((repeat' (first | exact Below.refl _ _ | refine below_drewN ?_ _ | refine Below.drew ?_ | refine Below.alloc ?_ ?_ _ | refine Below.trans ?_ (Below.mono (by assumption) ?_))); all_goals (first | exact Nat.le_refl _ | exact Below.size (by assumption) | omega | (simp; done) | (simp; omega)))) ha)
  have hfz : ∀ o1 o2, ((w.alloc o1).alloc o2).frozen? t = false := fun o1 o2 => by
    rw [World.frozen?_alloc_old _ _ t (by simp; omega), World.frozen?_alloc_old _ _ t (by omega)]
    exact hf0
  have st := fun o1 => setE t ⟨w.heap.size + 1, 0, none⟩ e old ((w.alloc o1).alloc (.cells #[.int .i64 e] 34)) (by rw [World.cell?_alloc_at _ _ _ _ (by simp)]; rfl) (cellExt (by ((repeat' (first | exact Below.refl _ _ | refine below_drewN ?_ _ | refine Below.drew ?_ | refine Below.alloc ?_ ?_ _ | refine Below.trans ?_ (Below.mono (by assumption) ?_))); all_goals (first | exact Nat.le_refl _ | exact Below.size (by assumption) | omega | (simp; done) | (simp; omega)))) ht0) (hfz _ _)
  unfold errnoV
  go_enter Tryz.func59, Tryz.ntmps59
  go_wp2
  refine wp_loop_rounds 1 ?_
  rw [rounds_succ]
  go_wp2
  go_ret
  exact ⟨rfl, _, by ((repeat' (first | exact Below.refl _ _ | refine below_drewN ?_ _ | refine Below.drew ?_ | refine Below.alloc ?_ ?_ _ | refine Below.trans ?_ (Below.mono (by assumption) ?_))); all_goals (first | exact Nat.le_refl _ | exact Below.size (by assumption) | omega | (simp; done) | (simp; omega))), rfl⟩
set_option maxRecDepth 100000 in
set_option maxHeartbeats 4000000 in
theorem as_errno (e : Int) (t : Addr) (old : Value) (w : World) (hg : ErrT w) (ht0 : w.cell? t = some old) (hf0 : w.frozen? t = false) :
    Calls Tryz.prog 38 #[errnoV e, .iface 89 (.pointer (some t))] w fun r w' => r = .returned (.bool true) ∧ ∃ w2, Below w.heap.size w w2 ∧ w' = w2.setCell t (.int .i64 e) := by
  have hg : w.cell? ⟨0, 0, none⟩ = some (.iface 126 (.agg #[.pointer (some ⟨4, 83, none⟩)])) := hg
  have hV := @run_callFunc_extern Tryz.prog 56 _ (fun args => ReflectliteValue.unpack (args.getD 0 (.tuple #[]))) Tryz.func56 (by kernel_rfl) (by kernel_rfl) (by kernel_rfl) (by kernel_rfl)
  have hT := @run_callFunc_extern Tryz.prog 57 _ (ReflectliteValue.methodAny (ReflectliteValue.valueError "reflectlite.Value.Type" 0) (fun t _ _ _ => ReflectliteType.toType t)) Tryz.func57 (by kernel_rfl) (by kernel_rfl) (by kernel_rfl) (by kernel_rfl)
  have hN := @run_callFunc_extern Tryz.prog 58 _ (ReflectliteValue.method (ReflectliteValue.valueError "reflectlite.Value.IsNil" 0) ReflectliteValue.isNil) Tryz.func58 (by kernel_rfl) (by kernel_rfl) (by kernel_rfl) (by kernel_rfl)
  have hK := @run_callFunc_extern Tryz.prog 149 _ (ReflectliteType.abiMethod fun t => do pure (.int .u8 (← Rtype.kind t))) Tryz.func149 (by kernel_rfl) (by kernel_rfl) (by kernel_rfl) (by kernel_rfl)
  have hE := @run_callFunc_extern Tryz.prog 160 _ (ReflectliteType.method ReflectliteType.elem) Tryz.func160 (by kernel_rfl) (by kernel_rfl) (by kernel_rfl) (by kernel_rfl)
  have hI := @run_callFunc_extern Tryz.prog 161 _ (ReflectliteType.relation "Implements" ReflectliteType.implements_) Tryz.func161 (by kernel_rfl) (by kernel_rfl) (by kernel_rfl) (by kernel_rfl)
  have hO := @run_callFunc_extern Tryz.prog 54 _ ReflectliteType.typeOf Tryz.func54 (by kernel_rfl) (by kernel_rfl) (by kernel_rfl) (by kernel_rfl)
  have hA := @run_callFunc_extern Tryz.prog 158 _ (ReflectliteType.relation "AssignableTo" ReflectliteType.assignableTo) Tryz.func158 (by kernel_rfl) (by kernel_rfl) (by kernel_rfl) (by kernel_rfl)
  have hEl := @run_callFunc_extern Tryz.prog 68 _ (ReflectliteValue.method (ReflectliteValue.valueError "reflectlite.Value.Elem" 0) ReflectliteValue.elem) Tryz.func68 (by kernel_rfl) (by kernel_rfl) (by kernel_rfl) (by kernel_rfl)
  have hS := @run_callFunc_extern Tryz.prog 69 _ ReflectliteValue.set Tryz.func69 (by kernel_rfl) (by kernel_rfl) (by kernel_rfl) (by kernel_rfl)
  have tO := typeOfE
  have tR := typeOfR
  have mA := methodAssignableTo
  have aE := assignE
  have aR := assignR
  have vE := valueOfE
  have vP := valueOfP
  have f7 := typeP
  have mK := methodKind
  have mE := methodElem
  have mI := methodImplements
  have mU := methodUnwrap
  have kP := kindP
  have kE := kindE
  have eP := elemP
  have iE := implementsE
  have nA := noAsR
  have hU := hasUnwrapR
  have hlt : 0 < w.heap.size := World.block_lt_of_cell? w _ hg
  have htl : t.block < w.heap.size := World.block_lt_of_cell? w _ ht0
  have n8 := fun W => isNilP ⟨w.heap.size, 0, none⟩ t W
  have el := fun W => elemV ⟨w.heap.size, 0, none⟩ t W
  unfold errnoV
  go_enter Tryz.func38, Tryz.ntmps38
  go_wp2_with fail
  refine (ras_errno e t ⟨w.heap.size, 0, none⟩ old _ (by simp) (cellExt (by ((repeat' (first | exact Below.refl _ _ | refine below_drewN ?_ _ | refine Below.drew ?_ | refine Below.alloc ?_ ?_ _ | refine Below.trans ?_ (Below.mono (by assumption) ?_))); all_goals (first | exact Nat.le_refl _ | exact Below.size (by assumption) | omega | (simp; done) | (simp; omega)))) ht0) ?hf).mono ?_
  case hf =>
    rw [World.frozen?_alloc_old _ _ t (by simp; omega), World.frozen?_alloc_old _ _ t (by omega)]
    exact hf0
  rintro r w1 ⟨rfl, w2, hb2, rfl⟩
  have HB2 : Hid (Below w.heap.size w w2) := Lib.hid (Below.trans (by ((repeat' (first | exact Below.refl _ _ | refine below_drewN ?_ _ | refine Below.drew ?_ | refine Below.alloc ?_ ?_ _ | refine Below.trans ?_ (Below.mono (by assumption) ?_))); all_goals (first | exact Nat.le_refl _ | exact Below.size (by assumption) | omega | (simp; done) | (simp; omega)))) (hb2.mono (by simp; omega)))
  clear hb2
  go_wp2
  go_ret
  exact ⟨rfl, w2, HB2.out, rfl⟩
end Go.Proofs.YtohfckkgmijlnaaGreatDoor
namespace Go.Proofs.YtohfckkgmijlnaaGreatDoor
open Go.RowKit Go.WideShapes

/-- a box of two slices and a number -/
def BoxO (cs : Array Value) : Prop := ∀ u ∈ cs, (∃ a n c, u = .slice a n c) ∨ (∃ s, u = .int .i64 s) ∨ ∃ b, u = .bool b
theorem boxO3 (a u : Option Addr) (n c m q : Nat) (s : Int) : BoxO #[.slice a n c, .slice u m q, .int .i64 s] := by
  intro x hx
  simp at hx
  rcases hx with rfl | rfl | rfl
  · exact .inl ⟨_, _, _, rfl⟩
  · exact .inl ⟨_, _, _, rfl⟩
  · exact .inr (.inl ⟨_, rfl⟩)
theorem boxO4 (a u : Option Addr) (n c m q : Nat) (s : Int) (b : Bool) : BoxO #[.slice a n c, .slice u m q, .int .i64 s, .bool b] := by
  intro x hx
  simp at hx
  rcases hx with rfl | rfl | rfl | rfl
  · exact .inl ⟨_, _, _, rfl⟩
  · exact .inl ⟨_, _, _, rfl⟩
  · exact .inr (.inl ⟨_, rfl⟩)
  · exact .inr (.inr ⟨_, rfl⟩)
theorem boxB (b : Bool) : BoxO #[.bool b] := by
  intro x hx
  simp at hx
  exact .inr (.inr ⟨_, hx⟩)
theorem boxI (s : Int) : BoxO #[.int .i64 s] := by
  intro x hx
  simp at hx
  exact .inr (.inl ⟨_, hx⟩)
theorem SlA.past {A : Nat → Prop} {w w' : World} {size n p : Nat} {v : Value} {xs : List Value} {cs : Array Value} {t : TypeId} (h : SlA A w size v n xs)
    (hp : w.heap[p]? = some (.cells cs t (0, 0))) (hx : ∀ u, xs[0]? = some u → u ∉ cs) (hs : w.heap.size ≤ w'.heap.size) (hb : ∀ b, b ≠ p → b < w.heap.size → w'.heap[b]? = w.heap[b]?) : SlA A w' size v n xs := by
  obtain ⟨h1, h2⟩ := h
  refine ⟨h1, h2.imp id ?_⟩
  rintro ⟨b, off, cap, rfl, hl, hA, hc, hcell⟩
  refine ⟨b, off, cap, rfl, by omega, hA, hc, fun j hj => ?_⟩
  have hne : b ≠ p := by
    rintro rfl
    have h0 := hcell 0 (by omega)
    have hx0 : 0 < xs.length := by omega
    have e0 : xs[0]? = some xs[0] := List.getElem?_eq_getElem hx0
    rw [(blk_cell hp).1, e0] at h0
    exact hx _ e0 (Array.mem_of_getElem? h0)
  rw [← hcell j hj]
  exact World.cell?_of_block (hb b hne hl)
theorem RB.past {A : Nat → Prop} {w w' : World} {p : Nat} {v : Value} {l : List UInt8} {cs : Array Value} {t : TypeId} (h : RB A w v l)
    (hp : w.heap[p]? = some (.cells cs t (0, 0))) (hB : BoxO cs) (hs : w.heap.size ≤ w'.heap.size) (hb : ∀ b, b ≠ p → b < w.heap.size → w'.heap[b]? = w.heap[b]?) : RB A w' v l := by
  refine SlA.past h hp (fun u hu hm => ?_) hs hb
  have hmem := List.mem_of_getElem? hu
  obtain ⟨x, -, rfl⟩ := List.mem_map.1 hmem
  rcases hB _ hm with ⟨_, _, _, e⟩ | ⟨_, e⟩ | ⟨_, e⟩ <;> simp [bv] at e
theorem Keys.past {A : Nat → Prop} {w w' : World} {p : Nat} {v : Value} {l : List KyD} {cs : Array Value} {t : TypeId} (h : SlE Enc.key A w v l)
    (hp : w.heap[p]? = some (.cells cs t (0, 0))) (hB : BoxO cs) (hs : w.heap.size ≤ w'.heap.size) (hb : ∀ b, b ≠ p → b < w.heap.size → w'.heap[b]? = w.heap[b]?) : SlE Enc.key A w' v l := by
  obtain ⟨ks, h1, h2, h3⟩ := h.flat
  refine SlE.of_flat h1 (fun i x c hi hc => ?_) (h3.past hp (fun u hu hm => ?_) hs hb)
  · obtain ⟨v, e, hv⟩ := h2 i x c hi hc
    exact ⟨v, e, hv.past hp hB hs hb⟩
  · cases ks with
    | nil => simp at hu
    | cons c ks =>
      have hl : 0 < l.length := by rw [← h1]; simp
      obtain ⟨v, rfl, -⟩ := h2 0 l[0] c (List.getElem?_eq_getElem hl) rfl
      simp at hu
      subst hu
      rcases hB _ hm with ⟨_, _, _, e⟩ | ⟨_, e⟩ | ⟨_, e⟩ <;> cases e
theorem ObV.past {A : Nat → Prop} {w w' : World} {p : Nat} {v : Value} {o : ObD} {cs : Array Value} {t : TypeId} (h : ObV A w v o)
    (hp : w.heap[p]? = some (.cells cs t (0, 0))) (hB : BoxO cs) (hs : w.heap.size ≤ w'.heap.size) (hb : ∀ b, b ≠ p → b < w.heap.size → w'.heap[b]? = w.heap[b]?) : ObV A w' v o := by
  obtain ⟨dv, kv, rfl, hd, hk⟩ := h
  exact ⟨dv, kv, rfl, hd.past hp hB hs hb, Keys.past hk hp hB hs hb⟩
theorem owns_past {w w' : World} {base size n p : Nat} {e t : TypeId} {v : Value} {xs : List Value} {cs : Array Value} {fr : Nat × Nat} (h : w.ownsRow base e size v n xs)
    (hp : w.heap[p]? = some (.cells cs t fr)) (ht : t ≠ e) (hb : ∀ b, b ≠ p → b < w.heap.size → w'.heap[b]? = w.heap[b]?) : w'.ownsRow base e size v n xs := by
  refine owns_keep h fun g hg => hb g ?_ (h.lt g hg).2
  rintro rfl
  rcases h.2 with ⟨rfl, _⟩ | ⟨g', cap, cur, rfl, _, h2, _⟩
  · simp [Value.ownBlock] at hg
  · simp only [Value.ownBlock, Option.some.injEq] at hg
    subst hg
    rw [h2] at hp
    simp only [Option.some.injEq, Obj.cells.injEq] at hp
    exact ht hp.2.1.symm
theorem Own8.past {base p : Nat} {w w' : World} {dv kv : Value} {o : ObD} {cs : Array Value} {t : TypeId} (h : Own8 base w dv kv o)
    (hp : w.heap[p]? = some (.cells cs t (0, 0))) (ht1 : t ≠ 5) (ht2 : t ≠ 62) (hB : BoxO cs) (hs : w.heap.size ≤ w'.heap.size) (hb : ∀ b, b ≠ p → b < w.heap.size → w'.heap[b]? = w.heap[b]?) : Own8 base w' dv kv o := by
  obtain ⟨hd, ks, hk, hc⟩ := h
  refine ⟨owns_past hd hp ht1 hb, ks, owns_past hk hp ht2 hb, hc.len, fun i x c hi hci => ?_⟩
  obtain ⟨v, e, hv⟩ := hc.at_ i x c hi hci
  refine ⟨v, e, (hv.past hp hB hs hb).weak fun b _ h => ⟨h.1, h.2.1, h.2.2.1, ?_⟩⟩
  obtain ⟨c1, hc1⟩ := h.2.2.2
  refine U8.of_eq ⟨c1, hc1⟩ (hb b ?_ (Array.getElem?_eq_some_iff.1 hc1).1)
  rintro rfl
  rw [hc1] at hp
  simp only [Option.some.injEq, Obj.cells.injEq] at hp
  exact ht1 hp.2.1.symm
theorem set4_blk {w : World} {p : Nat} {t : TypeId} {a b c d x y z u : Value} (h : w.heap[p]? = some (.cells #[a, b, c, d] t (0, 0))) :
    ((((w.setCell ⟨p, 0, none⟩ x).setCell ⟨p, 1, none⟩ y).setCell ⟨p, 2, none⟩ z).setCell ⟨p, 3, none⟩ u).heap[p]? = some (.cells #[x, y, z, u] t (0, 0)) := by
  simp [World.setCell, Array.getElem?_modify, h]
theorem set4_past {w : World} {p : Nat} (x y z u : Value) : w.heap.size ≤ ((((w.setCell ⟨p, 0, none⟩ x).setCell ⟨p, 1, none⟩ y).setCell ⟨p, 2, none⟩ z).setCell ⟨p, 3, none⟩ u).heap.size ∧
    ∀ b, b ≠ p → b < w.heap.size → ((((w.setCell ⟨p, 0, none⟩ x).setCell ⟨p, 1, none⟩ y).setCell ⟨p, 2, none⟩ z).setCell ⟨p, 3, none⟩ u).heap[b]? = w.heap[b]? :=
  ⟨by simp [World.setCell], fun _ hb _ => (Below.heap_setCell _ _ _ _ hb).trans (set3_ne _ _ _ _ _ hb)⟩
theorem four_cells {w : World} {p : Nat} {a b c d : Value} {t : TypeId} (h : w.heap[p]? = some (.cells #[a, b, c, d] t (0, 0))) :
    (w.cell? ⟨p, 0, none⟩ = some a ∧ w.frozen? ⟨p, 0, none⟩ = false) ∧ (w.cell? ⟨p, 1, none⟩ = some b ∧ w.frozen? ⟨p, 1, none⟩ = false) ∧ (w.cell? ⟨p, 2, none⟩ = some c ∧ w.frozen? ⟨p, 2, none⟩ = false) ∧ (w.cell? ⟨p, 3, none⟩ = some d ∧ w.frozen? ⟨p, 3, none⟩ = false) := ⟨blk_cell h, blk_cell h, blk_cell h, blk_cell h⟩
theorem set3_past {w : World} {p : Nat} (x y z : Value) : w.heap.size ≤ (((w.setCell ⟨p, 0, none⟩ x).setCell ⟨p, 1, none⟩ y).setCell ⟨p, 2, none⟩ z).heap.size ∧
    ∀ b, b ≠ p → b < w.heap.size → (((w.setCell ⟨p, 0, none⟩ x).setCell ⟨p, 1, none⟩ y).setCell ⟨p, 2, none⟩ z).heap[b]? = w.heap[b]? :=
  ⟨by simp [World.setCell], fun _ hb _ => set3_ne _ _ _ _ _ hb⟩
end Go.Proofs.YtohfckkgmijlnaaGreatDoor
