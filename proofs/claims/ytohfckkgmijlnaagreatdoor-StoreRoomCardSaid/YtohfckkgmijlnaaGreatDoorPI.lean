/- errors.As at a refusal of object: the walk. The walk of object.Do. -/
import Derived.Test.YtohfckkgmijlnaaGreatDoorPE
import Derived.Test.YtohfckkgmijlnaaGreatDoorChgC8
import Derived.Test.YtohfckkgmijlnaaGreatDoorPB
namespace Go.Proofs.YtohfckkgmijlnaaGreatDoor
open Go.RowKit Go.Extern.Stop Go.Stop Go.Extern

set_option maxRecDepth 100000 in
set_option maxHeartbeats 4000000 in
theorem ras_ref (k e : Int) (t a : Addr) (old : Value) (w : World) (ha : w.cell? a = some (.pointer (some t))) (ht0 : w.cell? t = some old) (hf0 : w.frozen? t = false) :
    Calls Tryz.prog 59 #[.iface 176 (.agg #[.int .i64 k, .int .i64 e]), .iface 89 (.pointer (some t)), .agg #[.pointer (some ⟨4, 89, none⟩), .pointer (some a), .int .u64 150], .iface 126 (.agg #[.pointer (some ⟨4, 34, none⟩)])] w
      fun r w' => r = .returned (.bool true) ∧ ∃ w2, Below w.heap.size w w2 ∧ w' = w2.setCell t (.int .i64 e) := by
  have hV := @run_callFunc_extern Tryz.prog 56 _ (fun args => ReflectliteValue.unpack (args.getD 0 (.tuple #[]))) Tryz.func56 (by kernel_rfl) (by kernel_rfl) (by kernel_rfl) (by kernel_rfl)
  have hO := @run_callFunc_extern Tryz.prog 54 _ ReflectliteType.typeOf Tryz.func54 (by kernel_rfl) (by kernel_rfl) (by kernel_rfl) (by kernel_rfl)
  have hA := @run_callFunc_extern Tryz.prog 158 _ (ReflectliteType.relation "AssignableTo" ReflectliteType.assignableTo) Tryz.func158 (by kernel_rfl) (by kernel_rfl) (by kernel_rfl) (by kernel_rfl)
  have hEl := @run_callFunc_extern Tryz.prog 68 _ (ReflectliteValue.method (ReflectliteValue.valueError "reflectlite.Value.Elem" 0) ReflectliteValue.elem) Tryz.func68 (by kernel_rfl) (by kernel_rfl) (by kernel_rfl) (by kernel_rfl)
  have hS := @run_callFunc_extern Tryz.prog 69 _ ReflectliteValue.set Tryz.func69 (by kernel_rfl) (by kernel_rfl) (by kernel_rfl) (by kernel_rfl)
  have tO := typeOfE
  have tR := typeOfR
  have mA := methodAssignableTo
  have aE := assignE
  have aR := assignR
  have vE := valueOfE
  have mU := methodUnwrap
  have nA := noAsR
  have hU := hasUnwrapR
  have hal : a.block < w.heap.size := World.block_lt_of_cell? w _ ha
  have htl : t.block < w.heap.size := World.block_lt_of_cell? w _ ht0
  have el := fun o1 o2 => elemV a t ((w.alloc o1).alloc o2) (cellExt (by ((repeat' (first | exact Below.refl _ _ | refine below_drewN ?_ _ | refine Below.drew ?_ | refine Below.alloc ?_ ?_ _ | refine Below.trans ?_ (Below.mono (by assumption) ?_))); all_goals (first | exact Nat.le_refl _ | exact Below.size (by assumption) | omega | (simp; done) | (simp; omega)))) ha)
  have hfz : ∀ o1 o2 o3, (((w.alloc o1).alloc o2).alloc o3).frozen? t = false := fun o1 o2 o3 => by
    rw [World.frozen?_alloc_old _ _ t (by simp; omega), World.frozen?_alloc_old _ _ t (by simp; omega), World.frozen?_alloc_old _ _ t (by omega)]
    exact hf0
  have st := fun o1 o2 => setE t ⟨w.heap.size + 1 + 1, 0, none⟩ e old (((w.alloc o1).alloc o2).alloc (.cells #[.int .i64 e] 34)) (by rw [World.cell?_alloc_at _ _ _ _ (by simp)]; rfl) (cellExt (by ((repeat' (first | exact Below.refl _ _ | refine below_drewN ?_ _ | refine Below.drew ?_ | refine Below.alloc ?_ ?_ _ | refine Below.trans ?_ (Below.mono (by assumption) ?_))); all_goals (first | exact Nat.le_refl _ | exact Below.size (by assumption) | omega | (simp; done) | (simp; omega)))) ht0) (hfz _ _ _)
  go_enter Tryz.func59, Tryz.ntmps59
  go_wp2
  refine wp_loop_rounds 2 ?_
  rw [rounds_succ]
  go_wp2_with (go_at_call 169; refine (unwrap_any _ _ _).mono ?_; rintro r w' ⟨rfl, rfl⟩)
  rw [rounds_succ]
  go_wp2
  go_ret
  exact ⟨rfl, _, by ((repeat' (first | exact Below.refl _ _ | refine below_drewN ?_ _ | refine Below.drew ?_ | refine Below.alloc ?_ ?_ _ | refine Below.trans ?_ (Below.mono (by assumption) ?_))); all_goals (first | exact Nat.le_refl _ | exact Below.size (by assumption) | omega | (simp; done) | (simp; omega))), rfl⟩
set_option maxRecDepth 100000 in
set_option maxHeartbeats 4000000 in
theorem as_ref (k e : Int) (t : Addr) (old : Value) (w : World) (hg : ErrT w) (ht0 : w.cell? t = some old) (hf0 : w.frozen? t = false) :
    Calls Tryz.prog 38 #[refE k e, .iface 89 (.pointer (some t))] w fun r w' => r = .returned (.bool true) ∧ ∃ w2, Below w.heap.size w w2 ∧ w' = w2.setCell t (.int .i64 e) := by
  have hg : w.cell? ⟨0, 0, none⟩ = some (.iface 126 (.agg #[.pointer (some ⟨4, 83, none⟩)])) := hg
  have hV := @run_callFunc_extern Tryz.prog 56 _ (fun args => ReflectliteValue.unpack (args.getD 0 (.tuple #[]))) Tryz.func56 (by kernel_rfl) (by kernel_rfl) (by kernel_rfl) (by kernel_rfl)
  have hT := @run_callFunc_extern Tryz.prog 57 _ (ReflectliteValue.methodAny (ReflectliteValue.valueError "reflectlite.Value.Type" 0) (fun t _ _ _ => ReflectliteType.toType t)) Tryz.func57 (by kernel_rfl) (by kernel_rfl) (by kernel_rfl) (by kernel_rfl)
  have hN := @run_callFunc_extern Tryz.prog 58 _ (ReflectliteValue.method (ReflectliteValue.valueError "reflectlite.Value.IsNil" 0) ReflectliteValue.isNil) Tryz.func58 (by kernel_rfl) (by kernel_rfl) (by kernel_rfl) (by kernel_rfl)
  have hK := @run_callFunc_extern Tryz.prog 149 _ (ReflectliteType.abiMethod fun t => do pure (.int .u8 (← Rtype.kind t))) Tryz.func149 (by kernel_rfl) (by kernel_rfl) (by kernel_rfl) (by kernel_rfl)
  have hE := @run_callFunc_extern Tryz.prog 160 _ (ReflectliteType.method ReflectliteType.elem) Tryz.func160 (by kernel_rfl) (by kernel_rfl) (by kernel_rfl) (by kernel_rfl)
  have hI := @run_callFunc_extern Tryz.prog 161 _ (ReflectliteType.relation "Implements" ReflectliteType.implements_) Tryz.func161 (by kernel_rfl) (by kernel_rfl) (by kernel_rfl) (by kernel_rfl)
  have hO := @run_callFunc_extern Tryz.prog 54 _ ReflectliteType.typeOf Tryz.func54 (by kernel_rfl) (by kernel_rfl) (by kernel_rfl) (by kernel_rfl)
  have hA := @run_callFunc_extern Tryz.prog 158 _ (ReflectliteType.relation "AssignableTo" ReflectliteType.assignableTo) Tryz.func158 (by kernel_rfl) (by kernel_rfl) (by kernel_rfl) (by kernel_rfl)
  have hEl := @run_callFunc_extern Tryz.prog 68 _ (ReflectliteValue.method (ReflectliteValue.valueError "reflectlite.Value.Elem" 0) ReflectliteValue.elem) Tryz.func68 (by kernel_rfl) (by kernel_rfl) (by kernel_rfl) (by kernel_rfl)
  have hS := @run_callFunc_extern Tryz.prog 69 _ ReflectliteValue.set Tryz.func69 (by kernel_rfl) (by kernel_rfl) (by kernel_rfl) (by kernel_rfl)
  have tO := typeOfE
  have tR := typeOfR
  have mA := methodAssignableTo
  have aE := assignE
  have aR := assignR
  have vE := valueOfE
  have vP := valueOfP
  have f7 := typeP
  have mK := methodKind
  have mE := methodElem
  have mI := methodImplements
  have mU := methodUnwrap
  have kP := kindP
  have kE := kindE
  have eP := elemP
  have iE := implementsE
  have nA := noAsR
  have hU := hasUnwrapR
  have hlt : 0 < w.heap.size := World.block_lt_of_cell? w _ hg
  have htl : t.block < w.heap.size := World.block_lt_of_cell? w _ ht0
  have n8 := fun W => isNilP ⟨w.heap.size, 0, none⟩ t W
  have el := fun W => elemV ⟨w.heap.size, 0, none⟩ t W
  unfold refE
  go_enter Tryz.func38, Tryz.ntmps38
  go_wp2_with fail
  refine (ras_ref k e t ⟨w.heap.size, 0, none⟩ old _ (by simp) (cellExt (by ((repeat' (first | exact Below.refl _ _ | refine below_drewN ?_ _ | refine Below.drew ?_ | refine Below.alloc ?_ ?_ _ | refine Below.trans ?_ (Below.mono (by assumption) ?_))); all_goals (first | exact Nat.le_refl _ | exact Below.size (by assumption) | omega | (simp; done) | (simp; omega)))) ht0) ?hf).mono ?_
  case hf =>
    rw [World.frozen?_alloc_old _ _ t (by simp; omega), World.frozen?_alloc_old _ _ t (by omega)]
    exact hf0
  rintro r w1 ⟨rfl, w2, hb2, rfl⟩
  have HB2 : Hid (Below w.heap.size w w2) := Lib.hid (Below.trans (by ((repeat' (first | exact Below.refl _ _ | refine below_drewN ?_ _ | refine Below.drew ?_ | refine Below.alloc ?_ ?_ _ | refine Below.trans ?_ (Below.mono (by assumption) ?_))); all_goals (first | exact Nat.le_refl _ | exact Below.size (by assumption) | omega | (simp; done) | (simp; omega)))) (hb2.mono (by simp; omega)))
  clear hb2
  go_wp2
  go_ret
  exact ⟨rfl, w2, HB2.out, rfl⟩
end Go.Proofs.YtohfckkgmijlnaaGreatDoor
namespace Go.Proofs.YtohfckkgmijlnaaGreatDoor
open Go.RowKit Go.WideShapes

theorem change_any (base pb : Nat) (dv kv : Value) (o : ObD) (k off n : Int) (nm : ByteArray) (A : Nat → Prop) (oa : Option Addr) (oc : Nat) (d : List UInt8) (w : World)
    (hO : IsO base pb w dv kv o) (hm : mayB o = true) (hd : RB A w (.slice oa d.length oc) d) (hl : d.length ≤ 50000) (hA : ∀ b, A b → b ≠ pb ∧ b < base) :
    Calls Tryz.prog 67 #[.pointer (some ⟨pb, 0, none⟩), opV k off n nm oa d.length oc] w (ChR base pb k (changeB o ⟨k, off, n, nm, d⟩) w) := by
  by_cases h5 : k = 5
  · subst h5; exact change_write base pb dv kv o off n nm A oa oc d w hO hm hd hl hA
  by_cases h6 : k = 6
  · subst h6; exact change_zero base pb dv kv o off n nm A oa oc d w hO hm hd hl hA
  by_cases h7 : k = 7
  · subst h7; exact change_cut base pb dv kv o off n nm A oa oc d w hO hm hd hl hA
  by_cases h8 : k = 8
  · subst h8; exact change_set base pb dv kv o off n nm A oa oc d w hO hm hd hl hA
  by_cases h9 : k = 9
  · subst h9; exact change_key base pb dv kv o off n nm A oa oc d w hO hm hd hl hA
  by_cases h10 : k = 10
  · subst h10; exact change_drop base pb dv kv o off n nm A oa oc d w hO hm hd hl hA
  by_cases h11 : k = 11
  · subst h11; exact change_clone base pb dv kv o off n nm A oa oc d w hO hm hd hl hA
  by_cases h12 : k = 12
  · subst h12; exact change_seq base pb dv kv o off n nm A oa oc d w hO hm hd hl hA
  by_cases h14 : k = 14
  · subst h14; exact change_from base pb dv kv o off n nm A oa oc d w hO hm hd hl hA
  exact change_else base pb dv kv o k off n nm oa _ oc d w hO ⟨h5, h6, h7, h8, h9, h10, h11, h12, h14⟩
theorem dcall {w W W' : World} (h : Below w.heap.size w W) (hb : Below W.heap.size W W') : Below w.heap.size w W' := h.trans (hb.mono h.size)
theorem dblk {W W' : World} {k : Nat} {o : Obj} (hb : Below W.heap.size W W') (h : W.heap[k]? = some o) : W'.heap[k]? = some o := (hb.block k (Array.getElem?_eq_some_iff.1 h).1).trans h
theorem dnew {W : World} {k : Nat} {o : Obj} (h : W.heap[k]? = some o) (o' : Obj) : (W.alloc o').heap[k]? = some o := (Below.heap_alloc _ _ _ (Array.getElem?_eq_some_iff.1 h).1).trans h
theorem dset3 {w w3 : World} {p : Nat} {x y z : Value} (h : w3 = ((w.setCell ⟨p, 0, none⟩ x).setCell ⟨p, 1, none⟩ y).setCell ⟨p, 2, none⟩ z) {g : Nat} (hne : g ≠ p) {o : Obj} (hg : w.heap[g]? = some o) : w3.heap[g]? = some o := by
  rw [h]; exact (set3_ne _ _ _ _ _ hne).trans hg
theorem dset1 {w w3 : World} {p j : Nat} {x : Value} (h : w3 = w.setCell ⟨p, j, none⟩ x) {g : Nat} (hne : g ≠ p) {o : Obj} (hg : w.heap[g]? = some o) : w3.heap[g]? = some o := by
  rw [h]; exact (Below.heap_setCell _ _ _ _ hne).trans hg
theorem ErrT.ext {w w' : World} (h : ErrT w) (hb : Below w.heap.size w w') : ErrT w' := cellExt hb h
theorem results_cell3 {P : Program} {fn : Func} {p u1 u2 u3 : Tmp} {ty : TypeId} (h : fn.results = #[.cell p ty, .tmp u1, .tmp u2, .tmp u3]) (tmps : Array Value) (w : World) (g : Nat) (t : TypeId) (cs : Array Value) (fr : Nat × Nat) (d : TypeDesc)
    (hp : tmps.getD p undef = .pointer (some ⟨g, 0, none⟩)) (hg : w.heap[g]? = some (.cells cs t fr))
    (hu : P.underlying ty = some d) (hd : (match d with | .struct _ | .array _ _ => true | _ => false) = true) (hi : (P.info? ty).map (·.size) = some cs.size) :
    (results fn tmps).run P w = .ok (.tuple #[.agg cs, tmps.getD u1 undef, tmps.getD u2 undef, tmps.getD u3 undef]) w := by
  have hp' : tmps[p]?.getD undef = .pointer (some ⟨g, 0, none⟩) := by simpa using hp
  simp [results, h, hp', asAddr, run_loadVar_row w g t ty cs fr d hg hu hd hi]
theorem obv_none (A : Nat → Prop) (w : World) : ObV A w (.agg #[.slice none 0 0, .slice none 0 0, .int .i64 0]) ObD.none := ⟨_, _, rfl, RB.nil _ _, SlE.nil _ _ _⟩
/-- what object.Do leaves -/
def DoOut (x : DoR) (w : World) (e : Ending) (w' : World) : Prop := ∃ dv kv, e = .returned (.tuple #[.agg #[dv, kv, .int .i64 x.o.seq], .bool x.there, .bool x.on, .int .i64 x.e]) ∧ Own8 w.heap.size w' dv kv x.o ∧ Below w.heap.size w w'
theorem DoOut.no {c : Int} {x : DoR} {w w' : World} (hx : x = DoR.no c) (hb : Below w.heap.size w w') : DoOut x w (.returned (.tuple #[.agg #[.slice none 0 0, .slice none 0 0, .int .i64 0], .bool false, .bool false, .int .i64 c])) w' := by
  subst hx
  exact ⟨_, _, rfl, Own8.none _ _, hb⟩
theorem DoOut.ok {x : DoR} {dv kv : Value} {o : ObD} {b : Bool} {th : Bool} {w w' : World} (hx : x = ⟨o, th, b, 0⟩) (hv : Own8 w.heap.size w' dv kv o) (hb : Below w.heap.size w w') : DoOut x w (.returned (.tuple #[.agg #[dv, kv, .int .i64 o.seq], .bool th, .bool b, .int .i64 0])) w' := by
  subst hx
  exact ⟨_, _, rfl, hv, hb⟩
theorem below3 {B p : Nat} {w w' : World} (h : Below B w w') (hp : B ≤ p) (x y z : Value) : Below B w (((w'.setCell ⟨p, 0, none⟩ x).setCell ⟨p, 1, none⟩ y).setCell ⟨p, 2, none⟩ z) :=
  ((h.setCell (show B ≤ (⟨p, 0, none⟩ : Addr).block from hp) x).setCell (show B ≤ (⟨p, 1, none⟩ : Addr).block from hp) y).setCell (show B ≤ (⟨p, 2, none⟩ : Addr).block from hp) z
theorem ObV.weak {A A' : Nat → Prop} {w : World} {v : Value} {o : ObD} (h : ObV A w v o) (hs : ∀ b, b < w.heap.size → A b → A' b) : ObV A' w v o := by
  obtain ⟨dv, kv, rfl, hd, hk⟩ := h
  exact ⟨dv, kv, rfl, hd.weak hs, hk.weak hs⟩
theorem Own8.base_le {base base' : Nat} {w : World} {dv kv : Value} {o : ObD} (h : Own8 base w dv kv o) (hb : base' ≤ base) : Own8 base' w dv kv o := by
  obtain ⟨hd, cs, hk, hc⟩ := h
  refine ⟨hd.base_le hb, cs, ⟨hk.1, hk.2.imp id ?_⟩, hc.weak fun i b _ _ h => ⟨Nat.le_trans hb h.1, h.2⟩⟩
  rintro ⟨g, cap, cur, h0, h1, h2⟩
  exact ⟨g, cap, cur, h0, Nat.le_trans hb h1, h2⟩
theorem do_end {lo base pb r : Nat} {w : World} {dv kv : Value} {o : ObD} (hI : IsO base pb w dv kv o) (hle : lo ≤ base) (hr : r < base) (x y z : Value) :
    Own8 lo (((w.setCell ⟨r, 0, none⟩ x).setCell ⟨r, 1, none⟩ y).setCell ⟨r, 2, none⟩ z) dv kv o :=
  (hI.own.keep ⟨by simp [World.setCell], fun b hb _ => set3_ne _ _ _ _ _ (by omega)⟩).base_le hle
theorem doB_bad {o : ObD} {th : Bool} {op : OpD} (h : mayB o = false ∨ ¬ 1 ≤ op.kind ∨ ¬ op.kind ≤ 14) : doB o th op = DoR.no 1 := by
  unfold doB
  have : (mayB o && decide (1 ≤ op.kind) && decide (op.kind ≤ 14)) = false := by
    rcases h with h | h | h <;> simp [h]
  rw [this]
  rfl
theorem mayB_none : mayB ObD.none = true := by decide
theorem mayB_of {o : ObD} {th : Bool} (h : mayB o = true) : mayB (if th then o else ObD.none) = true := by
  cases th
  · exact mayB_none
  · exact h
set_option maxRecDepth 100000 in
set_option maxHeartbeats 16000000 in
theorem do_bad (A _B : Nat → Prop) (v : Value) (o : ObD) (th : Bool) (k off n : Int) (nm : ByteArray) (oa : Option Addr) (oc : Nat) (d : List UInt8) (w : World)
    (hv : ObV A w v o) (ho : o.okl) (hx : mayB o = false ∨ ¬ 1 ≤ k ∨ ¬ k ≤ 14) :
    Calls Tryz.prog 53 #[v, .bool th, opV k off n nm oa d.length oc] w (DoOut (doB o th ⟨k, off, n, nm, d⟩) w) := by
  obtain ⟨dv0, kv0, rfl, hdd, hkk⟩ := hv
  obtain ⟨da, dc, rfl⟩ := hdd.shape
  obtain ⟨ka, kc, rfl⟩ := hkk.shape
  have HOV : Hid (ObV A w _ o) := Lib.hid ⟨_, _, rfl, hdd, hkk⟩
  have hko := ho.keys
  have HX : Hid (doB o th ⟨k, off, n, nm, d⟩ = DoR.no 1) := Lib.hid (doB_bad hx)
  unfold opV
  clear hdd hkk ho
  cases hm : mayB o with
  | false =>
    go_enter Tryz.func53, Tryz.ntmps53
    go_wp2_with fail
    obtain ⟨w0, hw0⟩ : ∃ w0, w0 = ((w.alloc (.cells #[.slice da o.data.length dc, .slice ka o.keys.length kc, .int .i64 o.seq] 41)).alloc (.cells #[.int .i64 k, .int .i64 off, .int .i64 n, .string nm, .slice oa d.length oc] 57)).alloc (.cells #[.slice none 0 0, .slice none 0 0, .int .i64 0] 41) := ⟨_, rfl⟩
    rw [← hw0]
    have b0 : w0.heap[w.heap.size]? = some (.cells #[.slice da o.data.length dc, .slice ka o.keys.length kc, .int .i64 o.seq] 41 (0, 0)) := by rw [hw0]; exact dnew (dnew (heap_alloc_new _ _) _) _
    have b1 : w0.heap[w.heap.size + 1]? = some (.cells #[.int .i64 k, .int .i64 off, .int .i64 n, .string nm, .slice oa d.length oc] 57 (0, 0)) := by rw [hw0]; exact dnew (heap_alloc2_new _ _ _) _
    have b2 : w0.heap[w.heap.size + 2]? = some (.cells #[.slice none 0 0, .slice none 0 0, .int .i64 0] 41 (0, 0)) := by rw [hw0]; have h := fun (W : World) o' => heap_alloc_new W o'; have := h ((w.alloc (.cells #[.slice da o.data.length dc, .slice ka o.keys.length kc, .int .i64 o.seq] 41)).alloc (.cells #[.int .i64 k, .int .i64 off, .int .i64 n, .string nm, .slice oa d.length oc] 57)) (.cells #[.slice none 0 0, .slice none 0 0, .int .i64 0] 41); simpa using this
    have hw : Below w.heap.size w w0 := by rw [hw0]; ((repeat' (first | exact Below.refl _ _ | refine below_drewN ?_ _ | refine Below.drew ?_ | refine Below.alloc ?_ ?_ _ | refine Below.trans ?_ (Below.mono (by assumption) ?_))); all_goals (first | exact Nat.le_refl _ | exact Below.size (by assumption) | omega | (simp; done) | (simp; omega)))
    clear hw0
    refine (check_any A _ o _ (HOV.out.ext hw) (by omega)).mono ?_
    rintro e w1 ⟨rfl, hb1⟩
    have HW1 := Lib.hid (dcall hw hb1)
    have HB0 := Lib.hid (dblk hb1 b0)
    have HB1 := Lib.hid (dblk hb1 b1)
    have HB2 := Lib.hid (dblk hb1 b2)
    rw [hm]
    clear hb1 b0 b1 b2 hw hm
    obtain ⟨y0, e0⟩ := blk_cell (i := 0) (HB0.out)
    obtain ⟨y1, e1⟩ := blk_cell (i := 1) (HB0.out)
    obtain ⟨y2, e2⟩ := blk_cell (i := 2) (HB0.out)
    simp at y0 y1 y2
    obtain ⟨z0, g0⟩ := blk_cell (i := 0) (HB1.out)
    obtain ⟨z1, g1⟩ := blk_cell (i := 1) (HB1.out)
    obtain ⟨z2, g2⟩ := blk_cell (i := 2) (HB1.out)
    obtain ⟨z3, g3⟩ := blk_cell (i := 3) (HB1.out)
    obtain ⟨z4, g4⟩ := blk_cell (i := 4) (HB1.out)
    simp at z0 z1 z2 z3 z4
    obtain ⟨x0, f0⟩ := blk_cell (i := 0) (HB2.out)
    obtain ⟨x1, f1⟩ := blk_cell (i := 1) (HB2.out)
    obtain ⟨x2, f2⟩ := blk_cell (i := 2) (HB2.out)
    simp at x0 x1 x2
    go_wp2
    refine bodyPost_ret (results_cell3 rfl _ _ (w.heap.size + 2) 41 _ (0, 0) _ rfl (set3_blk HB2.out) Tryz.underlying41 rfl (by kernel_rfl)) rfl ?_
    exact DoOut.no HX.out (below3 HW1.out (by omega) _ _ _)
  | true =>
    rcases hx with hx | hx | hx
    · rw [hx] at hm; cases hm
    · have hk2 : k < 1 := by omega
      go_enter Tryz.func53, Tryz.ntmps53
      go_wp2_with fail
      obtain ⟨w0, hw0⟩ : ∃ w0, w0 = ((w.alloc (.cells #[.slice da o.data.length dc, .slice ka o.keys.length kc, .int .i64 o.seq] 41)).alloc (.cells #[.int .i64 k, .int .i64 off, .int .i64 n, .string nm, .slice oa d.length oc] 57)).alloc (.cells #[.slice none 0 0, .slice none 0 0, .int .i64 0] 41) := ⟨_, rfl⟩
      rw [← hw0]
      have b0 : w0.heap[w.heap.size]? = some (.cells #[.slice da o.data.length dc, .slice ka o.keys.length kc, .int .i64 o.seq] 41 (0, 0)) := by rw [hw0]; exact dnew (dnew (heap_alloc_new _ _) _) _
      have b1 : w0.heap[w.heap.size + 1]? = some (.cells #[.int .i64 k, .int .i64 off, .int .i64 n, .string nm, .slice oa d.length oc] 57 (0, 0)) := by rw [hw0]; exact dnew (heap_alloc2_new _ _ _) _
      have b2 : w0.heap[w.heap.size + 2]? = some (.cells #[.slice none 0 0, .slice none 0 0, .int .i64 0] 41 (0, 0)) := by rw [hw0]; have h := fun (W : World) o' => heap_alloc_new W o'; have := h ((w.alloc (.cells #[.slice da o.data.length dc, .slice ka o.keys.length kc, .int .i64 o.seq] 41)).alloc (.cells #[.int .i64 k, .int .i64 off, .int .i64 n, .string nm, .slice oa d.length oc] 57)) (.cells #[.slice none 0 0, .slice none 0 0, .int .i64 0] 41); simpa using this
      have hw : Below w.heap.size w w0 := by rw [hw0]; ((repeat' (first | exact Below.refl _ _ | refine below_drewN ?_ _ | refine Below.drew ?_ | refine Below.alloc ?_ ?_ _ | refine Below.trans ?_ (Below.mono (by assumption) ?_))); all_goals (first | exact Nat.le_refl _ | exact Below.size (by assumption) | omega | (simp; done) | (simp; omega)))
      clear hw0
      refine (check_any A _ o _ (HOV.out.ext hw) (by omega)).mono ?_
      rintro e w1 ⟨rfl, hb1⟩
      have HW1 := Lib.hid (dcall hw hb1)
      have HB0 := Lib.hid (dblk hb1 b0)
      have HB1 := Lib.hid (dblk hb1 b1)
      have HB2 := Lib.hid (dblk hb1 b2)
      rw [hm]
      clear hb1 b0 b1 b2 hw hm
      obtain ⟨y0, e0⟩ := blk_cell (i := 0) (HB0.out)
      obtain ⟨y1, e1⟩ := blk_cell (i := 1) (HB0.out)
      obtain ⟨y2, e2⟩ := blk_cell (i := 2) (HB0.out)
      simp at y0 y1 y2
      obtain ⟨z0, g0⟩ := blk_cell (i := 0) (HB1.out)
      obtain ⟨z1, g1⟩ := blk_cell (i := 1) (HB1.out)
      obtain ⟨z2, g2⟩ := blk_cell (i := 2) (HB1.out)
      obtain ⟨z3, g3⟩ := blk_cell (i := 3) (HB1.out)
      obtain ⟨z4, g4⟩ := blk_cell (i := 4) (HB1.out)
      simp at z0 z1 z2 z3 z4
      obtain ⟨x0, f0⟩ := blk_cell (i := 0) (HB2.out)
      obtain ⟨x1, f1⟩ := blk_cell (i := 1) (HB2.out)
      obtain ⟨x2, f2⟩ := blk_cell (i := 2) (HB2.out)
      simp at x0 x1 x2
      go_wp2
      refine bodyPost_ret (results_cell3 rfl _ _ (w.heap.size + 2) 41 _ (0, 0) _ rfl (set3_blk HB2.out) Tryz.underlying41 rfl (by kernel_rfl)) rfl ?_
      exact DoOut.no HX.out (below3 HW1.out (by omega) _ _ _)
    · have hk1 : ¬ k < 1 := by omega
      have hk2 : 14 < k := by omega
      go_enter Tryz.func53, Tryz.ntmps53
      go_wp2_with fail
      obtain ⟨w0, hw0⟩ : ∃ w0, w0 = ((w.alloc (.cells #[.slice da o.data.length dc, .slice ka o.keys.length kc, .int .i64 o.seq] 41)).alloc (.cells #[.int .i64 k, .int .i64 off, .int .i64 n, .string nm, .slice oa d.length oc] 57)).alloc (.cells #[.slice none 0 0, .slice none 0 0, .int .i64 0] 41) := ⟨_, rfl⟩
      rw [← hw0]
      have b0 : w0.heap[w.heap.size]? = some (.cells #[.slice da o.data.length dc, .slice ka o.keys.length kc, .int .i64 o.seq] 41 (0, 0)) := by rw [hw0]; exact dnew (dnew (heap_alloc_new _ _) _) _
      have b1 : w0.heap[w.heap.size + 1]? = some (.cells #[.int .i64 k, .int .i64 off, .int .i64 n, .string nm, .slice oa d.length oc] 57 (0, 0)) := by rw [hw0]; exact dnew (heap_alloc2_new _ _ _) _
      have b2 : w0.heap[w.heap.size + 2]? = some (.cells #[.slice none 0 0, .slice none 0 0, .int .i64 0] 41 (0, 0)) := by rw [hw0]; have h := fun (W : World) o' => heap_alloc_new W o'; have := h ((w.alloc (.cells #[.slice da o.data.length dc, .slice ka o.keys.length kc, .int .i64 o.seq] 41)).alloc (.cells #[.int .i64 k, .int .i64 off, .int .i64 n, .string nm, .slice oa d.length oc] 57)) (.cells #[.slice none 0 0, .slice none 0 0, .int .i64 0] 41); simpa using this
      have hw : Below w.heap.size w w0 := by rw [hw0]; ((repeat' (first | exact Below.refl _ _ | refine below_drewN ?_ _ | refine Below.drew ?_ | refine Below.alloc ?_ ?_ _ | refine Below.trans ?_ (Below.mono (by assumption) ?_))); all_goals (first | exact Nat.le_refl _ | exact Below.size (by assumption) | omega | (simp; done) | (simp; omega)))
      clear hw0
      refine (check_any A _ o _ (HOV.out.ext hw) (by omega)).mono ?_
      rintro e w1 ⟨rfl, hb1⟩
      have HW1 := Lib.hid (dcall hw hb1)
      have HB0 := Lib.hid (dblk hb1 b0)
      have HB1 := Lib.hid (dblk hb1 b1)
      have HB2 := Lib.hid (dblk hb1 b2)
      rw [hm]
      clear hb1 b0 b1 b2 hw hm
      obtain ⟨y0, e0⟩ := blk_cell (i := 0) (HB0.out)
      obtain ⟨y1, e1⟩ := blk_cell (i := 1) (HB0.out)
      obtain ⟨y2, e2⟩ := blk_cell (i := 2) (HB0.out)
      simp at y0 y1 y2
      obtain ⟨z0, g0⟩ := blk_cell (i := 0) (HB1.out)
      obtain ⟨z1, g1⟩ := blk_cell (i := 1) (HB1.out)
      obtain ⟨z2, g2⟩ := blk_cell (i := 2) (HB1.out)
      obtain ⟨z3, g3⟩ := blk_cell (i := 3) (HB1.out)
      obtain ⟨z4, g4⟩ := blk_cell (i := 4) (HB1.out)
      simp at z0 z1 z2 z3 z4
      obtain ⟨x0, f0⟩ := blk_cell (i := 0) (HB2.out)
      obtain ⟨x1, f1⟩ := blk_cell (i := 1) (HB2.out)
      obtain ⟨x2, f2⟩ := blk_cell (i := 2) (HB2.out)
      simp at x0 x1 x2
      go_wp2
      refine bodyPost_ret (results_cell3 rfl _ _ (w.heap.size + 2) 41 _ (0, 0) _ rfl (set3_blk HB2.out) Tryz.underlying41 rfl (by kernel_rfl)) rfl ?_
      exact DoOut.no HX.out (below3 HW1.out (by omega) _ _ _)
/-- what is done to an object that may be, by an op of a kind -/
def doG (o1 : ObD) (th : Bool) (op : OpD) : DoR := if (guardB o1 th op).1 = 0 then (match changeB o1 op with
      | none => DoR.no 2
      | some o2 => ⟨if thereB th op.kind then o2 else ObD.none, thereB th op.kind, (guardB o1 th op).2, 0⟩) else DoR.no (guardB o1 th op).1
theorem doB_good {o : ObD} {th : Bool} {op : OpD} (hm : mayB o = true) (h1 : 1 ≤ op.kind) (h2 : op.kind ≤ 14) : doB o th op = doG (if th then o else ObD.none) th op := by
  unfold doB doG
  simp [hm, h1, h2]
  rfl
theorem doG_g {o1 : ObD} {th : Bool} {op : OpD} (h : (guardB o1 th op).1 ≠ 0) : doG o1 th op = DoR.no (guardB o1 th op).1 := by unfold doG; rw [if_neg h]
theorem doG_n {o1 : ObD} {th : Bool} {op : OpD} (h : (guardB o1 th op).1 = 0) (hc : changeB o1 op = none) : doG o1 th op = DoR.no 2 := by unfold doG; rw [if_pos h, hc]
theorem doG_s {o1 o2 : ObD} {th : Bool} {op : OpD} (h : (guardB o1 th op).1 = 0) (hc : changeB o1 op = some o2) : doG o1 th op = ⟨if thereB th op.kind then o2 else ObD.none, thereB th op.kind, (guardB o1 th op).2, 0⟩ := by unfold doG; rw [if_pos h, hc]
theorem okl_of {o : ObD} (h : mayB o = true) : o.okl := by
  obtain ⟨h1, h2, -, -, hf⟩ := (mayB_iff o).1 h
  exact ⟨by omega, by omega, fun k hk => by
    obtain ⟨i, hi, rfl⟩ := List.getElem_of_mem hk
    have := (hf.key i _ (List.getElem?_eq_getElem hi)).2
    omega⟩
theorem own8_shape {base : Nat} {w : World} {dv kv : Value} {o : ObD} (h : Own8 base w dv kv o) : (∃ a c, dv = .slice a o.data.length c) ∧ ∃ a c, kv = .slice a o.keys.length c := by
  refine ⟨h.data.rb.shape, ?_⟩
  obtain ⟨cs, h1, -⟩ := h.ex
  exact owns_shape h1
set_option maxRecDepth 100000 in
set_option maxHeartbeats 16000000 in
theorem do_t (A B : Nat → Prop) (v : Value) (o : ObD) (k off n : Int) (nm : ByteArray) (oa : Option Addr) (oc : Nat) (d : List UInt8) (w : World)
    (hv : ObV A w v o) (hm : mayB o = true) (hk1 : 1 ≤ k) (hk2 : k ≤ 14) (hd : RB B w (.slice oa d.length oc) d) (hl : d.length ≤ 50000) (hE : ErrT w) :
    Calls Tryz.prog 53 #[v, .bool true, opV k off n nm oa d.length oc] w (DoOut (doG o true ⟨k, off, n, nm, d⟩) w) := by
  have ho := okl_of hm
  obtain ⟨dv0, kv0, rfl, hdd, hkk⟩ := hv
  obtain ⟨da, dc, rfl⟩ := hdd.shape
  obtain ⟨ka, kc, rfl⟩ := hkk.shape
  have HOV : Hid (ObV A w _ o) := Lib.hid ⟨_, _, rfl, hdd, hkk⟩
  have hko := ho.keys
  have HL := Lib.hid ho
  have HM := Lib.hid hm
  have HD : Hid (RB (fun b => B b ∧ b < w.heap.size) w _ d) := Lib.hid (SlA.cut hd)
  have HE := Lib.hid hE
  have hgd := fun A v o th W h1 h2 h3 => guard_any A (fun b => B b ∧ b < w.heap.size) v o th k off n nm oa oc d W h1 h2 h3
  have hch := fun base pb dv kv o W h1 h2 h3 h4 => change_any base pb dv kv o k off n nm (fun b => B b ∧ b < w.heap.size) oa oc d W h1 h2 h3 hl h4
  unfold opV at hgd hch ⊢
  clear hdd hkk ho hd hE
  have hk1' : ¬ k < 1 := by omega
  have hk2' : ¬ 14 < k := by omega
  go_enter Tryz.func53, Tryz.ntmps53
  go_wp2_with fail
  obtain ⟨w0, hw0⟩ : ∃ w0, w0 = ((w.alloc (.cells #[.slice da o.data.length dc, .slice ka o.keys.length kc, .int .i64 o.seq] 41)).alloc (.cells #[.int .i64 k, .int .i64 off, .int .i64 n, .string nm, .slice oa d.length oc] 57)).alloc (.cells #[.slice none 0 0, .slice none 0 0, .int .i64 0] 41) := ⟨_, rfl⟩
  rw [← hw0]
  have b0 : w0.heap[w.heap.size]? = some (.cells #[.slice da o.data.length dc, .slice ka o.keys.length kc, .int .i64 o.seq] 41 (0, 0)) := by rw [hw0]; exact dnew (dnew (heap_alloc_new _ _) _) _
  have b1 : w0.heap[w.heap.size + 1]? = some (.cells #[.int .i64 k, .int .i64 off, .int .i64 n, .string nm, .slice oa d.length oc] 57 (0, 0)) := by rw [hw0]; exact dnew (heap_alloc2_new _ _ _) _
  have b2 : w0.heap[w.heap.size + 2]? = some (.cells #[.slice none 0 0, .slice none 0 0, .int .i64 0] 41 (0, 0)) := by rw [hw0]; have h := fun (W : World) o' => heap_alloc_new W o'; have := h ((w.alloc (.cells #[.slice da o.data.length dc, .slice ka o.keys.length kc, .int .i64 o.seq] 41)).alloc (.cells #[.int .i64 k, .int .i64 off, .int .i64 n, .string nm, .slice oa d.length oc] 57)) (.cells #[.slice none 0 0, .slice none 0 0, .int .i64 0] 41); simpa using this
  have hw : Below w.heap.size w w0 := by rw [hw0]; ((repeat' (first | exact Below.refl _ _ | refine below_drewN ?_ _ | refine Below.drew ?_ | refine Below.alloc ?_ ?_ _ | refine Below.trans ?_ (Below.mono (by assumption) ?_))); all_goals (first | exact Nat.le_refl _ | exact Below.size (by assumption) | omega | (simp; done) | (simp; omega)))
  clear hw0
  refine (check_any A _ o _ (HOV.out.ext hw) (by omega)).mono ?_
  rintro e w1 ⟨rfl, hb1⟩
  have HW1 := Lib.hid (dcall hw hb1)
  have HB0 := Lib.hid (dblk hb1 b0)
  have HB1 := Lib.hid (dblk hb1 b1)
  have HB2 := Lib.hid (dblk hb1 b2)
  rw [hm]
  clear hb1 b0 b1 b2 hw hm
  obtain ⟨y0, e0⟩ := blk_cell (i := 0) (HB0.out)
  obtain ⟨y1, e1⟩ := blk_cell (i := 1) (HB0.out)
  obtain ⟨y2, e2⟩ := blk_cell (i := 2) (HB0.out)
  simp at y0 y1 y2
  obtain ⟨z0, g0⟩ := blk_cell (i := 0) (HB1.out)
  obtain ⟨z1, g1⟩ := blk_cell (i := 1) (HB1.out)
  obtain ⟨z2, g2⟩ := blk_cell (i := 2) (HB1.out)
  obtain ⟨z3, g3⟩ := blk_cell (i := 3) (HB1.out)
  obtain ⟨z4, g4⟩ := blk_cell (i := 4) (HB1.out)
  simp at z0 z1 z2 z3 z4
  obtain ⟨x0, f0⟩ := blk_cell (i := 0) (HB2.out)
  obtain ⟨x1, f1⟩ := blk_cell (i := 1) (HB2.out)
  obtain ⟨x2, f2⟩ := blk_cell (i := 2) (HB2.out)
  simp at x0 x1 x2
  go_wp2_with fail
  refine (objclone_own A _ o _ (HOV.out.ext HW1.out) HL.out).mono ?_
  rintro e w2 ⟨dv1, kv1, rfl, ho2, hb2⟩
  have HP2 := Lib.hid (dblk hb2 HB0.out)
  have HC2 := Lib.hid (dblk hb2 HB1.out)
  have HR2 := Lib.hid (dblk hb2 HB2.out)
  have HW2 := Lib.hid (dcall HW1.out hb2)
  have HO2 := Lib.hid ho2
  have hsz : Hid (w.heap.size < w1.heap.size ∧ w1.heap.size ≤ w2.heap.size ∧ w.heap.size + 2 < w1.heap.size) := ⟨(Array.getElem?_eq_some_iff.1 HB0.out).1, hb2.size, (Array.getElem?_eq_some_iff.1 HB2.out).1⟩
  obtain ⟨⟨a1, c1, rfl⟩, ⟨u1, q1, rfl⟩⟩ := own8_shape ho2
  generalize hw1s : w1.heap.size = base at *
  clear ho2 hb2 x0 x1 x2 f0 f1 f2 y0 y1 y2 e0 e1 e2 z0 z1 z2 z3 z4 g0 g1 g2 g3 g4 HB0 HB1 HB2 HW1 HOV
  obtain ⟨y0, e0⟩ := blk_cell (i := 0) (HP2.out)
  obtain ⟨y1, e1⟩ := blk_cell (i := 1) (HP2.out)
  obtain ⟨y2, e2⟩ := blk_cell (i := 2) (HP2.out)
  simp at y0 y1 y2
  obtain ⟨z0, g0⟩ := blk_cell (i := 0) (HC2.out)
  obtain ⟨z1, g1⟩ := blk_cell (i := 1) (HC2.out)
  obtain ⟨z2, g2⟩ := blk_cell (i := 2) (HC2.out)
  obtain ⟨z3, g3⟩ := blk_cell (i := 3) (HC2.out)
  obtain ⟨z4, g4⟩ := blk_cell (i := 4) (HC2.out)
  simp at z0 z1 z2 z3 z4
  go_wp2_with fail
  obtain ⟨w3, hw3⟩ : ∃ w3, w3 = ((w2.setCell ⟨w.heap.size, 0, none⟩ (.slice a1 (o).data.length c1)).setCell ⟨w.heap.size, 1, none⟩ (.slice u1 (o).keys.length q1)).setCell ⟨w.heap.size, 2, none⟩ (.int .i64 (o).seq) := ⟨_, rfl⟩
  rw [← hw3]
  have HI3 : Hid (IsO base w.heap.size w3 (.slice a1 (o).data.length c1) (.slice u1 (o).keys.length q1) (o)) := Lib.hid ⟨hsz.out.1, by rw [hw3]; simpa [World.setCell] using hsz.out.2.1, by rw [hw3]; exact set3_blk HP2.out, by rw [hw3]; exact HO2.out.keep ⟨by simp [World.setCell], fun b hb _ => set3_ne _ _ _ _ _ (by have := hsz.out.1; omega)⟩⟩
  have HC3 := Lib.hid (dset3 hw3 (by simp) HC2.out)
  have HR3 := Lib.hid (dset3 hw3 (by simp) HR2.out)
  have HW3 := Lib.hid (show Below w.heap.size w w3 from by rw [hw3]; exact below3 HW2.out (Nat.le_refl _) _ _ _)
  clear hw3 y0 y1 y2 e0 e1 e2 z0 z1 z2 z3 z4 g0 g1 g2 g3 g4
  obtain ⟨⟨ge, gb⟩, hG⟩ : ∃ x, guardB (o) true ⟨k, off, n, nm, d⟩ = x := ⟨_, rfl⟩
  refine (hgd _ _ (o) true _ HI3.out.own.obv HL.out (RB.ext HD.out HW3.out)).mono ?_
  rintro e w4 ⟨rfl, hb4⟩
  rw [hG]
  simp only
  have HG := Lib.hid hG
  have HI4 := Lib.hid (HI3.out.ext hb4)
  have HC4 := Lib.hid (dblk hb4 HC3.out)
  have HR4 := Lib.hid (dblk hb4 HR3.out)
  have HW4 := Lib.hid (dcall HW3.out hb4)
  clear hb4 hG
  by_cases hg0 : ge = 0
  · subst hg0
    rw [if_pos rfl]
    obtain ⟨z0, g0⟩ := blk_cell (i := 0) (HC4.out)
    obtain ⟨z1, g1⟩ := blk_cell (i := 1) (HC4.out)
    obtain ⟨z2, g2⟩ := blk_cell (i := 2) (HC4.out)
    obtain ⟨z3, g3⟩ := blk_cell (i := 3) (HC4.out)
    obtain ⟨z4, g4⟩ := blk_cell (i := 4) (HC4.out)
    simp at z0 z1 z2 z3 z4
    go_wp2_with fail
    refine (hch base _ _ _ (o) _ HI4.out HM.out (RB.ext HD.out HW4.out) (fun b hb => ⟨by omega, by have := hsz.out; omega⟩)).mono ?_
    rintro e w5 ⟨hr, hf5⟩
    have HR5 := Lib.hid ((hf5.block _ (Array.getElem?_eq_some_iff.1 HR4.out).1 (fun h => by have := hsz.out; rcases h with h | h <;> omega)).trans HR4.out)
    have HC5 := Lib.hid ((hf5.block _ (Array.getElem?_eq_some_iff.1 HC4.out).1 (fun h => by have := hsz.out; rcases h with h | h <;> omega)).trans HC4.out)
    have HW5 := Lib.hid (HW4.out.trans (hf5.below HW4.out.size fun j hj h => by have := hsz.out; rcases h with h | h <;> omega))
    clear z0 z1 z2 z3 z4 g0 g1 g2 g3 g4 hf5
    rcases hc : changeB (o) ⟨k, off, n, nm, d⟩ with _ | o2
    · rw [hc] at hr
      have hr : e = _ := hr
      subst hr
      have HX : Hid (doG (o) true ⟨k, off, n, nm, d⟩ = DoR.no 2) := by show doG _ _ _ = _; exact doG_n (by rw [HG.out]) hc
      clear hc
      have has := as_ref k (2) ⟨w5.heap.size, 0, none⟩ (.int .i64 0) (w5.alloc (.cells #[.int .i64 0] 34)) (HE.out.ext (dcall HW5.out ((Below.refl _ _).alloc (Nat.le_refl _) _))) (by simp) (by simp)
      unfold refE at has ⊢
      have HAS := Lib.hid has
      clear has
      go_wp2_with fail
      refine (HAS.out).mono ?_
      rintro e w5 ⟨rfl, w6, hb6, rfl⟩
      have HR6 := Lib.hid (dblk hb6 (dnew HR5.out _))
      have K6 := Lib.hid (dblk hb6 (heap_alloc_new w5 _))
      have HW6 := Lib.hid (dcall (dcall HW5.out ((Below.refl _ _).alloc (Nat.le_refl _) _)) hb6)
      obtain ⟨w7, hw7⟩ : ∃ w7, w7 = w6.setCell ⟨w5.heap.size, 0, none⟩ (.int .i64 (2)) := ⟨_, rfl⟩
      rw [← hw7]
      have hlt7 : w.heap.size + 2 < w5.heap.size := (Array.getElem?_eq_some_iff.1 HR5.out).1
      have HR7 := Lib.hid (dset1 hw7 (show w.heap.size + 2 ≠ w5.heap.size by omega) HR6.out)
      have HW7 := Lib.hid (show Below w.heap.size w w7 from by rw [hw7]; exact HW6.out.setCell (show w.heap.size ≤ w5.heap.size by omega) _)
      have K7 := set_blk3 (j := 0) (v := .int .i64 (2)) K6.out
      rw [← hw7] at K7
      obtain ⟨k0, l0⟩ := blk_cell (i := 0) K7
      simp at k0
      obtain ⟨x0, f0⟩ := blk_cell (i := 0) (HR7.out)
      obtain ⟨x1, f1⟩ := blk_cell (i := 1) (HR7.out)
      obtain ⟨x2, f2⟩ := blk_cell (i := 2) (HR7.out)
      simp at x0 x1 x2
      clear hw7 hb6 K7
      go_wp2
      go_region
      go_wp2
      refine bodyPost_ret (results_cell3 rfl _ _ (w.heap.size + 2) 41 _ (0, 0) _ rfl (set3_blk HR7.out) Tryz.underlying41 rfl (by kernel_rfl)) rfl ?_
      exact DoOut.no HX.out (below3 HW7.out (by omega) _ _ _).drew
    · rw [hc] at hr
      obtain ⟨rfl, dv2, kv2, hI5⟩ := hr
      have HX : Hid (doG (o) true ⟨k, off, n, nm, d⟩ = ⟨if thereB true k then o2 else ObD.none, thereB true k, gb, 0⟩) := by show doG _ _ _ = _; have := doG_s (o1 := o) (th := true) (op := ⟨k, off, n, nm, d⟩) (by rw [HG.out]) hc; rw [HG.out] at this; exact this
      obtain ⟨⟨a2, c2, rfl⟩, ⟨u2, q2, rfl⟩⟩ := own8_shape hI5.own
      have HI5 := Lib.hid hI5
      clear hc hI5
      go_wp2_with fail
      refine (as_nil _ _).mono ?_
      rintro e w6 ⟨rfl, hw6⟩
      have hb6 : Below w5.heap.size w5 w6 := by rw [hw6]; ((repeat' (first | exact Below.refl _ _ | refine below_drewN ?_ _ | refine Below.drew ?_ | refine Below.alloc ?_ ?_ _ | refine Below.trans ?_ (Below.mono (by assumption) ?_))); all_goals (first | exact Nat.le_refl _ | exact Below.size (by assumption) | omega | (simp; done) | (simp; omega)))
      have HI6 := Lib.hid (HI5.out.ext hb6)
      have HC6 := Lib.hid (dblk hb6 HC5.out)
      have HR6 := Lib.hid (dblk hb6 HR5.out)
      have HW6 := Lib.hid (dcall HW5.out hb6)
      have hkk : k = 5 ∨ k = 8 ∨ k = 9 ∨ k = 11 ∨ k = 12 ∨ k = 13 ∨ (k ≠ 5 ∧ k ≠ 8 ∧ k ≠ 9 ∧ k ≠ 11 ∧ k ≠ 12 ∧ k ≠ 13) := by omega
      clear hw6 hb6 hk1 hk2 hk1' hk2'
      rcases hkk with rfl | rfl | rfl | rfl | rfl | rfl | hkk
      · obtain ⟨z0, g0⟩ := blk_cell (i := 0) HC6.out
        simp at z0
        obtain ⟨y0, e0⟩ := blk_cell (i := 0) (HI6.out.blk)
        obtain ⟨y1, e1⟩ := blk_cell (i := 1) (HI6.out.blk)
        obtain ⟨y2, e2⟩ := blk_cell (i := 2) (HI6.out.blk)
        simp at y0 y1 y2
        obtain ⟨x0, f0⟩ := blk_cell (i := 0) (HR6.out)
        obtain ⟨x1, f1⟩ := blk_cell (i := 1) (HR6.out)
        obtain ⟨x2, f2⟩ := blk_cell (i := 2) (HR6.out)
        simp at x0 x1 x2
        go_wp2
        refine bodyPost_ret (results_cell3 rfl _ _ (w.heap.size + 2) 41 _ (0, 0) _ rfl (set3_blk HR6.out) Tryz.underlying41 rfl (by kernel_rfl)) rfl ?_
        exact DoOut.ok (HX.out.trans (by first | (simp; done) | simp [thereB])) (do_end HI6.out (by have := hsz.out; omega) (by have := hsz.out; omega) _ _ _) (below3 HW6.out (by omega) _ _ _)
      · obtain ⟨z0, g0⟩ := blk_cell (i := 0) HC6.out
        simp at z0
        obtain ⟨y0, e0⟩ := blk_cell (i := 0) (HI6.out.blk)
        obtain ⟨y1, e1⟩ := blk_cell (i := 1) (HI6.out.blk)
        obtain ⟨y2, e2⟩ := blk_cell (i := 2) (HI6.out.blk)
        simp at y0 y1 y2
        obtain ⟨x0, f0⟩ := blk_cell (i := 0) (HR6.out)
        obtain ⟨x1, f1⟩ := blk_cell (i := 1) (HR6.out)
        obtain ⟨x2, f2⟩ := blk_cell (i := 2) (HR6.out)
        simp at x0 x1 x2
        go_wp2
        refine bodyPost_ret (results_cell3 rfl _ _ (w.heap.size + 2) 41 _ (0, 0) _ rfl (set3_blk HR6.out) Tryz.underlying41 rfl (by kernel_rfl)) rfl ?_
        exact DoOut.ok (HX.out.trans (by first | (simp; done) | simp [thereB])) (do_end HI6.out (by have := hsz.out; omega) (by have := hsz.out; omega) _ _ _) (below3 HW6.out (by omega) _ _ _)
      · obtain ⟨z0, g0⟩ := blk_cell (i := 0) HC6.out
        simp at z0
        obtain ⟨y0, e0⟩ := blk_cell (i := 0) (HI6.out.blk)
        obtain ⟨y1, e1⟩ := blk_cell (i := 1) (HI6.out.blk)
        obtain ⟨y2, e2⟩ := blk_cell (i := 2) (HI6.out.blk)
        simp at y0 y1 y2
        obtain ⟨x0, f0⟩ := blk_cell (i := 0) (HR6.out)
        obtain ⟨x1, f1⟩ := blk_cell (i := 1) (HR6.out)
        obtain ⟨x2, f2⟩ := blk_cell (i := 2) (HR6.out)
        simp at x0 x1 x2
        go_wp2
        refine bodyPost_ret (results_cell3 rfl _ _ (w.heap.size + 2) 41 _ (0, 0) _ rfl (set3_blk HR6.out) Tryz.underlying41 rfl (by kernel_rfl)) rfl ?_
        exact DoOut.ok (HX.out.trans (by first | (simp; done) | simp [thereB])) (do_end HI6.out (by have := hsz.out; omega) (by have := hsz.out; omega) _ _ _) (below3 HW6.out (by omega) _ _ _)
      · obtain ⟨z0, g0⟩ := blk_cell (i := 0) HC6.out
        simp at z0
        obtain ⟨y0, e0⟩ := blk_cell (i := 0) (HI6.out.blk)
        obtain ⟨y1, e1⟩ := blk_cell (i := 1) (HI6.out.blk)
        obtain ⟨y2, e2⟩ := blk_cell (i := 2) (HI6.out.blk)
        simp at y0 y1 y2
        obtain ⟨x0, f0⟩ := blk_cell (i := 0) (HR6.out)
        obtain ⟨x1, f1⟩ := blk_cell (i := 1) (HR6.out)
        obtain ⟨x2, f2⟩ := blk_cell (i := 2) (HR6.out)
        simp at x0 x1 x2
        go_wp2
        refine bodyPost_ret (results_cell3 rfl _ _ (w.heap.size + 2) 41 _ (0, 0) _ rfl (set3_blk HR6.out) Tryz.underlying41 rfl (by kernel_rfl)) rfl ?_
        exact DoOut.ok (HX.out.trans (by first | (simp; done) | simp [thereB])) (do_end HI6.out (by have := hsz.out; omega) (by have := hsz.out; omega) _ _ _) (below3 HW6.out (by omega) _ _ _)
      · obtain ⟨z0, g0⟩ := blk_cell (i := 0) HC6.out
        simp at z0
        obtain ⟨y0, e0⟩ := blk_cell (i := 0) (HI6.out.blk)
        obtain ⟨y1, e1⟩ := blk_cell (i := 1) (HI6.out.blk)
        obtain ⟨y2, e2⟩ := blk_cell (i := 2) (HI6.out.blk)
        simp at y0 y1 y2
        obtain ⟨x0, f0⟩ := blk_cell (i := 0) (HR6.out)
        obtain ⟨x1, f1⟩ := blk_cell (i := 1) (HR6.out)
        obtain ⟨x2, f2⟩ := blk_cell (i := 2) (HR6.out)
        simp at x0 x1 x2
        go_wp2
        refine bodyPost_ret (results_cell3 rfl _ _ (w.heap.size + 2) 41 _ (0, 0) _ rfl (set3_blk HR6.out) Tryz.underlying41 rfl (by kernel_rfl)) rfl ?_
        exact DoOut.ok (HX.out.trans (by first | (simp; done) | simp [thereB])) (do_end HI6.out (by have := hsz.out; omega) (by have := hsz.out; omega) _ _ _) (below3 HW6.out (by omega) _ _ _)
      · obtain ⟨z0, g0⟩ := blk_cell (i := 0) HC6.out
        simp at z0
        obtain ⟨y0, e0⟩ := blk_cell (i := 0) (HI6.out.blk)
        obtain ⟨y1, e1⟩ := blk_cell (i := 1) (HI6.out.blk)
        obtain ⟨y2, e2⟩ := blk_cell (i := 2) (HI6.out.blk)
        simp at y0 y1 y2
        obtain ⟨x0, f0⟩ := blk_cell (i := 0) (HR6.out)
        obtain ⟨x1, f1⟩ := blk_cell (i := 1) (HR6.out)
        obtain ⟨x2, f2⟩ := blk_cell (i := 2) (HR6.out)
        simp at x0 x1 x2
        go_wp2
        refine bodyPost_ret (results_cell3 rfl _ _ (w.heap.size + 2) 41 _ (0, 0) _ rfl (set3_blk ((set3_ne _ _ _ _ _ (show w.heap.size + 2 ≠ w.heap.size by omega)).trans HR6.out)) Tryz.underlying41 rfl (by kernel_rfl)) rfl ?_
        exact DoOut.ok (o := ObD.none) (HX.out.trans (by first | (simp; done) | simp [thereB])) (Own8.none _ _) (below3 (below3 HW6.out (Nat.le_refl _) _ _ _) (by omega) _ _ _)
      · obtain ⟨k5, k8, k9, k11, k12, k13⟩ := hkk
        have HTB : Hid (thereB true k = true) := by show thereB _ _ = _; simp [thereB, k5, k8, k9, k11, k12, k13]
        rw [HTB.out] at HX
        obtain ⟨p5, r5⟩ := (kne k5).out
        obtain ⟨p8, r8⟩ := (kne k8).out
        obtain ⟨p9, r9⟩ := (kne k9).out
        obtain ⟨p11, r11⟩ := (kne k11).out
        obtain ⟨p12, r12⟩ := (kne k12).out
        obtain ⟨p13, r13⟩ := (kne k13).out
        clear k5 k8 k9 k11 k12 k13
        obtain ⟨z0, g0⟩ := blk_cell (i := 0) HC6.out
        simp at z0
        obtain ⟨y0, e0⟩ := blk_cell (i := 0) (HI6.out.blk)
        obtain ⟨y1, e1⟩ := blk_cell (i := 1) (HI6.out.blk)
        obtain ⟨y2, e2⟩ := blk_cell (i := 2) (HI6.out.blk)
        simp at y0 y1 y2
        obtain ⟨x0, f0⟩ := blk_cell (i := 0) (HR6.out)
        obtain ⟨x1, f1⟩ := blk_cell (i := 1) (HR6.out)
        obtain ⟨x2, f2⟩ := blk_cell (i := 2) (HR6.out)
        simp at x0 x1 x2
        go_wp2
        refine bodyPost_ret (results_cell3 rfl _ _ (w.heap.size + 2) 41 _ (0, 0) _ rfl (set3_blk HR6.out) Tryz.underlying41 rfl (by kernel_rfl)) rfl ?_
        exact DoOut.ok (HX.out.trans (by first | (simp; done) | simp [thereB])) (do_end HI6.out (by have := hsz.out; omega) (by have := hsz.out; omega) _ _ _) (below3 HW6.out (by omega) _ _ _)
  · have HX : Hid (doG (o) true ⟨k, off, n, nm, d⟩ = DoR.no ge) := by show doG _ _ _ = _; have := doG_g (o1 := o) (th := true) (op := ⟨k, off, n, nm, d⟩) (by rw [HG.out]; exact hg0); rw [HG.out] at this; exact this
    rw [if_neg hg0]
    clear hg0
    have has := as_ref k (ge) ⟨w4.heap.size, 0, none⟩ (.int .i64 0) (w4.alloc (.cells #[.int .i64 0] 34)) (HE.out.ext (dcall HW4.out ((Below.refl _ _).alloc (Nat.le_refl _) _))) (by simp) (by simp)
    unfold refE at has ⊢
    have HAS := Lib.hid has
    clear has
    go_wp2_with fail
    refine (HAS.out).mono ?_
    rintro e w5 ⟨rfl, w6, hb6, rfl⟩
    have HR6 := Lib.hid (dblk hb6 (dnew HR4.out _))
    have K6 := Lib.hid (dblk hb6 (heap_alloc_new w4 _))
    have HW6 := Lib.hid (dcall (dcall HW4.out ((Below.refl _ _).alloc (Nat.le_refl _) _)) hb6)
    obtain ⟨w7, hw7⟩ : ∃ w7, w7 = w6.setCell ⟨w4.heap.size, 0, none⟩ (.int .i64 (ge)) := ⟨_, rfl⟩
    rw [← hw7]
    have hlt7 : w.heap.size + 2 < w4.heap.size := (Array.getElem?_eq_some_iff.1 HR4.out).1
    have HR7 := Lib.hid (dset1 hw7 (show w.heap.size + 2 ≠ w4.heap.size by omega) HR6.out)
    have HW7 := Lib.hid (show Below w.heap.size w w7 from by rw [hw7]; exact HW6.out.setCell (show w.heap.size ≤ w4.heap.size by omega) _)
    have K7 := set_blk3 (j := 0) (v := .int .i64 (ge)) K6.out
    rw [← hw7] at K7
    obtain ⟨k0, l0⟩ := blk_cell (i := 0) K7
    simp at k0
    obtain ⟨x0, f0⟩ := blk_cell (i := 0) (HR7.out)
    obtain ⟨x1, f1⟩ := blk_cell (i := 1) (HR7.out)
    obtain ⟨x2, f2⟩ := blk_cell (i := 2) (HR7.out)
    simp at x0 x1 x2
    clear hw7 hb6 K7
    go_wp2
    go_region
    go_wp2
    refine bodyPost_ret (results_cell3 rfl _ _ (w.heap.size + 2) 41 _ (0, 0) _ rfl (set3_blk HR7.out) Tryz.underlying41 rfl (by kernel_rfl)) rfl ?_
    exact DoOut.no HX.out (below3 HW7.out (by omega) _ _ _).drew
set_option maxRecDepth 100000 in
set_option maxHeartbeats 16000000 in
theorem do_f (A B : Nat → Prop) (v : Value) (o : ObD) (k off n : Int) (nm : ByteArray) (oa : Option Addr) (oc : Nat) (d : List UInt8) (w : World)
    (hv : ObV A w v o) (hm : mayB o = true) (hk1 : 1 ≤ k) (hk2 : k ≤ 14) (hd : RB B w (.slice oa d.length oc) d) (hl : d.length ≤ 50000) (hE : ErrT w) :
    Calls Tryz.prog 53 #[v, .bool false, opV k off n nm oa d.length oc] w (DoOut (doG ObD.none false ⟨k, off, n, nm, d⟩) w) := by
  have ho := okl_of hm
  obtain ⟨dv0, kv0, rfl, hdd, hkk⟩ := hv
  obtain ⟨da, dc, rfl⟩ := hdd.shape
  obtain ⟨ka, kc, rfl⟩ := hkk.shape
  have HOV : Hid (ObV A w _ o) := Lib.hid ⟨_, _, rfl, hdd, hkk⟩
  have hko := ho.keys
  have HL := Lib.hid (okl_of mayB_none)
  have HM := Lib.hid mayB_none
  have HD : Hid (RB (fun b => B b ∧ b < w.heap.size) w _ d) := Lib.hid (SlA.cut hd)
  have HE := Lib.hid hE
  have hgd := fun A v o th W h1 h2 h3 => guard_any A (fun b => B b ∧ b < w.heap.size) v o th k off n nm oa oc d W h1 h2 h3
  have hch := fun base pb dv kv o W h1 h2 h3 h4 => change_any base pb dv kv o k off n nm (fun b => B b ∧ b < w.heap.size) oa oc d W h1 h2 h3 hl h4
  unfold opV at hgd hch ⊢
  clear hdd hkk ho hd hE
  have hk1' : ¬ k < 1 := by omega
  have hk2' : ¬ 14 < k := by omega
  go_enter Tryz.func53, Tryz.ntmps53
  go_wp2_with fail
  obtain ⟨w0, hw0⟩ : ∃ w0, w0 = ((w.alloc (.cells #[.slice da o.data.length dc, .slice ka o.keys.length kc, .int .i64 o.seq] 41)).alloc (.cells #[.int .i64 k, .int .i64 off, .int .i64 n, .string nm, .slice oa d.length oc] 57)).alloc (.cells #[.slice none 0 0, .slice none 0 0, .int .i64 0] 41) := ⟨_, rfl⟩
  rw [← hw0]
  have b0 : w0.heap[w.heap.size]? = some (.cells #[.slice da o.data.length dc, .slice ka o.keys.length kc, .int .i64 o.seq] 41 (0, 0)) := by rw [hw0]; exact dnew (dnew (heap_alloc_new _ _) _) _
  have b1 : w0.heap[w.heap.size + 1]? = some (.cells #[.int .i64 k, .int .i64 off, .int .i64 n, .string nm, .slice oa d.length oc] 57 (0, 0)) := by rw [hw0]; exact dnew (heap_alloc2_new _ _ _) _
  have b2 : w0.heap[w.heap.size + 2]? = some (.cells #[.slice none 0 0, .slice none 0 0, .int .i64 0] 41 (0, 0)) := by rw [hw0]; have h := fun (W : World) o' => heap_alloc_new W o'; have := h ((w.alloc (.cells #[.slice da o.data.length dc, .slice ka o.keys.length kc, .int .i64 o.seq] 41)).alloc (.cells #[.int .i64 k, .int .i64 off, .int .i64 n, .string nm, .slice oa d.length oc] 57)) (.cells #[.slice none 0 0, .slice none 0 0, .int .i64 0] 41); simpa using this
  have hw : Below w.heap.size w w0 := by rw [hw0]; ((repeat' (first | exact Below.refl _ _ | refine below_drewN ?_ _ | refine Below.drew ?_ | refine Below.alloc ?_ ?_ _ | refine Below.trans ?_ (Below.mono (by assumption) ?_))); all_goals (first | exact Nat.le_refl _ | exact Below.size (by assumption) | omega | (simp; done) | (simp; omega)))
  clear hw0
  refine (check_any A _ o _ (HOV.out.ext hw) (by omega)).mono ?_
  rintro e w1 ⟨rfl, hb1⟩
  have HW1 := Lib.hid (dcall hw hb1)
  have HB0 := Lib.hid (dblk hb1 b0)
  have HB1 := Lib.hid (dblk hb1 b1)
  have HB2 := Lib.hid (dblk hb1 b2)
  rw [hm]
  clear hb1 b0 b1 b2 hw hm
  obtain ⟨y0, e0⟩ := blk_cell (i := 0) (HB0.out)
  obtain ⟨y1, e1⟩ := blk_cell (i := 1) (HB0.out)
  obtain ⟨y2, e2⟩ := blk_cell (i := 2) (HB0.out)
  simp at y0 y1 y2
  obtain ⟨z0, g0⟩ := blk_cell (i := 0) (HB1.out)
  obtain ⟨z1, g1⟩ := blk_cell (i := 1) (HB1.out)
  obtain ⟨z2, g2⟩ := blk_cell (i := 2) (HB1.out)
  obtain ⟨z3, g3⟩ := blk_cell (i := 3) (HB1.out)
  obtain ⟨z4, g4⟩ := blk_cell (i := 4) (HB1.out)
  simp at z0 z1 z2 z3 z4
  obtain ⟨x0, f0⟩ := blk_cell (i := 0) (HB2.out)
  obtain ⟨x1, f1⟩ := blk_cell (i := 1) (HB2.out)
  obtain ⟨x2, f2⟩ := blk_cell (i := 2) (HB2.out)
  simp at x0 x1 x2
  go_wp2_with fail
  obtain ⟨w1', hw1'⟩ : ∃ w1', w1' = ((w1.setCell ⟨w.heap.size, 0, none⟩ (.slice none 0 0)).setCell ⟨w.heap.size, 1, none⟩ (.slice none 0 0)).setCell ⟨w.heap.size, 2, none⟩ (.int .i64 0) := ⟨_, rfl⟩
  rw [← hw1']
  have HB0' := Lib.hid (show w1'.heap[w.heap.size]? = some (.cells #[.slice none 0 0, .slice none 0 0, .int .i64 0] 41 (0, 0)) from by rw [hw1']; exact set3_blk HB0.out)
  have HB1' := Lib.hid (dset3 hw1' (by simp) HB1.out)
  have HB2' := Lib.hid (dset3 hw1' (show w.heap.size + 2 ≠ w.heap.size by omega) HB2.out)
  have HW1' := Lib.hid (show Below w.heap.size w w1' from by rw [hw1']; exact below3 HW1.out (Nat.le_refl _) _ _ _)
  clear hw1'
  refine (objclone_own A _ ObD.none _ (obv_none _ _) HL.out).mono ?_
  rintro e w2 ⟨dv1, kv1, rfl, ho2, hb2⟩
  have HP2 := Lib.hid (dblk hb2 HB0'.out)
  have HC2 := Lib.hid (dblk hb2 HB1'.out)
  have HR2 := Lib.hid (dblk hb2 HB2'.out)
  have HW2 := Lib.hid (dcall HW1'.out hb2)
  have HO2 := Lib.hid ho2
  have hsz : Hid (w.heap.size < w1'.heap.size ∧ w1'.heap.size ≤ w2.heap.size ∧ w.heap.size + 2 < w1'.heap.size) := ⟨(Array.getElem?_eq_some_iff.1 HB0'.out).1, hb2.size, (Array.getElem?_eq_some_iff.1 HB2'.out).1⟩
  obtain ⟨⟨a1, c1, rfl⟩, ⟨u1, q1, rfl⟩⟩ := own8_shape ho2
  generalize hw1s : w1'.heap.size = base at *
  clear ho2 hb2 x0 x1 x2 f0 f1 f2 y0 y1 y2 e0 e1 e2 z0 z1 z2 z3 z4 g0 g1 g2 g3 g4 HB0 HB1 HB2 HW1 HOV HB0' HB1' HB2' HW1'
  obtain ⟨y0, e0⟩ := blk_cell (i := 0) (HP2.out)
  obtain ⟨y1, e1⟩ := blk_cell (i := 1) (HP2.out)
  obtain ⟨y2, e2⟩ := blk_cell (i := 2) (HP2.out)
  simp at y0 y1 y2
  obtain ⟨z0, g0⟩ := blk_cell (i := 0) (HC2.out)
  obtain ⟨z1, g1⟩ := blk_cell (i := 1) (HC2.out)
  obtain ⟨z2, g2⟩ := blk_cell (i := 2) (HC2.out)
  obtain ⟨z3, g3⟩ := blk_cell (i := 3) (HC2.out)
  obtain ⟨z4, g4⟩ := blk_cell (i := 4) (HC2.out)
  simp at z0 z1 z2 z3 z4
  go_wp2_with fail
  obtain ⟨w3, hw3⟩ : ∃ w3, w3 = ((w2.setCell ⟨w.heap.size, 0, none⟩ (.slice a1 (ObD.none).data.length c1)).setCell ⟨w.heap.size, 1, none⟩ (.slice u1 (ObD.none).keys.length q1)).setCell ⟨w.heap.size, 2, none⟩ (.int .i64 (ObD.none).seq) := ⟨_, rfl⟩
  rw [← hw3]
  have HI3 : Hid (IsO base w.heap.size w3 (.slice a1 (ObD.none).data.length c1) (.slice u1 (ObD.none).keys.length q1) (ObD.none)) := Lib.hid ⟨hsz.out.1, by rw [hw3]; simpa [World.setCell] using hsz.out.2.1, by rw [hw3]; exact set3_blk HP2.out, by rw [hw3]; exact HO2.out.keep ⟨by simp [World.setCell], fun b hb _ => set3_ne _ _ _ _ _ (by have := hsz.out.1; omega)⟩⟩
  have HC3 := Lib.hid (dset3 hw3 (by simp) HC2.out)
  have HR3 := Lib.hid (dset3 hw3 (by simp) HR2.out)
  have HW3 := Lib.hid (show Below w.heap.size w w3 from by rw [hw3]; exact below3 HW2.out (Nat.le_refl _) _ _ _)
  clear hw3 y0 y1 y2 e0 e1 e2 z0 z1 z2 z3 z4 g0 g1 g2 g3 g4
  obtain ⟨⟨ge, gb⟩, hG⟩ : ∃ x, guardB (ObD.none) false ⟨k, off, n, nm, d⟩ = x := ⟨_, rfl⟩
  refine (hgd _ _ (ObD.none) false _ HI3.out.own.obv HL.out (RB.ext HD.out HW3.out)).mono ?_
  rintro e w4 ⟨rfl, hb4⟩
  rw [hG]
  simp only
  have HG := Lib.hid hG
  have HI4 := Lib.hid (HI3.out.ext hb4)
  have HC4 := Lib.hid (dblk hb4 HC3.out)
  have HR4 := Lib.hid (dblk hb4 HR3.out)
  have HW4 := Lib.hid (dcall HW3.out hb4)
  clear hb4 hG
  by_cases hg0 : ge = 0
  · subst hg0
    rw [if_pos rfl]
    obtain ⟨z0, g0⟩ := blk_cell (i := 0) (HC4.out)
    obtain ⟨z1, g1⟩ := blk_cell (i := 1) (HC4.out)
    obtain ⟨z2, g2⟩ := blk_cell (i := 2) (HC4.out)
    obtain ⟨z3, g3⟩ := blk_cell (i := 3) (HC4.out)
    obtain ⟨z4, g4⟩ := blk_cell (i := 4) (HC4.out)
    simp at z0 z1 z2 z3 z4
    go_wp2_with fail
    refine (hch base _ _ _ (ObD.none) _ HI4.out HM.out (RB.ext HD.out HW4.out) (fun b hb => ⟨by omega, by have := hsz.out; omega⟩)).mono ?_
    rintro e w5 ⟨hr, hf5⟩
    have HR5 := Lib.hid ((hf5.block _ (Array.getElem?_eq_some_iff.1 HR4.out).1 (fun h => by have := hsz.out; rcases h with h | h <;> omega)).trans HR4.out)
    have HC5 := Lib.hid ((hf5.block _ (Array.getElem?_eq_some_iff.1 HC4.out).1 (fun h => by have := hsz.out; rcases h with h | h <;> omega)).trans HC4.out)
    have HW5 := Lib.hid (HW4.out.trans (hf5.below HW4.out.size fun j hj h => by have := hsz.out; rcases h with h | h <;> omega))
    clear z0 z1 z2 z3 z4 g0 g1 g2 g3 g4 hf5
    rcases hc : changeB (ObD.none) ⟨k, off, n, nm, d⟩ with _ | o2
    · rw [hc] at hr
      have hr : e = _ := hr
      subst hr
      have HX : Hid (doG (ObD.none) false ⟨k, off, n, nm, d⟩ = DoR.no 2) := by show doG _ _ _ = _; exact doG_n (by rw [HG.out]) hc
      clear hc
      have has := as_ref k (2) ⟨w5.heap.size, 0, none⟩ (.int .i64 0) (w5.alloc (.cells #[.int .i64 0] 34)) (HE.out.ext (dcall HW5.out ((Below.refl _ _).alloc (Nat.le_refl _) _))) (by simp) (by simp)
      unfold refE at has ⊢
      have HAS := Lib.hid has
      clear has
      go_wp2_with fail
      refine (HAS.out).mono ?_
      rintro e w5 ⟨rfl, w6, hb6, rfl⟩
      have HR6 := Lib.hid (dblk hb6 (dnew HR5.out _))
      have K6 := Lib.hid (dblk hb6 (heap_alloc_new w5 _))
      have HW6 := Lib.hid (dcall (dcall HW5.out ((Below.refl _ _).alloc (Nat.le_refl _) _)) hb6)
      obtain ⟨w7, hw7⟩ : ∃ w7, w7 = w6.setCell ⟨w5.heap.size, 0, none⟩ (.int .i64 (2)) := ⟨_, rfl⟩
      rw [← hw7]
      have hlt7 : w.heap.size + 2 < w5.heap.size := (Array.getElem?_eq_some_iff.1 HR5.out).1
      have HR7 := Lib.hid (dset1 hw7 (show w.heap.size + 2 ≠ w5.heap.size by omega) HR6.out)
      have HW7 := Lib.hid (show Below w.heap.size w w7 from by rw [hw7]; exact HW6.out.setCell (show w.heap.size ≤ w5.heap.size by omega) _)
      have K7 := set_blk3 (j := 0) (v := .int .i64 (2)) K6.out
      rw [← hw7] at K7
      obtain ⟨k0, l0⟩ := blk_cell (i := 0) K7
      simp at k0
      obtain ⟨x0, f0⟩ := blk_cell (i := 0) (HR7.out)
      obtain ⟨x1, f1⟩ := blk_cell (i := 1) (HR7.out)
      obtain ⟨x2, f2⟩ := blk_cell (i := 2) (HR7.out)
      simp at x0 x1 x2
      clear hw7 hb6 K7
      go_wp2
      go_region
      go_wp2
      refine bodyPost_ret (results_cell3 rfl _ _ (w.heap.size + 2) 41 _ (0, 0) _ rfl (set3_blk HR7.out) Tryz.underlying41 rfl (by kernel_rfl)) rfl ?_
      exact DoOut.no HX.out (below3 HW7.out (by omega) _ _ _).drew
    · rw [hc] at hr
      obtain ⟨rfl, dv2, kv2, hI5⟩ := hr
      have HX : Hid (doG (ObD.none) false ⟨k, off, n, nm, d⟩ = ⟨if thereB false k then o2 else ObD.none, thereB false k, gb, 0⟩) := by show doG _ _ _ = _; have := doG_s (o1 := ObD.none) (th := false) (op := ⟨k, off, n, nm, d⟩) (by rw [HG.out]) hc; rw [HG.out] at this; exact this
      obtain ⟨⟨a2, c2, rfl⟩, ⟨u2, q2, rfl⟩⟩ := own8_shape hI5.own
      have HI5 := Lib.hid hI5
      clear hc hI5
      go_wp2_with fail
      refine (as_nil _ _).mono ?_
      rintro e w6 ⟨rfl, hw6⟩
      have hb6 : Below w5.heap.size w5 w6 := by rw [hw6]; ((repeat' (first | exact Below.refl _ _ | refine below_drewN ?_ _ | refine Below.drew ?_ | refine Below.alloc ?_ ?_ _ | refine Below.trans ?_ (Below.mono (by assumption) ?_))); all_goals (first | exact Nat.le_refl _ | exact Below.size (by assumption) | omega | (simp; done) | (simp; omega)))
      have HI6 := Lib.hid (HI5.out.ext hb6)
      have HC6 := Lib.hid (dblk hb6 HC5.out)
      have HR6 := Lib.hid (dblk hb6 HR5.out)
      have HW6 := Lib.hid (dcall HW5.out hb6)
      have hkk : k = 5 ∨ k = 8 ∨ k = 9 ∨ k = 11 ∨ k = 12 ∨ k = 13 ∨ (k ≠ 5 ∧ k ≠ 8 ∧ k ≠ 9 ∧ k ≠ 11 ∧ k ≠ 12 ∧ k ≠ 13) := by omega
      clear hw6 hb6 hk1 hk2 hk1' hk2'
      rcases hkk with rfl | rfl | rfl | rfl | rfl | rfl | hkk
      · obtain ⟨z0, g0⟩ := blk_cell (i := 0) HC6.out
        simp at z0
        obtain ⟨y0, e0⟩ := blk_cell (i := 0) (HI6.out.blk)
        obtain ⟨y1, e1⟩ := blk_cell (i := 1) (HI6.out.blk)
        obtain ⟨y2, e2⟩ := blk_cell (i := 2) (HI6.out.blk)
        simp at y0 y1 y2
        obtain ⟨x0, f0⟩ := blk_cell (i := 0) (HR6.out)
        obtain ⟨x1, f1⟩ := blk_cell (i := 1) (HR6.out)
        obtain ⟨x2, f2⟩ := blk_cell (i := 2) (HR6.out)
        simp at x0 x1 x2
        go_wp2
        refine bodyPost_ret (results_cell3 rfl _ _ (w.heap.size + 2) 41 _ (0, 0) _ rfl (set3_blk HR6.out) Tryz.underlying41 rfl (by kernel_rfl)) rfl ?_
        exact DoOut.ok (HX.out.trans (by first | (simp; done) | simp [thereB])) (do_end HI6.out (by have := hsz.out; omega) (by have := hsz.out; omega) _ _ _) (below3 HW6.out (by omega) _ _ _)
      · obtain ⟨z0, g0⟩ := blk_cell (i := 0) HC6.out
        simp at z0
        obtain ⟨y0, e0⟩ := blk_cell (i := 0) (HI6.out.blk)
        obtain ⟨y1, e1⟩ := blk_cell (i := 1) (HI6.out.blk)
        obtain ⟨y2, e2⟩ := blk_cell (i := 2) (HI6.out.blk)
        simp at y0 y1 y2
        obtain ⟨x0, f0⟩ := blk_cell (i := 0) (HR6.out)
        obtain ⟨x1, f1⟩ := blk_cell (i := 1) (HR6.out)
        obtain ⟨x2, f2⟩ := blk_cell (i := 2) (HR6.out)
        simp at x0 x1 x2
        go_wp2
        refine bodyPost_ret (results_cell3 rfl _ _ (w.heap.size + 2) 41 _ (0, 0) _ rfl (set3_blk HR6.out) Tryz.underlying41 rfl (by kernel_rfl)) rfl ?_
        exact DoOut.ok (HX.out.trans (by first | (simp; done) | simp [thereB])) (do_end HI6.out (by have := hsz.out; omega) (by have := hsz.out; omega) _ _ _) (below3 HW6.out (by omega) _ _ _)
      · obtain ⟨z0, g0⟩ := blk_cell (i := 0) HC6.out
        simp at z0
        obtain ⟨y0, e0⟩ := blk_cell (i := 0) (HI6.out.blk)
        obtain ⟨y1, e1⟩ := blk_cell (i := 1) (HI6.out.blk)
        obtain ⟨y2, e2⟩ := blk_cell (i := 2) (HI6.out.blk)
        simp at y0 y1 y2
        obtain ⟨x0, f0⟩ := blk_cell (i := 0) (HR6.out)
        obtain ⟨x1, f1⟩ := blk_cell (i := 1) (HR6.out)
        obtain ⟨x2, f2⟩ := blk_cell (i := 2) (HR6.out)
        simp at x0 x1 x2
        go_wp2
        refine bodyPost_ret (results_cell3 rfl _ _ (w.heap.size + 2) 41 _ (0, 0) _ rfl (set3_blk HR6.out) Tryz.underlying41 rfl (by kernel_rfl)) rfl ?_
        exact DoOut.ok (HX.out.trans (by first | (simp; done) | simp [thereB])) (do_end HI6.out (by have := hsz.out; omega) (by have := hsz.out; omega) _ _ _) (below3 HW6.out (by omega) _ _ _)
      · obtain ⟨z0, g0⟩ := blk_cell (i := 0) HC6.out
        simp at z0
        obtain ⟨y0, e0⟩ := blk_cell (i := 0) (HI6.out.blk)
        obtain ⟨y1, e1⟩ := blk_cell (i := 1) (HI6.out.blk)
        obtain ⟨y2, e2⟩ := blk_cell (i := 2) (HI6.out.blk)
        simp at y0 y1 y2
        obtain ⟨x0, f0⟩ := blk_cell (i := 0) (HR6.out)
        obtain ⟨x1, f1⟩ := blk_cell (i := 1) (HR6.out)
        obtain ⟨x2, f2⟩ := blk_cell (i := 2) (HR6.out)
        simp at x0 x1 x2
        go_wp2
        refine bodyPost_ret (results_cell3 rfl _ _ (w.heap.size + 2) 41 _ (0, 0) _ rfl (set3_blk HR6.out) Tryz.underlying41 rfl (by kernel_rfl)) rfl ?_
        exact DoOut.ok (HX.out.trans (by first | (simp; done) | simp [thereB])) (do_end HI6.out (by have := hsz.out; omega) (by have := hsz.out; omega) _ _ _) (below3 HW6.out (by omega) _ _ _)
      · obtain ⟨z0, g0⟩ := blk_cell (i := 0) HC6.out
        simp at z0
        obtain ⟨y0, e0⟩ := blk_cell (i := 0) (HI6.out.blk)
        obtain ⟨y1, e1⟩ := blk_cell (i := 1) (HI6.out.blk)
        obtain ⟨y2, e2⟩ := blk_cell (i := 2) (HI6.out.blk)
        simp at y0 y1 y2
        obtain ⟨x0, f0⟩ := blk_cell (i := 0) (HR6.out)
        obtain ⟨x1, f1⟩ := blk_cell (i := 1) (HR6.out)
        obtain ⟨x2, f2⟩ := blk_cell (i := 2) (HR6.out)
        simp at x0 x1 x2
        go_wp2
        refine bodyPost_ret (results_cell3 rfl _ _ (w.heap.size + 2) 41 _ (0, 0) _ rfl (set3_blk HR6.out) Tryz.underlying41 rfl (by kernel_rfl)) rfl ?_
        exact DoOut.ok (HX.out.trans (by first | (simp; done) | simp [thereB])) (do_end HI6.out (by have := hsz.out; omega) (by have := hsz.out; omega) _ _ _) (below3 HW6.out (by omega) _ _ _)
      · obtain ⟨z0, g0⟩ := blk_cell (i := 0) HC6.out
        simp at z0
        obtain ⟨y0, e0⟩ := blk_cell (i := 0) (HI6.out.blk)
        obtain ⟨y1, e1⟩ := blk_cell (i := 1) (HI6.out.blk)
        obtain ⟨y2, e2⟩ := blk_cell (i := 2) (HI6.out.blk)
        simp at y0 y1 y2
        obtain ⟨x0, f0⟩ := blk_cell (i := 0) (HR6.out)
        obtain ⟨x1, f1⟩ := blk_cell (i := 1) (HR6.out)
        obtain ⟨x2, f2⟩ := blk_cell (i := 2) (HR6.out)
        simp at x0 x1 x2
        go_wp2
        refine bodyPost_ret (results_cell3 rfl _ _ (w.heap.size + 2) 41 _ (0, 0) _ rfl (set3_blk ((set3_ne _ _ _ _ _ (show w.heap.size + 2 ≠ w.heap.size by omega)).trans HR6.out)) Tryz.underlying41 rfl (by kernel_rfl)) rfl ?_
        exact DoOut.ok (o := ObD.none) (HX.out.trans (by first | (simp; done) | simp [thereB])) (Own8.none _ _) (below3 (below3 HW6.out (Nat.le_refl _) _ _ _) (by omega) _ _ _)
      · obtain ⟨k5, k8, k9, k11, k12, k13⟩ := hkk
        have HTB : Hid (thereB false k = false) := by show thereB _ _ = _; simp [thereB, k5, k8, k9, k11, k12, k13]
        rw [HTB.out] at HX
        obtain ⟨p5, r5⟩ := (kne k5).out
        obtain ⟨p8, r8⟩ := (kne k8).out
        obtain ⟨p9, r9⟩ := (kne k9).out
        obtain ⟨p11, r11⟩ := (kne k11).out
        obtain ⟨p12, r12⟩ := (kne k12).out
        obtain ⟨p13, r13⟩ := (kne k13).out
        clear k5 k8 k9 k11 k12 k13
        obtain ⟨z0, g0⟩ := blk_cell (i := 0) HC6.out
        simp at z0
        obtain ⟨y0, e0⟩ := blk_cell (i := 0) (HI6.out.blk)
        obtain ⟨y1, e1⟩ := blk_cell (i := 1) (HI6.out.blk)
        obtain ⟨y2, e2⟩ := blk_cell (i := 2) (HI6.out.blk)
        simp at y0 y1 y2
        obtain ⟨x0, f0⟩ := blk_cell (i := 0) (HR6.out)
        obtain ⟨x1, f1⟩ := blk_cell (i := 1) (HR6.out)
        obtain ⟨x2, f2⟩ := blk_cell (i := 2) (HR6.out)
        simp at x0 x1 x2
        go_wp2
        refine bodyPost_ret (results_cell3 rfl _ _ (w.heap.size + 2) 41 _ (0, 0) _ rfl (set3_blk ((set3_ne _ _ _ _ _ (show w.heap.size + 2 ≠ w.heap.size by omega)).trans HR6.out)) Tryz.underlying41 rfl (by kernel_rfl)) rfl ?_
        exact DoOut.ok (o := ObD.none) (HX.out.trans (by first | (simp; done) | simp [thereB])) (Own8.none _ _) (below3 (below3 HW6.out (Nat.le_refl _) _ _ _) (by omega) _ _ _)
  · have HX : Hid (doG (ObD.none) false ⟨k, off, n, nm, d⟩ = DoR.no ge) := by show doG _ _ _ = _; have := doG_g (o1 := ObD.none) (th := false) (op := ⟨k, off, n, nm, d⟩) (by rw [HG.out]; exact hg0); rw [HG.out] at this; exact this
    rw [if_neg hg0]
    clear hg0
    have has := as_ref k (ge) ⟨w4.heap.size, 0, none⟩ (.int .i64 0) (w4.alloc (.cells #[.int .i64 0] 34)) (HE.out.ext (dcall HW4.out ((Below.refl _ _).alloc (Nat.le_refl _) _))) (by simp) (by simp)
    unfold refE at has ⊢
    have HAS := Lib.hid has
    clear has
    go_wp2_with fail
    refine (HAS.out).mono ?_
    rintro e w5 ⟨rfl, w6, hb6, rfl⟩
    have HR6 := Lib.hid (dblk hb6 (dnew HR4.out _))
    have K6 := Lib.hid (dblk hb6 (heap_alloc_new w4 _))
    have HW6 := Lib.hid (dcall (dcall HW4.out ((Below.refl _ _).alloc (Nat.le_refl _) _)) hb6)
    obtain ⟨w7, hw7⟩ : ∃ w7, w7 = w6.setCell ⟨w4.heap.size, 0, none⟩ (.int .i64 (ge)) := ⟨_, rfl⟩
    rw [← hw7]
    have hlt7 : w.heap.size + 2 < w4.heap.size := (Array.getElem?_eq_some_iff.1 HR4.out).1
    have HR7 := Lib.hid (dset1 hw7 (show w.heap.size + 2 ≠ w4.heap.size by omega) HR6.out)
    have HW7 := Lib.hid (show Below w.heap.size w w7 from by rw [hw7]; exact HW6.out.setCell (show w.heap.size ≤ w4.heap.size by omega) _)
    have K7 := set_blk3 (j := 0) (v := .int .i64 (ge)) K6.out
    rw [← hw7] at K7
    obtain ⟨k0, l0⟩ := blk_cell (i := 0) K7
    simp at k0
    obtain ⟨x0, f0⟩ := blk_cell (i := 0) (HR7.out)
    obtain ⟨x1, f1⟩ := blk_cell (i := 1) (HR7.out)
    obtain ⟨x2, f2⟩ := blk_cell (i := 2) (HR7.out)
    simp at x0 x1 x2
    clear hw7 hb6 K7
    go_wp2
    go_region
    go_wp2
    refine bodyPost_ret (results_cell3 rfl _ _ (w.heap.size + 2) 41 _ (0, 0) _ rfl (set3_blk HR7.out) Tryz.underlying41 rfl (by kernel_rfl)) rfl ?_
    exact DoOut.no HX.out (below3 HW7.out (by omega) _ _ _).drew
set_option maxRecDepth 100000 in
theorem do_any (A B : Nat → Prop) (v : Value) (o : ObD) (th : Bool) (k off n : Int) (nm : ByteArray) (oa : Option Addr) (oc : Nat) (d : List UInt8) (w : World)
    (hv : ObV A w v o) (ho : o.okl) (hd : RB B w (.slice oa d.length oc) d) (hl : d.length ≤ 50000) (hE : ErrT w) :
    Calls Tryz.prog 53 #[v, .bool th, opV k off n nm oa d.length oc] w (DoOut (doB o th ⟨k, off, n, nm, d⟩) w) := by
  cases hm : mayB o with
  | false => exact do_bad A B v o th k off n nm oa oc d w hv ho (.inl hm)
  | true =>
    by_cases h1 : 1 ≤ k
    · by_cases h2 : k ≤ 14
      · rw [doB_good hm h1 h2]
        cases th with
        | true => exact do_t A B v o k off n nm oa oc d w hv hm h1 h2 hd hl hE
        | false => exact do_f A B v o k off n nm oa oc d w hv hm h1 h2 hd hl hE
      · exact do_bad A B v o th k off n nm oa oc d w hv ho (.inr (.inr h2))
    · exact do_bad A B v o th k off n nm oa oc d w hv ho (.inr (.inl h1))
end Go.Proofs.YtohfckkgmijlnaaGreatDoor
