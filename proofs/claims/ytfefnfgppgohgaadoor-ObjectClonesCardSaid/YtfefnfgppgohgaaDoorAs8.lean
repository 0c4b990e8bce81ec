/- errors.As at the refusals of object: Go's own text is walked. -/
import Derived.Test.YtfefnfgppgohgaaDoorIdx8
import Derived.LaidEql
import Derived.Stop.Asserts
import Derived.RowKitTokens
namespace Go.Proofs.YtfefnfgppgohgaaDoor
open Go.RowKit Go.Extern.Stop Go.Stop Go.Extern

/-- the variable errors.errorType holds the handle of the type error -/
def ErrT (w : World) : Prop := w.cell? ⟨0, 0, none⟩ = some (.iface 99 (.agg #[.pointer (some ⟨4, 50, none⟩)]))
/-- the refusal of an op of a kind -/
def refE (kind e : Int) : Value := .iface 93 (.agg #[.int .i64 kind, .int .i64 e])
theorem as_nil (t : Value) (w : World) :
    Calls Tryd.prog 27 #[.nilIface, t] w fun e w' => e = .returned (.bool false) ∧ w' = w := by
  go_enter Tryd.func27, Tryd.ntmps27
  go_wp2
  go_ret
  exact ⟨rfl, rfl⟩
theorem valueOfP (t : Addr) (w : World) : (ReflectliteValue.unpack (.iface 56 (.pointer (some t)))).run Tryd.prog w
    = .ok (.agg #[.pointer (some ⟨4, 56, none⟩), .pointer (some ⟨w.heap.size, 0, none⟩), .int .u64 150]) (w.alloc (.cells #[.pointer (some t)] 56)) := by kernel_rfl
theorem valueOfE (x : Int) (w : World) : (ReflectliteValue.unpack (.iface 30 (.int .i64 x))).run Tryd.prog w
    = .ok (.agg #[.pointer (some ⟨4, 30, none⟩), .pointer (some ⟨w.heap.size, 0, none⟩), .int .u64 130]) (w.alloc (.cells #[.int .i64 x] 30)) := by kernel_rfl
theorem typeP (a : Addr) (w : World) : (ReflectliteValue.methodAny (ReflectliteValue.valueError "reflectlite.Value.Type" 0) (fun t _ _ _ => ReflectliteType.toType t) #[.agg #[.pointer (some ⟨4, 56, none⟩), .pointer (some a), .int .u64 150]]).run Tryd.prog w
    = .ok (.iface 99 (.agg #[.pointer (some ⟨4, 56, none⟩)])) w := by kernel_rfl
theorem kindP (w : World) : ((ReflectliteType.abiMethod fun t => (fun a : Nat => Value.int IntKind.u8 (a : Int)) <$> Rtype.kind t) #[.pointer (some ⟨4, 56, none⟩)]).run Tryd.prog w = .ok (.int .u8 22) w := by kernel_rfl
theorem kindE (w : World) : ((ReflectliteType.abiMethod fun t => (fun a : Nat => Value.int IntKind.u8 (a : Int)) <$> Rtype.kind t) #[.pointer (some ⟨4, 30, none⟩)]).run Tryd.prog w = .ok (.int .u8 2) w := by kernel_rfl
theorem rlm (z : Sem Value) (f : TypeId → Addr → Nat → Nat → Sem Value) (v : Value) :
    ReflectliteValue.method z f #[v] = (do match ← ReflectliteValue.parts v with | none => z | some (t, a, fl) => f t a fl (fl % 32)) := rfl
theorem partsP (a : Addr) (w : World) : (ReflectliteValue.parts (.agg #[.pointer (some ⟨4, 56, none⟩), .pointer (some a), .int .u64 150])).run Tryd.prog w = .ok (some (56, a, 150)) w := by kernel_rfl
theorem isNilP (a p : Addr) (W : World) (ha : W.cell? a = some (.pointer (some p))) :
    (ReflectliteValue.method (ReflectliteValue.valueError "reflectlite.Value.IsNil" 0) ReflectliteValue.isNil #[.agg #[.pointer (some ⟨4, 56, none⟩), .pointer (some a), .int .u64 150]]).run Tryd.prog W = .ok (.bool false) W := by
  rw [rlm]
  simp only [Sem.run_bind, partsP, Result.andThen]
  simp [ReflectliteValue.isNil, loadVar, isAgg, underlying, Tryd.underlying56, ha, Result.andThen]
theorem methodKind (h : Value) (w : World) : (Go.method 265 99 (.agg #[h]) "Kind").run Tryd.prog w = .ok (102, h) w := by kernel_rfl
theorem methodElem (h : Value) (w : World) : (Go.method 265 99 (.agg #[h]) "Elem").run Tryd.prog w = .ok (114, .agg #[h]) w := by kernel_rfl
theorem methodImplements (h : Value) (w : World) : (Go.method 265 99 (.agg #[h]) "Implements").run Tryd.prog w = .ok (115, .agg #[h]) w := by kernel_rfl
theorem methodAssignableTo (h : Value) (w : World) : (Go.method 265 99 (.agg #[h]) "AssignableTo").run Tryd.prog w = .ok (112, .agg #[h]) w := by kernel_rfl
theorem methodUnwrap (a b : Value) (w : World) : (Go.method 265 93 (.agg #[a, b]) "Unwrap").run Tryd.prog w = .ok (110, .agg #[a, b]) w := by kernel_rfl
theorem elemP (w : World) : (ReflectliteType.method ReflectliteType.elem #[.agg #[.pointer (some ⟨4, 56, none⟩)]]).run Tryd.prog w = .ok (.iface 99 (.agg #[.pointer (some ⟨4, 30, none⟩)])) w := by kernel_rfl
theorem implementsE (w : World) : (ReflectliteType.relation "Implements" ReflectliteType.implements_ #[.agg #[.pointer (some ⟨4, 30, none⟩)], .iface 99 (.agg #[.pointer (some ⟨4, 50, none⟩)])]).run Tryd.prog w = .ok (.bool true) w := by kernel_rfl
theorem typeOfE (v : Value) (w : World) : (ReflectliteType.typeOf #[.iface 30 v]).run Tryd.prog w = .ok (.iface 99 (.agg #[.pointer (some ⟨4, 30, none⟩)])) w := by kernel_rfl
theorem typeOfR (v : Value) (w : World) : (ReflectliteType.typeOf #[.iface 93 v]).run Tryd.prog w = .ok (.iface 99 (.agg #[.pointer (some ⟨4, 93, none⟩)])) w := by kernel_rfl
theorem assignE (w : World) : (ReflectliteType.relation "AssignableTo" ReflectliteType.assignableTo #[.agg #[.pointer (some ⟨4, 30, none⟩)], .iface 99 (.agg #[.pointer (some ⟨4, 30, none⟩)])]).run Tryd.prog w = .ok (.bool true) w := by kernel_rfl
theorem assignR (w : World) : (ReflectliteType.relation "AssignableTo" ReflectliteType.assignableTo #[.agg #[.pointer (some ⟨4, 93, none⟩)], .iface 99 (.agg #[.pointer (some ⟨4, 30, none⟩)])]).run Tryd.prog w = .ok (.bool false) w := by kernel_rfl
theorem elemOfP (w : World) : (Rtype.elem? 56).run Tryd.prog w = .ok (some 30) w := by kernel_rfl
theorem mkE (p : Addr) (w : World) : (ReflectliteValue.mk 30 p ReflectliteValue.flagAddr).run Tryd.prog w = .ok (.agg #[.pointer (some ⟨4, 30, none⟩), .pointer (some p), .int .u64 386]) w := by kernel_rfl
theorem elemV (a p : Addr) (W : World) (ha : W.cell? a = some (.pointer (some p))) :
    (ReflectliteValue.method (ReflectliteValue.valueError "reflectlite.Value.Elem" 0) ReflectliteValue.elem #[.agg #[.pointer (some ⟨4, 56, none⟩), .pointer (some a), .int .u64 150]]).run Tryd.prog W
      = .ok (.agg #[.pointer (some ⟨4, 30, none⟩), .pointer (some p), .int .u64 386]) W := by
  rw [rlm]
  simp only [Sem.run_bind, partsP, Result.andThen]
  simp [ReflectliteValue.elem, loadVar, isAgg, underlying, Tryd.underlying56, ha, Result.andThen, elemOfP, mkE]
theorem rls (v x : Value) : ReflectliteValue.set #[v, x] = (do
    let (some (dst, a, fl), some (src, b, _)) := (← ReflectliteValue.parts v, ← ReflectliteValue.parts x)
      | unsupported (.noEntry "extern/(internal/reflectlite.Value).Set.zeroValue")
    if fl / ReflectliteValue.flagAddr % 2 == 0 then unsupported (.noEntry "extern/(internal/reflectlite.Value).Set.unaddressable")
    let val ← loadVar src b
    if ← Rtype.directlyAssignable dst src then storeVar dst a val
    else if ← Rtype.implements dst src then
      if (← Rtype.kind src) == 20 then
        match val with
        | .nilIface => unsupported (.noEntry "extern/reflectlite: a nil value of one interface type handed on as a value of another")
        | _ => storeVar dst a val
      else storeVar dst a (.iface src val)
    else panicString ("reflectlite.Set: value of type " ++ (← Rtype.spelt src) ++ " is not assignable to type " ++ (← Rtype.spelt dst))
    pure (.tuple #[])) := rfl
theorem partsEa (a : Addr) (w : World) : (ReflectliteValue.parts (.agg #[.pointer (some ⟨4, 30, none⟩), .pointer (some a), .int .u64 386])).run Tryd.prog w = .ok (some (30, a, 386)) w := by kernel_rfl
theorem partsE (a : Addr) (w : World) : (ReflectliteValue.parts (.agg #[.pointer (some ⟨4, 30, none⟩), .pointer (some a), .int .u64 130])).run Tryd.prog w = .ok (some (30, a, 130)) w := by kernel_rfl
theorem directE (w : World) : (Rtype.directlyAssignable 30 30).run Tryd.prog w = .ok true w := by kernel_rfl
theorem setE (ta b : Addr) (x : Int) (old : Value) (W : World) (hb : W.cell? b = some (.int .i64 x)) (ht : W.cell? ta = some old) (hf : W.frozen? ta = false) :
    (ReflectliteValue.set #[.agg #[.pointer (some ⟨4, 30, none⟩), .pointer (some ta), .int .u64 386], .agg #[.pointer (some ⟨4, 30, none⟩), .pointer (some b), .int .u64 130]]).run Tryd.prog W
      = .ok (.tuple #[]) (W.setCell ta (.int .i64 x)) := by
  rw [rls]
  simp only [Sem.run_bind, partsEa, partsE, Result.andThen]
  simp [ReflectliteValue.flagAddr, loadVar, isAgg, underlying, Tryd.underlying30, hb, Result.andThen, directE, storeVar, Value.cells, storeCells, Addr.add]
  rw [run_store Tryd.prog W ta _ _ (by rfl)]
  simp [ht, hf]
theorem noAsR (v : Value) (xT : TypeId) (w : World) : (Instr.typeAssert (.iface 93 v) xT 104 true).run Tryd.prog w = .ok (.tuple #[.nilIface, .bool false]) w := run_typeAssert_lacksB Tryd.underlying104 (by kernel_rfl) (by kernel_rfl) v xT w
theorem hasUnwrapR (v : Value) (xT : TypeId) (w : World) : (Instr.typeAssert (.iface 93 v) xT 107 true).run Tryd.prog w = .ok (.tuple #[.iface 93 v, .bool true]) w := run_typeAssert_hasB Tryd.underlying107 (by kernel_rfl) v xT w
set_option maxHeartbeats 800000 in
theorem unwrap_any (k e : Int) (w : World) : Calls Tryd.prog 110 #[.agg #[.int .i64 k, .int .i64 e]] w fun r w' => r = .returned (.iface 30 (.int .i64 e)) ∧ w' = w.alloc (.cells #[.int .i64 k, .int .i64 e] 93) := by
  go_enter Tryd.func110, Tryd.ntmps110
  go_wp2
  go_ret
  exact ⟨rfl, rfl⟩
end Go.Proofs.YtfefnfgppgohgaaDoor
