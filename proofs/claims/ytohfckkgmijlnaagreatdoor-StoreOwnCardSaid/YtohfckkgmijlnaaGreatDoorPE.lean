/- The walk of slices.Delete at keys: one key out of a row of the call's own. errors.As at the refusals of object: Go's own text is walked. -/
import Derived.Test.YtohfckkgmijlnaaGreatDoorIns8
import Derived.ArgAppend
import Derived.Deep.RegionLaw
import Derived.Test.YtohfckkgmijlnaaGreatDoorPC
import Derived.LaidEql
import Derived.Stop.Asserts
import Derived.RowKitTokens
namespace Go.Proofs.YtohfckkgmijlnaaGreatDoor
open Go.RowKit Go.WideShapes Go.Lib

section
variable {P : Program}
/-- append where there is room, elements of two cells, the row known whole; one step of a region that draws its order -/
theorem step_append_fr2 {ops : Array Oper} {o : Oper} {a : Act} {w : World} {K : Act → World → Prop} {Q : Exit → Act → World → Prop} {E : Prop}
    (hgd : o.guard = none) (s x : Operand) (t : TypeId) (hop : o.op = Op.call { callee := Callee.builtin Builtin.append, args := #[s, x], argTypes := #[t, t] })
    (e : TypeId) (i : TypeInfo) (h1 : P.underlying t = some (.slice e)) (h2 : P.info? e = some i) (h4 : i.size = 2)
    (g n cap : Nat) (hs : a.eval s = .slice (some ⟨g, 0, none⟩) n cap)
    (ad : Addr) (m c : Nat) (news : List Value) (hx : a.eval x = .slice (some ad) m c) (hn : news.length = m * 2) (hc : ∀ j u, news[j]? = some u → w.cell? (ad.add j) = some u) (h1c : ∀ u ∈ news, u.oneCell' = true)
    (hroom : n + m ≤ cap) (cur : List Value) (tt : TypeId) (hg : w.heap[g]? = some (.cells cur.toArray tt (0, 0))) (hfit : n * 2 + news.length ≤ cur.length)
    (hK : ∀ w', Hid (w'.heap[g]? = some (.cells (splice cur (n * 2) news).toArray tt (0, 0))) → Hid (Fr (fun k => k = g) w w') → K (a.put o.dst (.slice (some ⟨g, 0, none⟩) (n + m) cap)) w') :
    if Region.wanted o (yielded ops a.tmps) = true then Oper.wp P o a w K Q else E := by
  have hw : Region.wanted o (yielded ops a.tmps) = true := by simp [Region.wanted, hgd]
  rw [if_pos hw]
  have hfc := run_firstCells_some (P := P) w 2 m ad m c news hn hc
  have hst := run_storeCells_at P g (n * 2) tt news 0 cur.toArray w hg (by simpa using hfit) h1c
  simp only [Nat.add_zero] at hst
  have hrun : (Builtin.append_ #[t, t] o.type #[.slice (some ⟨g, 0, none⟩) n cap, .slice (some ad) m c]).run P w = .ok (.slice (some ⟨g, 0, none⟩) (n + m) cap) (w.setRow g (cur.take (n * 2) ++ news ++ cur.drop (n * 2 + news.length)).toArray) := by
    simp [Builtin.append_, run_underlying h1, sizeOf, typeInfo, h2, h4, Builtin.lenOf, hroom, hfc, Addr.add_lit, hst]
  unfold Oper.wp
  simp [execOp, hop, resolve, invoke, builtin, hs, hx, hrun, Result.andThen]
  exact hK _ (show _ = _ by simpa [splice] using setRow_heap w g _ _ tt _ hg) (setRow_fr _ _ _)
theorem run_clear_fr2 (w : World) (t e ty : TypeId) (z : Value) (ht : P.underlying t = some (.slice e)) (hv : ∀ w, (zeroValue e).run P w = .ok z w) (hz : z.cells.size = 2) (h1 : ∀ v ∈ (Builtin.zeroCells z.cells 1).toList, v.oneCell' = true) (g o c : Nat) (cur : List Value) (tt : TypeId)
    (hg : w.heap[g]? = some (.cells cur.toArray tt (0, 0))) (hfit : o + 2 ≤ cur.length) :
    (Builtin.clear_ #[t] ty #[.slice (some ⟨g, o, none⟩) 1 c]).run P w = .ok (.tuple #[]) (w.setRow g (splice cur o (Builtin.zeroCells z.cells 1).toList).toArray) := by
  have hl : (Builtin.zeroCells z.cells 1).toList.length = 2 := by rw [Array.length_toList, zc_size _ _ hz]
  have hst := run_storeCells_at P g o tt (Builtin.zeroCells z.cells 1).toList 0 cur.toArray w hg (by rw [hl]; simpa using hfit) h1
  simp only [Nat.add_zero] at hst
  simp only [splice, ← List.append_assoc]
  simp [Builtin.clear_, run_underlying ht, hv, hst]
end
theorem zero_key (w : World) : (zeroValue 62).run Tryz.prog w = .ok (.agg #[.string ByteArray.empty, .slice none 0 0]) w := by kernel_rfl
theorem del_splice {α : Type} (L xs Z : List α) (p q : Nat) (hpq : p ≤ q) (hq : q ≤ xs.length) (hx : L.take xs.length = xs) (hL : xs.length ≤ L.length) (hz : Z.length ≤ q - p) :
    (splice (splice L p (xs.drop q)) (xs.length - (q - p)) Z).take (xs.length - (q - p)) = xs.take p ++ xs.drop q := by
  have e1 : (splice L p (xs.drop q)).take (xs.length - (q - p)) = xs.take p ++ xs.drop q := by
    unfold splice
    have e : L.take p = xs.take p := by rw [← hx, List.take_take]; congr 1; omega
    rw [e, ← List.append_assoc, List.take_append_of_le_length (by simp; omega)]
    exact List.take_of_length_le (by simp; omega)
  have hll : (splice L p (xs.drop q)).length = L.length := splice_len _ _ _ (by simp; omega)
  rw [splice, List.take_append_of_le_length (by rw [List.length_take, hll]; omega), List.take_take, Nat.min_self, e1]
theorem zc_list : (Builtin.zeroCells (Value.agg #[.string ByteArray.empty, .slice none 0 0]).cells 1).toList = [.string ByteArray.empty, .slice none 0 0] := by kernel_rfl
theorem zc_one : ∀ v ∈ (Builtin.zeroCells (Value.agg #[.string ByteArray.empty, .slice none 0 0]).cells 1).toList, v.oneCell' = true := by
  rw [zc_list]
  intro v hv
  simp at hv
  rcases hv with rfl | rfl <;> rfl
def DelR (base g n c : Nat) (xs : List Value) (i : Nat) (w : World) (e : Ending) (w' : World) : Prop :=
  e = .returned (.slice (some ⟨g, 0, none⟩) (n - 1) c) ∧ w'.ownsRow base 62 2 (.slice (some ⟨g, 0, none⟩) (n - 1) c) (n - 1) (xs.take (i * 2) ++ xs.drop ((i + 1) * 2)) ∧ Fr (fun k => k = g) w w'
set_option maxHeartbeats 4000000 in
set_option maxRecDepth 100000 in
theorem delete_any (base g n c i : Nat) (xs : List Value) (w : World) (ho : w.ownsRow base 62 2 (.slice (some ⟨g, 0, none⟩) n c) n xs) (hi : i < n) (h1 : ∀ v ∈ xs, v.oneCell' = true) :
    Calls Tryz.prog 87 #[.slice (some ⟨g, 0, none⟩) n c, .int .i64 i, .int .i64 ((i : Int) + 1)] w (DelR base g n c xs i w) := by
  obtain ⟨i0, hi0, hz0, hz1, hz2⟩ := info_parts infoKey
  obtain ⟨hxl, ⟨e, -⟩ | ⟨g', c', cur, e, hbg, hg, hnc, hcm, hcs, hxs⟩⟩ := ho
  · simp at e
  · simp only [Value.slice.injEq, Option.some.injEq, Addr.mk.injEq] at e
    obtain ⟨⟨rfl, -⟩, -, rfl⟩ := e
    have hcell : ∀ j u, xs[j]? = some u → w.cell? ⟨g, j, none⟩ = some u := by
      intro j u hj
      have hjl := (List.getElem?_eq_some_iff.1 hj).1
      rw [← hxs, List.getElem?_take, if_pos (by omega)] at hj
      rw [(blk_cell hg).1, ← Array.getElem?_toList]
      exact hj
    obtain ⟨D, hD⟩ : ∃ D, D = xs.drop ((i + 1) * 2) := ⟨_, rfl⟩
    have HDX := Lib.hid hD
    have HD : Hid (D.length = (n - (i + 1)) * 2) := by show List.length _ = _; rw [hD, List.length_drop, hxl]; omega
    have H1D : Hid (∀ v ∈ D, v.oneCell' = true) := by show ∀ v ∈ D, _; rw [hD]; exact fun v hv => h1 v (List.mem_of_mem_drop hv)
    have G1 : Hid (w.drew.heap[g]? = some (.cells cur.toList.toArray 62 (0, 0))) := (show w.drew.heap[g]? = _ from hg.trans (by simp))
    have F1 : Hid (i * 2 + D.length ≤ cur.toList.length) := by show _ ≤ _; rw [HD.out]; simp; omega
    have HXL := Lib.hid hxl
    have HI := fun Z hZ => Lib.hid (del_splice cur.toList xs Z (i * 2) ((i + 1) * 2) (by omega) (by omega) (by rw [hxl]; exact hxs) (by simp; omega) hZ)
    have HZ := Lib.hid hz1
    have HI0 := Lib.hid hi0
    have S1 : Hid (∀ j v, D[j]? = some v → w.drew.cell? ((⟨g, (i + 1) * 2, none⟩ : Addr).add j) = some v) := by
      show ∀ j v, _
      intro j v hj
      rw [hD, List.getElem?_drop] at hj
      rw [add_plain]
      exact hcell _ v hj
    have S2 : Hid (n = i + 1 → ∀ j v, D[j]? = some v → w.drew.cell? ((⟨g, 0, none⟩ : Addr).add j) = some v) := by
      show n = i + 1 → _
      intro hn j v hj
      have := (List.getElem?_eq_some_iff.1 hj).1
      rw [HD.out] at this
      omega
    have L1 : Hid ((splice cur.toList (i * 2) D).length = c * 2) := by show List.length _ = _; rw [splice_len _ _ _ F1.out]; simpa using hcs
    have hcm' : c ≤ 9223372036854775807 := by unfold maxLen at hcm; exact hcm
    have hw1 : IntKind.i64.wrap ((i : Int) + 1) = (i : Int) + 1 := by rw [IntKind.wrap_i64]; omega
    have hb1 : (0 : Int) ≤ (i : Int) + 1 := by omega
    have htn : ((i : Int) + 1).toNat = i + 1 := by omega
    have hne : ¬ ((i : Int) = (i : Int) + 1) := by omega
    have hnn : i + (n - (i + 1)) = n - 1 := by omega
    have hci : ¬ (c = i) := by omega
    have HC := Lib.hid hcs
    clear hcs hxs hg hxl hD h1 hcell hi0 hz0 hz1 hz2
    have HNC := Lib.hid hnc
    have hle : (i : Int) ≤ (i : Int) + 1 := by omega
    by_cases hcc : c = i + 1
    · obtain rfl : n = i + 1 := by omega
      subst hcc
      have S3 := Lib.hid (S2.out rfl)
      clear S1 S2
      go_enter Tryz.func87, Tryz.ntmps87
      go_wp2
      go_region_law (refine step_append_fr2 rfl (.tmp 22) (.tmp 25) 39 rfl 62 i0 Tryz.underlying39 HI0.out HZ.out g i (i + 1) (by simp [Act.eval, Act.put]) ⟨g, 0, none⟩ (0) (0) D (by simp [Act.eval, Act.put]) (HD.out.trans (by simp)) S3.out H1D.out (by omega) cur.toList 62 G1.out F1.out ?_; intro w4 hg4 hf4)
      obtain ⟨w5, hw5⟩ : ∃ w5, w5 = w4.setRow g (splice (splice cur.toList (i * 2) D) (i * 2) (Builtin.zeroCells (Value.agg #[.string ByteArray.empty, .slice none 0 0]).cells 1).toList).toArray := ⟨_, rfl⟩
      have CL : ∀ ty, (Builtin.clear_ #[39] ty #[.slice (some ⟨g, i * 2, none⟩) 1 (1)]).run Tryz.prog w4 = .ok (.tuple #[]) w5 := fun ty => by
        rw [hw5]
        exact run_clear_fr2 w4 39 62 ty _ Tryz.underlying39 zero_key rfl zc_one g (i * 2) _ _ 62 hg4.out (by rw [L1.out]; omega)
      have HG5 : Hid (w5.heap[g]? = some (.cells (splice (splice cur.toList (i * 2) D) (i * 2) (Builtin.zeroCells (Value.agg #[.string ByteArray.empty, .slice none 0 0]).cells 1).toList).toArray 62 (0, 0))) := by
        show w5.heap[g]? = _
        rw [hw5]
        exact setRow_heap w4 g _ _ _ _ hg4.out
      have HF5 : Hid (Fr (fun k => k = g) w w5) := by
        show Fr _ _ _
        rw [hw5]
        exact Fr.trans (S := fun k => k = g) (T := fun k => k = g) (Fr.trans (S := fun k => k = g) (T := fun k => k = g) (Fr.refl _ w).drew hf4.out (fun _ _ h => h)) (setRow_fr _ _ _) (fun _ _ h => h)
      clear hw5 hg4 hf4
      go_wp2
      go_ret
      have hh := (HI (Builtin.zeroCells (Value.agg #[.string ByteArray.empty, .slice none 0 0]).cells 1).toList (by rw [zc_list]; simp; omega)).out
      rw [HXL.out, ← HDX.out, show (i + 1) * 2 - ((i + 1) * 2 - i * 2) = (i * 2) by omega] at hh
      refine ⟨rfl, ⟨?_, .inr ⟨g, _, _, rfl, hbg, HG5.out, by omega, by unfold maxLen; omega, ?_, ?_⟩⟩, HF5.out⟩
      · simp only [List.length_append, List.length_take, List.length_drop, HXL.out]; omega
      · simp only [List.size_toArray]
        rw [splice_len _ _ _ (by rw [L1.out, zc_list]; simp; omega), L1.out]
      · rw [← HDX.out, show (i + 1 - 1) * 2 = (i * 2) by omega]
        simpa using hh
    · have S3 := Lib.hid S1.out
      clear S1 S2
      have hnn2 : i + (n - (i + 1)) = n - 1 := by omega
      have HNN := Lib.hid hnn2
      have hi2 : (i : Int) + 1 ≤ n := by omega
      have hic : i ≤ c := by omega
      have hic2 : i + 1 ≤ c := by omega
      have hnc2 : (n : Int) ≤ c := by omega
      have hcast : ((n - 1 : Nat) : Int) ≤ n := by omega
      have hc1 : ¬ c = n - 1 := by omega
      have hsub : n - (n - 1) = 1 := by omega
      clear hnn2 hnn
      go_enter Tryz.func87, Tryz.ntmps87
      go_wp2
      go_region_law (refine step_append_fr2 rfl (.tmp 22) (.tmp 25) 39 rfl 62 i0 Tryz.underlying39 HI0.out HZ.out g i (c) (by simp [Act.eval, Act.put]) ⟨g, (i + 1) * 2, none⟩ (n - (i + 1)) (c - (i + 1)) D (by simp [Act.eval, Act.put]) HD.out S3.out H1D.out (by omega) cur.toList 62 G1.out F1.out ?_; intro w4 hg4 hf4)
      rw [HNN.out]
      obtain ⟨w5, hw5⟩ : ∃ w5, w5 = w4.setRow g (splice (splice cur.toList (i * 2) D) ((n - 1) * 2) (Builtin.zeroCells (Value.agg #[.string ByteArray.empty, .slice none 0 0]).cells 1).toList).toArray := ⟨_, rfl⟩
      have CL : ∀ ty, (Builtin.clear_ #[39] ty #[.slice (some ⟨g, (n - 1) * 2, none⟩) 1 (c - (n - 1))]).run Tryz.prog w4 = .ok (.tuple #[]) w5 := fun ty => by
        rw [hw5]
        exact run_clear_fr2 w4 39 62 ty _ Tryz.underlying39 zero_key rfl zc_one g ((n - 1) * 2) _ _ 62 hg4.out (by rw [L1.out]; omega)
      have HG5 : Hid (w5.heap[g]? = some (.cells (splice (splice cur.toList (i * 2) D) ((n - 1) * 2) (Builtin.zeroCells (Value.agg #[.string ByteArray.empty, .slice none 0 0]).cells 1).toList).toArray 62 (0, 0))) := by
        show w5.heap[g]? = _
        rw [hw5]
        exact setRow_heap w4 g _ _ _ _ hg4.out
      have HF5 : Hid (Fr (fun k => k = g) w w5) := by
        show Fr _ _ _
        rw [hw5]
        exact Fr.trans (S := fun k => k = g) (T := fun k => k = g) (Fr.trans (S := fun k => k = g) (T := fun k => k = g) (Fr.refl _ w).drew hf4.out (fun _ _ h => h)) (setRow_fr _ _ _) (fun _ _ h => h)
      clear hw5 hg4 hf4
      go_wp2
      go_ret
      have hh := (HI (Builtin.zeroCells (Value.agg #[.string ByteArray.empty, .slice none 0 0]).cells 1).toList (by rw [zc_list]; simp; omega)).out
      rw [HXL.out, ← HDX.out, show (n) * 2 - ((i + 1) * 2 - i * 2) = ((n - 1) * 2) by omega] at hh
      refine ⟨rfl, ⟨?_, .inr ⟨g, _, _, rfl, hbg, HG5.out, by omega, by unfold maxLen; omega, ?_, ?_⟩⟩, HF5.out⟩
      · simp only [List.length_append, List.length_take, List.length_drop, HXL.out]; omega
      · simp only [List.size_toArray]
        rw [splice_len _ _ _ (by rw [L1.out, zc_list]; simp; omega), L1.out]
      · rw [← HDX.out, show (n - 1) * 2 = ((n - 1) * 2) by omega]
        simpa using hh
end Go.Proofs.YtohfckkgmijlnaaGreatDoor
namespace Go.Proofs.YtohfckkgmijlnaaGreatDoor
open Go.RowKit Go.Extern.Stop Go.Stop Go.Extern

/-- the variable errors.errorType holds the handle of the type error -/
def ErrT (w : World) : Prop := w.cell? ⟨0, 0, none⟩ = some (.iface 126 (.agg #[.pointer (some ⟨4, 83, none⟩)]))
/-- the refusal of an op of a kind -/
def refE (kind e : Int) : Value := .iface 176 (.agg #[.int .i64 kind, .int .i64 e])
theorem as_nil (t : Value) (w : World) :
    Calls Tryz.prog 38 #[.nilIface, t] w fun e w' => e = .returned (.bool false) ∧ w' = w := by
  go_enter Tryz.func38, Tryz.ntmps38
  go_wp2
  go_ret
  exact ⟨rfl, rfl⟩
theorem valueOfP (t : Addr) (w : World) : (ReflectliteValue.unpack (.iface 89 (.pointer (some t)))).run Tryz.prog w
    = .ok (.agg #[.pointer (some ⟨4, 89, none⟩), .pointer (some ⟨w.heap.size, 0, none⟩), .int .u64 150]) (w.alloc (.cells #[.pointer (some t)] 89)) := by kernel_rfl
theorem valueOfE (x : Int) (w : World) : (ReflectliteValue.unpack (.iface 34 (.int .i64 x))).run Tryz.prog w
    = .ok (.agg #[.pointer (some ⟨4, 34, none⟩), .pointer (some ⟨w.heap.size, 0, none⟩), .int .u64 130]) (w.alloc (.cells #[.int .i64 x] 34)) := by kernel_rfl
theorem typeP (a : Addr) (w : World) : (ReflectliteValue.methodAny (ReflectliteValue.valueError "reflectlite.Value.Type" 0) (fun t _ _ _ => ReflectliteType.toType t) #[.agg #[.pointer (some ⟨4, 89, none⟩), .pointer (some a), .int .u64 150]]).run Tryz.prog w
    = .ok (.iface 126 (.agg #[.pointer (some ⟨4, 89, none⟩)])) w := by kernel_rfl
theorem kindP (w : World) : ((ReflectliteType.abiMethod fun t => (fun a : Nat => Value.int IntKind.u8 (a : Int)) <$> Rtype.kind t) #[.pointer (some ⟨4, 89, none⟩)]).run Tryz.prog w = .ok (.int .u8 22) w := by kernel_rfl
theorem kindE (w : World) : ((ReflectliteType.abiMethod fun t => (fun a : Nat => Value.int IntKind.u8 (a : Int)) <$> Rtype.kind t) #[.pointer (some ⟨4, 34, none⟩)]).run Tryz.prog w = .ok (.int .u8 2) w := by kernel_rfl
theorem rlm (z : Sem Value) (f : TypeId → Addr → Nat → Nat → Sem Value) (v : Value) :
    ReflectliteValue.method z f #[v] = (do match ← ReflectliteValue.parts v with | none => z | some (t, a, fl) => f t a fl (fl % 32)) := rfl
theorem partsP (a : Addr) (w : World) : (ReflectliteValue.parts (.agg #[.pointer (some ⟨4, 89, none⟩), .pointer (some a), .int .u64 150])).run Tryz.prog w = .ok (some (89, a, 150)) w := by kernel_rfl
theorem isNilP (a p : Addr) (W : World) (ha : W.cell? a = some (.pointer (some p))) :
    (ReflectliteValue.method (ReflectliteValue.valueError "reflectlite.Value.IsNil" 0) ReflectliteValue.isNil #[.agg #[.pointer (some ⟨4, 89, none⟩), .pointer (some a), .int .u64 150]]).run Tryz.prog W = .ok (.bool false) W := by
  rw [rlm]
  simp only [Sem.run_bind, partsP, Result.andThen]
  simp [ReflectliteValue.isNil, loadVar, isAgg, underlying, Tryz.underlying89, ha, Result.andThen]
theorem methodKind (h : Value) (w : World) : (Go.method 332 126 (.agg #[h]) "Kind").run Tryz.prog w = .ok (149, h) w := by kernel_rfl
theorem methodElem (h : Value) (w : World) : (Go.method 332 126 (.agg #[h]) "Elem").run Tryz.prog w = .ok (160, .agg #[h]) w := by kernel_rfl
theorem methodImplements (h : Value) (w : World) : (Go.method 332 126 (.agg #[h]) "Implements").run Tryz.prog w = .ok (161, .agg #[h]) w := by kernel_rfl
theorem methodAssignableTo (h : Value) (w : World) : (Go.method 332 126 (.agg #[h]) "AssignableTo").run Tryz.prog w = .ok (158, .agg #[h]) w := by kernel_rfl
theorem methodUnwrap (a b : Value) (w : World) : (Go.method 332 176 (.agg #[a, b]) "Unwrap").run Tryz.prog w = .ok (169, .agg #[a, b]) w := by kernel_rfl
theorem elemP (w : World) : (ReflectliteType.method ReflectliteType.elem #[.agg #[.pointer (some ⟨4, 89, none⟩)]]).run Tryz.prog w = .ok (.iface 126 (.agg #[.pointer (some ⟨4, 34, none⟩)])) w := by kernel_rfl
theorem implementsE (w : World) : (ReflectliteType.relation "Implements" ReflectliteType.implements_ #[.agg #[.pointer (some ⟨4, 34, none⟩)], .iface 126 (.agg #[.pointer (some ⟨4, 83, none⟩)])]).run Tryz.prog w = .ok (.bool true) w := by kernel_rfl
theorem typeOfE (v : Value) (w : World) : (ReflectliteType.typeOf #[.iface 34 v]).run Tryz.prog w = .ok (.iface 126 (.agg #[.pointer (some ⟨4, 34, none⟩)])) w := by kernel_rfl
theorem typeOfR (v : Value) (w : World) : (ReflectliteType.typeOf #[.iface 176 v]).run Tryz.prog w = .ok (.iface 126 (.agg #[.pointer (some ⟨4, 176, none⟩)])) w := by kernel_rfl
theorem assignE (w : World) : (ReflectliteType.relation "AssignableTo" ReflectliteType.assignableTo #[.agg #[.pointer (some ⟨4, 34, none⟩)], .iface 126 (.agg #[.pointer (some ⟨4, 34, none⟩)])]).run Tryz.prog w = .ok (.bool true) w := by kernel_rfl
theorem assignR (w : World) : (ReflectliteType.relation "AssignableTo" ReflectliteType.assignableTo #[.agg #[.pointer (some ⟨4, 176, none⟩)], .iface 126 (.agg #[.pointer (some ⟨4, 34, none⟩)])]).run Tryz.prog w = .ok (.bool false) w := by kernel_rfl
theorem elemOfP (w : World) : (Rtype.elem? 89).run Tryz.prog w = .ok (some 34) w := by kernel_rfl
theorem mkE (p : Addr) (w : World) : (ReflectliteValue.mk 34 p ReflectliteValue.flagAddr).run Tryz.prog w = .ok (.agg #[.pointer (some ⟨4, 34, none⟩), .pointer (some p), .int .u64 386]) w := by kernel_rfl
theorem elemV (a p : Addr) (W : World) (ha : W.cell? a = some (.pointer (some p))) :
    (ReflectliteValue.method (ReflectliteValue.valueError "reflectlite.Value.Elem" 0) ReflectliteValue.elem #[.agg #[.pointer (some ⟨4, 89, none⟩), .pointer (some a), .int .u64 150]]).run Tryz.prog W
      = .ok (.agg #[.pointer (some ⟨4, 34, none⟩), .pointer (some p), .int .u64 386]) W := by
  rw [rlm]
  simp only [Sem.run_bind, partsP, Result.andThen]
  simp [ReflectliteValue.elem, loadVar, isAgg, underlying, Tryz.underlying89, ha, Result.andThen, elemOfP, mkE]
theorem rls (v x : Value) : ReflectliteValue.set #[v, x] = (do
    let (some (dst, a, fl), some (src, b, _)) := (← ReflectliteValue.parts v, ← ReflectliteValue.parts x)
      | unsupported (.noEntry "extern/(internal/reflectlite.Value).Set.zeroValue")
    if fl / ReflectliteValue.flagAddr % 2 == 0 then unsupported (.noEntry "extern/(internal/reflectlite.Value).Set.unaddressable")
    let val ← loadVar src b
    if ← Rtype.directlyAssignable dst src then storeVar dst a val
    else if ← Rtype.implements dst src then
      if (← Rtype.kind src) == 20 then
        match val with
        | .nilIface => unsupported (.noEntry "extern/reflectlite: a nil value of one interface type handed on as a value of another")
        | _ => storeVar dst a val
      else storeVar dst a (.iface src val)
    else panicString ("reflectlite.Set: value of type " ++ (← Rtype.spelt src) ++ " is not assignable to type " ++ (← Rtype.spelt dst))
    pure (.tuple #[])) := rfl
theorem partsEa (a : Addr) (w : World) : (ReflectliteValue.parts (.agg #[.pointer (some ⟨4, 34, none⟩), .pointer (some a), .int .u64 386])).run Tryz.prog w = .ok (some (34, a, 386)) w := by kernel_rfl
theorem partsE (a : Addr) (w : World) : (ReflectliteValue.parts (.agg #[.pointer (some ⟨4, 34, none⟩), .pointer (some a), .int .u64 130])).run Tryz.prog w = .ok (some (34, a, 130)) w := by kernel_rfl
theorem directE (w : World) : (Rtype.directlyAssignable 34 34).run Tryz.prog w = .ok true w := by kernel_rfl
theorem setE (ta b : Addr) (x : Int) (old : Value) (W : World) (hb : W.cell? b = some (.int .i64 x)) (ht : W.cell? ta = some old) (hf : W.frozen? ta = false) :
    (ReflectliteValue.set #[.agg #[.pointer (some ⟨4, 34, none⟩), .pointer (some ta), .int .u64 386], .agg #[.pointer (some ⟨4, 34, none⟩), .pointer (some b), .int .u64 130]]).run Tryz.prog W
      = .ok (.tuple #[]) (W.setCell ta (.int .i64 x)) := by
  rw [rls]
  simp only [Sem.run_bind, partsEa, partsE, Result.andThen]
  simp [ReflectliteValue.flagAddr, loadVar, isAgg, underlying, Tryz.underlying34, hb, Result.andThen, directE, storeVar, Value.cells, storeCells, Addr.add]
  rw [run_store Tryz.prog W ta _ _ (by rfl)]
  simp [ht, hf]
theorem noAsR (v : Value) (xT : TypeId) (w : World) : (Instr.typeAssert (.iface 176 v) xT 138 true).run Tryz.prog w = .ok (.tuple #[.nilIface, .bool false]) w := run_typeAssert_lacksB Tryz.underlying138 (by kernel_rfl) (by kernel_rfl) v xT w
theorem hasUnwrapR (v : Value) (xT : TypeId) (w : World) : (Instr.typeAssert (.iface 176 v) xT 131 true).run Tryz.prog w = .ok (.tuple #[.iface 176 v, .bool true]) w := run_typeAssert_hasB Tryz.underlying131 (by kernel_rfl) v xT w
set_option maxHeartbeats 800000 in
theorem unwrap_any (k e : Int) (w : World) : Calls Tryz.prog 169 #[.agg #[.int .i64 k, .int .i64 e]] w fun r w' => r = .returned (.iface 34 (.int .i64 e)) ∧ w' = w.alloc (.cells #[.int .i64 k, .int .i64 e] 176) := by
  go_enter Tryz.func169, Tryz.ntmps169
  go_wp2
  go_ret
  exact ⟨rfl, rfl⟩
end Go.Proofs.YtohfckkgmijlnaaGreatDoor
