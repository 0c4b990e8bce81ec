/- How a request's cells stand while its numbers are read. -/
import Derived.Test.YtidikciankcopaaDoorUnq
import Derived.Deep.DrawnRows
import Derived.Laws.BytesArg
namespace Go.Proofs.YtidikciankcopaaDoor
open Go.RowKit Go.WideShapes
attribute [local go_sem ↓] Go.wp_at_zero Go.wp_at_succ

/-- a request's cells where so many of its numbers have been read -/
def qcells (ns : List Nat) (k : Nat) : Array Value := ((ns.take k).map (fun n : Nat => Value.int .i64 n) ++ List.replicate (7 - k) (Value.int .i64 0) ++ [Value.string ByteArray.empty, Value.slice none 0 0]).toArray
theorem qcells_step (ns : List Nat) (k : Nat) (hn : ns.length = 7) (hk : k < 7) : (qcells ns k).setIfInBounds k (.int .i64 (ns[k]'(by omega) : Nat)) = qcells ns (k + 1) := by
  match ns, hn with
  | [a, b, c, d, e, f, g], _ =>
    obtain rfl | rfl | rfl | rfl | rfl | rfl | rfl : k = 0 ∨ k = 1 ∨ k = 2 ∨ k = 3 ∨ k = 4 ∨ k = 5 ∨ k = 6 := by omega
    all_goals rfl
theorem qcells_at (ns : List Nat) (k : Nat) (hn : ns.length = 7) (hk : k < 7) : (qcells ns k)[k]? = some (.int .i64 0) := by
  match ns, hn with
  | [a, b, c, d, e, f, g], _ =>
    obtain rfl | rfl | rfl | rfl | rfl | rfl | rfl : k = 0 ∨ k = 1 ∨ k = 2 ∨ k = 3 ∨ k = 4 ∨ k = 5 ∨ k = 6 := by omega
    all_goals rfl
def fcells (q : Nat) : Array Value := #[.pointer (some ⟨q, 0, none⟩), .int .i64 1, .pointer (some ⟨q, 1, none⟩), .int .i64 4, .pointer (some ⟨q, 2, none⟩), .int .i64 6, .pointer (some ⟨q, 3, none⟩), .int .i64 1, .pointer (some ⟨q, 4, none⟩), .int .i64 1, .pointer (some ⟨q, 5, none⟩), .int .i64 1, .pointer (some ⟨q, 6, none⟩), .int .i64 6]
theorem fcells_at (q k : Nat) (hk : k < 7) : (fcells q)[k * 2]? = some (.pointer (some ⟨q, k, none⟩)) ∧ (fcells q)[k * 2 + 1]? = some (.int .i64 (wsQ[k]'(by simpa [wsQ] using hk) : Nat)) := by
  obtain rfl | rfl | rfl | rfl | rfl | rfl | rfl : k = 0 ∨ k = 1 ∨ k = 2 ∨ k = 3 ∨ k = 4 ∨ k = 5 ∨ k = 6 := by omega
  all_goals exact ⟨rfl, rfl⟩
theorem wsQ_b (k : Nat) (hk : k < wsQ.length) : 1 ≤ wsQ[k] ∧ wsQ[k] ≤ 7 := by
  have : k < 7 := hk
  obtain rfl | rfl | rfl | rfl | rfl | rfl | rfl : k = 0 ∨ k = 1 ∨ k = 2 ∨ k = 3 ∨ k = 4 ∨ k = 5 ∨ k = 6 := by omega
  all_goals simp [wsQ]
theorem rdNums_prefix (ws : List Nat) (r : Rd) (k : Nat) : (rdNums (ws.take k) r).1 = (rdNums ws r).1.take k := by
  have h : ∀ (ws : List Nat) (s : List Nat × Rd) (k : Nat), ((ws.take k).foldl rdStep s).1 = (ws.foldl rdStep s).1.take (s.1.length + k) := by
    intro ws
    induction ws with
    | nil =>
      intro s k
      simp [List.take_of_length_le]
    | cons w ws ih =>
      intro s k
      cases k with
      | zero =>
        have hp : ∀ (ws : List Nat) (s : List Nat × Rd), (ws.foldl rdStep s).1.take s.1.length = s.1 := by
          intro ws
          induction ws with
          | nil => intro s; simp
          | cons w ws ih =>
            intro s
            rw [List.foldl_cons]
            have := ih (rdStep s w)
            have h2 := congrArg (List.take s.1.length) this
            rw [List.take_take] at h2
            have e : min s.1.length (rdStep s w).1.length = s.1.length := by simp [rdStep]
            rw [e] at h2
            rw [h2]
            simp [rdStep]
        simpa using (hp (w :: ws) s).symm
      | succ k =>
        rw [List.take_succ_cons, List.foldl_cons, List.foldl_cons, ih]
        congr 1
        simp [rdStep]
        omega
  simpa [rdNums] using h ws ([], r) k
theorem last_is {P ns : List Nat} {x k : Nat} (hP : P.length = k) (hk : k < ns.length) (h : P ++ [x] = ns.take (k + 1)) : x = ns[k] := by
  have h1 := congrArg (fun l => l[k]?) h
  rw [List.getElem?_append_right (by omega), hP] at h1
  simp [hk] at h1
  exact h1
end Go.Proofs.YtidikciankcopaaDoor
