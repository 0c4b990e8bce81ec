/- Requests as bytes: the plain law. No program is named. -/
import Derived.Test.YtidikciankcopaaDoorFrm
namespace Go.Proofs.YtidikciankcopaaDoor

def catB (W : Nat) (ns : List Nat) : List UInt8 := ns.flatMap (be W)
theorem catB_take (W : Nat) (ns : List Nat) (k : Nat) (h : k < ns.length) : catB W (ns.take (k + 1)) = catB W (ns.take k) ++ be W ns[k] := by
  unfold catB
  rw [List.take_succ_eq_append_getElem h, List.flatMap_append]
  simp
theorem catB_length (W : Nat) (ns : List Nat) : (catB W ns).length = ns.length * W := by
  induction ns with
  | nil => simp [catB]
  | cons n ns ih =>
    have : catB W (n :: ns) = be W n ++ catB W ns := by simp [catB]
    rw [this, List.length_append, be_length, ih, List.length_cons, Nat.add_mul]
    omega
/-- a request's body -/
def bodyQ (c l s k i w n : Nat) (x : List UInt8) : List UInt8 :=
  [] ++ catB 1 [c] ++ catB 4 [l] ++ catB 6 [s] ++ catB 1 [k, i, w] ++ catB 6 [n] ++ be 2 x.length ++ x
theorem bodyQ_length (c l s k i w n : Nat) (x : List UInt8) : (bodyQ c l s k i w n x).length = x.length + 22 := by
  simp [bodyQ, catB_length, be_length]
  omega
/-- numbers read one behind the other -/
def rdStep (s : List Nat × Rd) (W : Nat) : List Nat × Rd := (s.1 ++ [(s.2.num W).1], (s.2.num W).2)
def rdNums (ws : List Nat) (r : Rd) : List Nat × Rd := ws.foldl rdStep ([], r)
theorem rdNums_take (ws : List Nat) (r : Rd) (k : Nat) (h : k < ws.length) : rdNums (ws.take (k + 1)) r = rdStep (rdNums (ws.take k) r) ws[k] := by
  unfold rdNums
  rw [List.take_succ_eq_append_getElem h, List.foldl_append]
  rfl
theorem rdNums_length (ws : List Nat) (r : Rd) : (rdNums ws r).1.length = ws.length := by
  have : ∀ (ws : List Nat) (s : List Nat × Rd), (ws.foldl rdStep s).1.length = s.1.length + ws.length := by
    intro ws
    induction ws with
    | nil => intro s; simp
    | cons w ws ih =>
      intro s
      rw [List.foldl_cons, ih]
      simp [rdStep]
      omega
  simpa [rdNums] using this ws ([], r)
theorem rdNums_inv (ws : List Nat) (r : Rd) (hr : r.ok) (he : r.e < 1000) : (rdNums ws r).2.ok ∧ (rdNums ws r).2.e < 1000 ∧ (rdNums ws r).2.l.length ≤ r.l.length := by
  have : ∀ (ws : List Nat) (s : List Nat × Rd), s.2.ok → s.2.e < 1000 → (ws.foldl rdStep s).2.ok ∧ (ws.foldl rdStep s).2.e < 1000 ∧ (ws.foldl rdStep s).2.l.length ≤ s.2.l.length := by
    intro ws
    induction ws with
    | nil => intro s h1 h2; exact ⟨h1, h2, Nat.le_refl _⟩
    | cons w ws ih =>
      intro s h1 h2
      rw [List.foldl_cons]
      have h3 := Rd.num_ok h1 w
      have h4 : (rdStep s w).2.e < 1000 := by
        show (s.2.take w).2.e < 1000
        unfold Rd.take
        split
        · exact h2
        · split
          · show 10 < 1000; decide
          · show 0 < 1000; decide
      obtain ⟨a, b, c⟩ := ih (rdStep s w) h3 h4
      exact ⟨a, b, Nat.le_trans c (Rd.num_len s.2 w)⟩
  exact this ws ([], r) hr he
def wsQ : List Nat := [1, 4, 6, 1, 1, 1, 6]
theorem catB_one (W n : Nat) : catB W [n] = be W n := by simp [catB]
theorem rdNums_bodyQ (c l s k i w n : Nat) (x : List UInt8) (hc : c < 256) (hl : l < 256 ^ 4) (hs : s < 256 ^ 6) (hk : k < 256) (hi : i < 256) (hw : w < 256) (hn : n < 256 ^ 6) :
    rdNums wsQ ⟨bodyQ c l s k i w n x, 0⟩ = ([c, l, s, k, i, w, n], ⟨be 2 x.length ++ x, 0⟩) := by
  have e : bodyQ c l s k i w n x = be 1 c ++ (be 4 l ++ (be 6 s ++ (be 1 k ++ (be 1 i ++ (be 1 w ++ (be 6 n ++ (be 2 x.length ++ x))))))) := by
    simp [bodyQ, catB, List.append_assoc]
  rw [e]
  simp only [rdNums, wsQ, List.foldl_cons, List.foldl_nil, rdStep]
  rw [Rd.num_be 1 c _ (by simpa using hc)]
  simp only
  rw [Rd.num_be 4 l _ hl]
  simp only
  rw [Rd.num_be 6 s _ hs]
  simp only
  rw [Rd.num_be 1 k _ (by simpa using hk)]
  simp only
  rw [Rd.num_be 1 i _ (by simpa using hi)]
  simp only
  rw [Rd.num_be 1 w _ (by simpa using hw)]
  simp only
  rw [Rd.num_be 6 n _ hn]
  simp
end Go.Proofs.YtidikciankcopaaDoor
