/- The walks of bytes.Equal, slices.EqualFunc at keys, object.Same. -/
import Derived.Test.YtgdilkhaopnhaaaGreatDoorIdx8
import Derived.Laws.IdiomStrings
namespace Go.Proofs.YtgdilkhaopnhaaaGreatDoor
open Go.RowKit Go.WideShapes

theorem cnv_bytes {A : Nat → Prop} {w : World} {v : Value} {l : List UInt8} (h : RB A w v l) (W : World) (hW : Below w.heap.size w W) : (Go.convert 22 9 v).run Tryz.prog W = .ok (.string ⟨l.toArray⟩) W := by
  obtain ⟨a, c, rfl⟩ := h.shape
  cases a with
  | none =>
    obtain ⟨h0, -, -⟩ := SlA.none_ h
    obtain rfl := List.eq_nil_of_length_eq_zero h0
    exact run_convert_bytes_nil W _ 5 Tryz.underlying22 Tryz.underlying5 _ _ _ Tryz.underlying9
  | some p =>
    refine run_convert_bytes_back W 22 9 5 p c l Tryz.underlying22 Tryz.underlying5 Tryz.underlying9 fun j hj => ?_
    exact cellExt hW ((SlA.src h).2.2 j _ (bv_at hj))
theorem eqBL (l m : List UInt8) : ((⟨l.toArray⟩ : ByteArray).toList == (⟨m.toArray⟩ : ByteArray).toList) = decide (l = m) := by
  rw [Lib.toList_data, Lib.toList_data, Bool.eq_iff_iff, beq_iff_eq, decide_eq_true_eq]
set_option maxHeartbeats 800000 in
theorem bequal_any (A B : Nat → Prop) (va vb : Value) (l m : List UInt8) (w : World) (ha : RB A w va l) (hb : RB B w vb m) :
    Calls Tryz.prog 85 #[va, vb] w fun e w' => e = .returned (.bool (decide (l = m))) ∧ w = w' := by
  have s1 := cnv_bytes ha w (Below.refl _ _)
  have s2 := cnv_bytes hb w (Below.refl _ _)
  clear ha hb
  go_enter Tryz.func85, Tryz.ntmps85
  go_wp2
  go_ret
  exact ⟨ret_bool (by first | exact eqBL l m | (rw [Bool.eq_iff_iff]; simp)), rfl⟩
def keyEq (a b : KyD) : Bool := decide (a.name = b.name) && decide (a.value = b.value)
theorem keyEq_iff (a b : KyD) : keyEq a b = true ↔ a = b := by
  cases a; cases b
  simp [keyEq]
def eqAt (xs ys : List KyD) (i : Nat) : Bool := match xs[i]?, ys[i]? with
  | some a, some b => keyEq a b
  | _, _ => true
def eqTo (xs ys : List KyD) : Nat → Bool
  | 0 => true
  | k + 1 => eqTo xs ys k && eqAt xs ys k
def sameK (xs ys : List KyD) : Bool := decide (xs.length = ys.length) && eqTo xs ys xs.length
theorem eqTo_not {xs ys : List KyD} {n i : Nat} (hi : i < n) (h : eqAt xs ys i = false) : eqTo xs ys n = false := by
  induction n with
  | zero => omega
  | succ n ih =>
    by_cases e : i = n
    · subst e; simp [eqTo, h]
    · simp [eqTo, ih (by omega)]
theorem eqTo_all {xs ys : List KyD} {n : Nat} (h : eqTo xs ys n = true) : ∀ i, i < n → eqAt xs ys i = true := by
  intro i hi
  cases hx : eqAt xs ys i with
  | true => rfl
  | false => rw [eqTo_not hi hx] at h; cases h
theorem sameK_iff (xs ys : List KyD) : sameK xs ys = true ↔ xs = ys := by
  unfold sameK
  rw [Bool.and_eq_true, decide_eq_true_eq]
  constructor
  · rintro ⟨hl, h⟩
    apply List.ext_getElem hl
    intro i h1 h2
    have := eqTo_all h i h1
    simp only [eqAt, List.getElem?_eq_getElem h1, List.getElem?_eq_getElem h2] at this
    exact (keyEq_iff _ _).1 this
  · rintro rfl
    refine ⟨rfl, ?_⟩
    have : ∀ n, eqTo xs xs n = true := by
      intro n
      induction n with
      | zero => rfl
      | succ n ih =>
        simp only [eqTo, ih, Bool.true_and, eqAt]
        cases xs[n]? with
        | none => rfl
        | some k => exact (keyEq_iff k k).2 rfl
    exact this _
def sameB (a b : ObD) : Bool := decide (a.data = b.data) && decide (a.seq = b.seq) && sameK a.keys b.keys
theorem sameB_iff (a b : ObD) : sameB a b = true ↔ a = b := by
  cases a; cases b
  simp only [sameB, Bool.and_eq_true, decide_eq_true_eq, sameK_iff, ObD.mk.injEq]
  exact ⟨fun ⟨⟨a, b⟩, c⟩ => ⟨a, c, b⟩, fun ⟨a, c, b⟩ => ⟨⟨a, b⟩, c⟩⟩
/-- a call that answers so and makes nothing but memory -/
def Says (b : Bool) (w : World) (e : Ending) (w' : World) : Prop := e = .returned (.bool b) ∧ Below w.heap.size w w'
end Go.Proofs.YtgdilkhaopnhaaaGreatDoor
