/- The step from a law's walk to its row, once for all laws of this seat: whatever the parameters' types are, a law that answers true and leaves old memory alone meets its specification. -/
import Derived.Test.YtlgefkaafoidmaaGreatDoorRows
import Derived.Test.YtlgefkaafoidmaaGreatDoorGA
import Derived.OpenShut
import Derived.LaidMore
import Derived.Lay
import Derived.ProofKit
import Derived.Stop.Joined
namespace Go.Proofs.YtlgefkaafoidmaaGreatDoor
open Go.ChangeShapes Go.WideShapes Go.ChangeAt Go.RowKit

theorem ownKnobs : ownKnob Tryz.prog.godebug = none := by kernel_rfl
theorem laidOuts : laidOutB Tryz.prog = true := by kernel_rfl
theorem boolType : Tryz.prog.underlying 4 = some .bool := Tryz.underlying4

section
variable {H : Type} {enc : TypeId × Value → H}

theorem trodAll_after {ts : List TypeId} (hr : ∀ t ∈ ts, Tryz.prog.readableRec t = true ∧ t < Tryz.prog.types.size) {W W' : World} (hb : Below W.heap.size W W') {sp : Nat → Bool} :
    ∀ {vs : List Value} {ds : List (DataW H)} {ps : List MemPlace}, DataW.TrodAll enc Tryz.prog W 0 (fun _ => true) true ts vs ds ps → (∀ p ∈ ps, p.block < W.heap.size ∧ sp p.block = true) → DataW.TrodAll enc Tryz.prog W' 0 sp true ts vs ds ps := by
  induction ts with
  | nil =>
    intro vs ds ps h hp
    obtain ⟨rfl, rfl, rfl⟩ := trodAll_nil h
    exact trodAll_mk0
  | cons t ts ih =>
    intro vs ds ps h hp
    cases vs with
    | nil => exact absurd h (by simp [DataW.TrodAll])
    | cons v vs =>
      obtain ⟨v0, vs0, d0, ds0, p0, q0, hargs, rfl, rfl, h0, r0⟩ := trodAll_cons h
      obtain ⟨rfl, rfl⟩ : v = v0 ∧ vs = vs0 := by simpa using hargs
      refine trodAll_cons_mk ?_ (ih (fun t ht => hr t (by simp [ht])) r0 (fun p hp' => hp p (by simp [hp'])))
      exact WideElems.Trod_stays laidOuts (hr t (by simp)).1 (hr t (by simp)).2 h0 (fun x hx => hb.same (hp x (by simp [hx])).1) (fun x hx => (hp x (by simp [hx])).2)

set_option maxRecDepth 100000 in
/-- The step where the row lists package variables (L): F is the law's number. After the worked proof PinupProofs. -/
theorem lift_law_laid (os : Os) (started : os.Started) {F : FuncId} {f : Func} {s : ChangeSpec} {L : List (String × DataW Unit)} (hvars : s.vars = []) (hres : f.resultTypes = #[4])
    (hfn : ∀ (ds : List (DataW H)), ds.length = f.params.size → (s.fn H ds).results = [.lit (.bool true)] ∧ (s.fn H ds).args = ds ∧ (s.fn H ds).vars = [])
    (hread : ∀ t ∈ f.params.toList, Tryz.prog.readableRec t = true ∧ t < Tryz.prog.types.size)
    (noInit : Tryz.checked.prog.inits.idxOf? F = none) (hF : Tryz.checked.prog.funcs[F]? = some f)
    (witness : ∃ (w : World) (tape : Tape) (i : Input), w.os = os ∧ (w.forCall tape i).Shaped Tryz.checked.prog ∧ i.vars = [] ∧ Input.okWide Tryz.checked.prog (w.forCall tape i) .any w.heap.size F i ∧
      ((s.pre enc Tryz.checked.prog f [] false (w.forCall tape i).memory i.args ∧ laidMetH Tryz.checked.prog L (w.forCall tape i).memory) ∧ sizedMet enc Tryz.checked.prog f (OpenSpec.ofChange s) false (w.forCall tape i).memory i.args) ∧ ({} : Assume).holds Tryz.checked.prog (lone (Frame.enter Tryz.checked.prog F i.args .normal) [] (w.forCall tape i)))
    (walk : ∀ (W : World) (base : Nat) (args : Array Value) (ds : List (DataW H)) (p : List MemPlace),
      (∀ (j : Nat) t v, f.params[j]? = some t → args[j]? = some v → Value.okWide Tryz.prog W .any base t v) → (∀ x ∈ p, x.block < W.heap.size) → W.noneFrozen p →
      DataW.TrodAll enc Tryz.prog W 0 (fun _ => true) true f.params.toList args.toList ds p → laidMetH Tryz.prog L W →
      Calls Tryz.prog F args W fun e W' => e = .returned (.bool true) ∧ Below W.heap.size W W') :
    ReturnsInHanded {} Tryz.checked os F .any (fun w args => (s.pre enc Tryz.prog f [] false w args ∧ laidMetH Tryz.prog L w) ∧ sizedMet enc Tryz.prog f (OpenSpec.ofChange s) false w args) (s.post enc Tryz.prog f false true false false) := by
  refine returnsInHanded_of_change_and (C := Tryz.checked) (X := fun w _ => laidMetH Tryz.prog L w) (fun _ _ _ hh h => h.of_heap hh) ownKnobs started noInit hF witness ?_
  intro W base args ds gs before hval0 hW _ _ hL _
  have hval : ∀ (j : Nat) t v, f.params[j]? = some t → args[j]? = some v → Value.okWide Tryz.prog W .any base t v := hval0
  have hW' : DataW.Whole enc Tryz.prog f.params.toList s.vars false W args.toList ds gs before := hW
  have hlt := hW'.lt
  obtain ⟨p, q, hA, hV, rfl, hfz, _⟩ := hW'
  rw [hvars] at hV
  obtain ⟨rfl, rfl⟩ := trodVars_none hV
  have hW2 : DataW.Whole enc Tryz.prog f.params.toList s.vars false W args.toList ds [] (p ++ []) := hW
  simp only [List.append_nil] at hW2 hfz hlt
  have hn : ds.length = f.params.size := by
    have : ∀ (ts : List TypeId) (vs : List Value) (ds : List (DataW H)) (p : List MemPlace), DataW.TrodAll enc Tryz.prog W 0 (fun _ => true) true ts vs ds p → ds.length = ts.length := by
      intro ts
      induction ts with
      | nil => intro vs ds p h; obtain ⟨rfl, rfl, rfl⟩ := trodAll_nil h; rfl
      | cons t ts ih =>
        intro vs ds p h
        cases vs with
        | nil => exact absurd h (by simp [DataW.TrodAll])
        | cons v vs =>
          obtain ⟨v0, vs0, d0, ds0, p0, q0, _, rfl, rfl, _, r0⟩ := trodAll_cons h
          simp [ih _ _ _ r0]
    have := this _ _ _ _ hA
    simpa using this
  obtain ⟨f1, f2, f3⟩ := hfn ds hn
  refine (walk W base args ds p hval hlt hfz hA hL).mono fun e W' ⟨he, hb⟩ => ?_
  subst he
  refine ⟨_, rfl, ds, [], p ++ [], [], p, [], hW, ?_, ?_, ?_, hb.frame _, fun h => by cases h⟩
  · rw [List.append_nil, f1, hres]
    exact trodAll_cons_mk (shut_bool boolType _) trodAll_mk0
  · rw [List.append_nil, f2]
    exact trodAll_after hread hb hA fun x hx => ⟨hlt x hx, by simpa using hlt x hx⟩
  · rw [List.append_nil, f3, hvars]
    rfl
end
end Go.Proofs.YtlgefkaafoidmaaGreatDoor
