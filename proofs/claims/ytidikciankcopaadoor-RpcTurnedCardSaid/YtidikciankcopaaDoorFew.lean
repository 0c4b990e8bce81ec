/- The walks of the laws' bounds (few, thin) and of the references' Same, at data that are the same. -/
import Derived.Test.YtidikciankcopaaDoorSesB
import Derived.Laws.IdiomStrings
namespace Go.Proofs.YtidikciankcopaaDoor
open Go.RowKit Go.WideShapes

theorem conv_bytes {A : Nat → Prop} {w : World} {v : Value} {l : List UInt8} (h : RB A w v l) (W : World) (hW : Below w.heap.size w W) : (Go.convert 34 9 v).run Tryd.prog W = .ok (.string ⟨l.toArray⟩) W := by
  obtain ⟨a, c, rfl⟩ := h.shape
  cases a with
  | none =>
    obtain ⟨h0, -, -⟩ := SlA.none_ h
    obtain rfl := List.eq_nil_of_length_eq_zero h0
    exact run_convert_bytes_nil W _ 5 Tryd.underlying34 Tryd.underlying5 _ _ _ Tryd.underlying9
  | some p =>
    refine run_convert_bytes_back W 34 9 5 p c l Tryd.underlying34 Tryd.underlying5 Tryd.underlying9 fun j hj => ?_
    exact cellExt hW ((SlA.src h).2.2 j _ (bv_at hj))
def fewP (t : TxD) : Prop := t.ops.length ≤ 20 ∧ t.obj.size ≤ 50 ∧ ∀ o ∈ t.ops, o.data.length ≤ 2500 ∧ o.name.size ≤ 50
def FewR (t : TxD) (w : World) (e : Ending) (w' : World) : Prop := ∃ b, e = .returned (.bool b) ∧ (b = true → fewP t) ∧ Below w.heap.size w w'
def fewTo (ops : List OpD) (k : Nat) : Prop := ∀ o ∈ ops.take k, o.data.length ≤ 2500 ∧ o.name.size ≤ 50
theorem fewTo_succ {ops : List OpD} {k : Nat} (h : fewTo ops k) (hk : k < ops.length) (h1 : (ops[k]).data.length ≤ 2500) (h2 : (ops[k]).name.size ≤ 50) : fewTo ops (k + 1) := by
  intro o ho
  rw [List.take_succ_eq_append_getElem hk] at ho
  rcases List.mem_append.1 ho with ho | ho
  · exact h o ho
  · simp at ho
    subst ho
    exact ⟨h1, h2⟩
set_option maxRecDepth 100000 in
set_option maxHeartbeats 1600000 in
theorem few_any (A : Nat → Prop) (t : TxD) (va : Value) (w : World) (h : SlE Enc.op A w va t.ops) : Calls Tryd.prog 10 #[.agg #[.string t.obj, va]] w (FewR t w) := by
  obtain ⟨a, c, rfl⟩ := h.shape
  obtain ⟨ob, ops⟩ := t
  simp only at *
  have HS := Lib.hid h
  clear h
  by_cases h1 : 20 < ops.length
  · have h1' : (20 : Int) < ops.length := by omega
    go_enter Tryd.func10, Tryd.ntmps10
    go_wp2
    go_ret
    exact ⟨false, rfl, by simp, by ((repeat' (first | exact Below.refl _ _ | refine below_drewN ?_ _ | refine Below.drew ?_ | refine Below.alloc ?_ ?_ _ | refine Below.trans ?_ (Below.mono (by assumption) ?_))); all_goals (first | exact Nat.le_refl _ | exact Below.size (by assumption) | omega | (simp; done) | (simp; omega)))⟩
  · have h1' : ¬ (20 : Int) < ops.length := by omega
    by_cases h2 : 50 < ob.size
    · have h2' : (50 : Int) < ob.size := by omega
      go_enter Tryd.func10, Tryd.ntmps10
      go_wp2
      go_ret
      exact ⟨false, rfl, by simp, by ((repeat' (first | exact Below.refl _ _ | refine below_drewN ?_ _ | refine Below.drew ?_ | refine Below.alloc ?_ ?_ _ | refine Below.trans ?_ (Below.mono (by assumption) ?_))); all_goals (first | exact Nat.le_refl _ | exact Below.size (by assumption) | omega | (simp; done) | (simp; omega)))⟩
    · have h2' : ¬ (50 : Int) < ob.size := by omega
      go_enter Tryd.func10, Tryd.ntmps10
      go_wp2
      go_loopw [3] (fun q wr => ∃ k : Nat, k ≤ ops.length ∧ q = .int .i64 k ∧ wr = w.alloc (.cells #[.string ob, .slice a ops.length c] 28) ∧ fewTo ops k) (fun q _ => ops.length - (intOf q).toNat)
      case atStart => exact ⟨0, Nat.zero_le _, rfl, rfl, fun o ho => by simp at ho⟩
      case round =>
        obtain ⟨k, hk, rfl, rfl, hf⟩ := hrel
        have HF := Lib.hid hf
        clear hf
        by_cases hlt : k < ops.length
        · obtain ⟨b, off, v, rfl, hb, -, -, -, -, c3, c4, hv⟩ := Ops.at HS.out hlt
          obtain ⟨va, vc, rfl⟩ := hv.shape
          clear hv
          by_cases d1 : 2500 < (ops[k]).data.length
          · have d1' : (2500 : Int) < (ops[k]).data.length := by omega
            go_wp2
            go_ret
            exact ⟨false, rfl, by simp, by ((repeat' (first | exact Below.refl _ _ | refine below_drewN ?_ _ | refine Below.drew ?_ | refine Below.alloc ?_ ?_ _ | refine Below.trans ?_ (Below.mono (by assumption) ?_))); all_goals (first | exact Nat.le_refl _ | exact Below.size (by assumption) | omega | (simp; done) | (simp; omega)))⟩
          · have d1' : ¬ (2500 : Int) < (ops[k]).data.length := by omega
            by_cases d2 : 50 < (ops[k]).name.size
            · have d2' : (50 : Int) < (ops[k]).name.size := by omega
              go_wp2
              go_ret
              exact ⟨false, rfl, by simp, by ((repeat' (first | exact Below.refl _ _ | refine below_drewN ?_ _ | refine Below.drew ?_ | refine Below.alloc ?_ ?_ _ | refine Below.trans ?_ (Below.mono (by assumption) ?_))); all_goals (first | exact Nat.le_refl _ | exact Below.size (by assumption) | omega | (simp; done) | (simp; omega)))⟩
            · have d2' : ¬ (50 : Int) < (ops[k]).name.size := by omega
              go_wp2
              go_roundw
              case rel => exact ⟨k + 1, by omega, by go_num, trivial, fewTo_succ HF.out hlt (by omega) (by omega)⟩
              case measure => simp [intOf]; omega
        · go_wp2
          go_ret
          refine ⟨true, rfl, fun _ => ⟨by show ops.length ≤ 20; omega, by show ob.size ≤ 50; omega, fun o ho => HF.out o ?_⟩, by ((repeat' (first | exact Below.refl _ _ | refine below_drewN ?_ _ | refine Below.drew ?_ | refine Below.alloc ?_ ?_ _ | refine Below.trans ?_ (Below.mono (by assumption) ?_))); all_goals (first | exact Nat.le_refl _ | exact Below.size (by assumption) | omega | (simp; done) | (simp; omega)))⟩
          rw [List.take_of_length_le (by omega)]
          exact ho
def thinP (o : ObD) : Prop := o.data.length ≤ 200 ∧ o.keys.length ≤ 150 ∧ ∀ k ∈ o.keys, k.value.length ≤ 2500 ∧ k.name.size ≤ 50
def ThinR (o : ObD) (w : World) (e : Ending) (w' : World) : Prop := ∃ b, e = .returned (.bool b) ∧ (b = true → thinP o) ∧ Below w.heap.size w w'
def thinTo (ks : List KyD) (k : Nat) : Prop := ∀ o ∈ ks.take k, o.value.length ≤ 2500 ∧ o.name.size ≤ 50
theorem thinTo_succ {ks : List KyD} {k : Nat} (h : thinTo ks k) (hk : k < ks.length) (h1 : (ks[k]).value.length ≤ 2500) (h2 : (ks[k]).name.size ≤ 50) : thinTo ks (k + 1) := by
  intro o ho
  rw [List.take_succ_eq_append_getElem hk] at ho
  rcases List.mem_append.1 ho with ho | ho
  · exact h o ho
  · simp at ho
    subst ho
    exact ⟨h1, h2⟩
set_option maxRecDepth 100000 in
set_option maxHeartbeats 1600000 in
theorem thin_any (A : Nat → Prop) (o : ObD) (dv kv : Value) (w : World) (hd : RB A w dv o.data) (h : SlE Enc.key A w kv o.keys) : Calls Tryd.prog 22 #[.agg #[dv, kv, .int .i64 o.seq]] w (ThinR o w) := by
  obtain ⟨da, dc, rfl⟩ := hd.shape
  obtain ⟨a, c, rfl⟩ := h.shape
  obtain ⟨od, ks, os⟩ := o
  simp only at *
  have HS := Lib.hid h
  clear h hd
  by_cases h1 : 200 < od.length
  · have h1' : (200 : Int) < od.length := by omega
    go_enter Tryd.func22, Tryd.ntmps22
    go_wp2
    go_ret
    exact ⟨false, rfl, by simp, by ((repeat' (first | exact Below.refl _ _ | refine below_drewN ?_ _ | refine Below.drew ?_ | refine Below.alloc ?_ ?_ _ | refine Below.trans ?_ (Below.mono (by assumption) ?_))); all_goals (first | exact Nat.le_refl _ | exact Below.size (by assumption) | omega | (simp; done) | (simp; omega)))⟩
  · have h1' : ¬ (200 : Int) < od.length := by omega
    by_cases h2 : 150 < ks.length
    · have h2' : (150 : Int) < ks.length := by omega
      go_enter Tryd.func22, Tryd.ntmps22
      go_wp2
      go_ret
      exact ⟨false, rfl, by simp, by ((repeat' (first | exact Below.refl _ _ | refine below_drewN ?_ _ | refine Below.drew ?_ | refine Below.alloc ?_ ?_ _ | refine Below.trans ?_ (Below.mono (by assumption) ?_))); all_goals (first | exact Nat.le_refl _ | exact Below.size (by assumption) | omega | (simp; done) | (simp; omega)))⟩
    · have h2' : ¬ (150 : Int) < ks.length := by omega
      go_enter Tryd.func22, Tryd.ntmps22
      go_wp2
      go_loopw [3] (fun q wr => ∃ k : Nat, k ≤ ks.length ∧ q = .int .i64 k ∧ wr = w.alloc (.cells #[.slice da od.length dc, .slice a ks.length c, .int .i64 os] 37) ∧ thinTo ks k) (fun q _ => ks.length - (intOf q).toNat)
      case atStart => exact ⟨0, Nat.zero_le _, rfl, rfl, fun o ho => by simp at ho⟩
      case round =>
        obtain ⟨k, hk, rfl, rfl, hf⟩ := hrel
        have HF := Lib.hid hf
        clear hf
        by_cases hlt : k < ks.length
        · obtain ⟨b, off, v, rfl, hb, -, c3, c4, hv⟩ := Keys.at HS.out hlt
          obtain ⟨va, vc, rfl⟩ := hv.shape
          clear hv
          by_cases d1 : 2500 < (ks[k]).value.length
          · have d1' : (2500 : Int) < (ks[k]).value.length := by omega
            go_wp2
            go_ret
            exact ⟨false, rfl, by simp, by ((repeat' (first | exact Below.refl _ _ | refine below_drewN ?_ _ | refine Below.drew ?_ | refine Below.alloc ?_ ?_ _ | refine Below.trans ?_ (Below.mono (by assumption) ?_))); all_goals (first | exact Nat.le_refl _ | exact Below.size (by assumption) | omega | (simp; done) | (simp; omega)))⟩
          · have d1' : ¬ (2500 : Int) < (ks[k]).value.length := by omega
            by_cases d2 : 50 < (ks[k]).name.size
            · have d2' : (50 : Int) < (ks[k]).name.size := by omega
              go_wp2
              go_ret
              exact ⟨false, rfl, by simp, by ((repeat' (first | exact Below.refl _ _ | refine below_drewN ?_ _ | refine Below.drew ?_ | refine Below.alloc ?_ ?_ _ | refine Below.trans ?_ (Below.mono (by assumption) ?_))); all_goals (first | exact Nat.le_refl _ | exact Below.size (by assumption) | omega | (simp; done) | (simp; omega)))⟩
            · have d2' : ¬ (50 : Int) < (ks[k]).name.size := by omega
              go_wp2
              go_roundw
              case rel => exact ⟨k + 1, by omega, by go_num, trivial, thinTo_succ HF.out hlt (by omega) (by omega)⟩
              case measure => simp [intOf]; omega
        · go_wp2
          go_ret
          refine ⟨true, rfl, fun _ => ⟨by show od.length ≤ 200; omega, by show ks.length ≤ 150; omega, fun o ho => HF.out o ?_⟩, by ((repeat' (first | exact Below.refl _ _ | refine below_drewN ?_ _ | refine Below.drew ?_ | refine Below.alloc ?_ ?_ _ | refine Below.trans ?_ (Below.mono (by assumption) ?_))); all_goals (first | exact Nat.le_refl _ | exact Below.size (by assumption) | omega | (simp; done) | (simp; omega)))⟩
          rw [List.take_of_length_le (by omega)]
          exact ho
end Go.Proofs.YtidikciankcopaaDoor
