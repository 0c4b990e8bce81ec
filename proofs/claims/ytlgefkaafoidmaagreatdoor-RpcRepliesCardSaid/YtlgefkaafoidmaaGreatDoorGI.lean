/- The walks of the laws' bounds (few, thin) and of the references' Same, at data that are the same. The walks of object.right and of what asks whether a name may be. -/
import Derived.Test.YtlgefkaafoidmaaGreatDoorGH
import Derived.Laws.IdiomStrings
import Derived.Test.YtlgefkaafoidmaaGreatDoorLaidS
import Derived.Deep.DeepCutAuto
namespace Go.Proofs.YtlgefkaafoidmaaGreatDoor
open Go.RowKit Go.WideShapes

theorem conv_bytes {A : Nat → Prop} {w : World} {v : Value} {l : List UInt8} (h : RB A w v l) (W : World) (hW : Below w.heap.size w W) : (Go.convert 27 9 v).run Tryz.prog W = .ok (.string ⟨l.toArray⟩) W := by
  obtain ⟨a, c, rfl⟩ := h.shape
  cases a with
  | none =>
    obtain ⟨h0, -, -⟩ := SlA.none_ h
    obtain rfl := List.eq_nil_of_length_eq_zero h0
    exact run_convert_bytes_nil W _ 5 Tryz.underlying27 Tryz.underlying5 _ _ _ Tryz.underlying9
  | some p =>
    refine run_convert_bytes_back W 27 9 5 p c l Tryz.underlying27 Tryz.underlying5 Tryz.underlying9 fun j hj => ?_
    exact cellExt hW ((SlA.src h).2.2 j _ (bv_at hj))
def fewP (t : TxD) : Prop := t.ops.length ≤ 20 ∧ t.obj.size ≤ 50 ∧ ∀ o ∈ t.ops, o.data.length ≤ 2500 ∧ o.name.size ≤ 50
def FewR (t : TxD) (w : World) (e : Ending) (w' : World) : Prop := ∃ b, e = .returned (.bool b) ∧ (b = true → fewP t) ∧ Below w.heap.size w w'
def fewTo (ops : List OpD) (k : Nat) : Prop := ∀ o ∈ ops.take k, o.data.length ≤ 2500 ∧ o.name.size ≤ 50
theorem fewTo_succ {ops : List OpD} {k : Nat} (h : fewTo ops k) (hk : k < ops.length) (h1 : (ops[k]).data.length ≤ 2500) (h2 : (ops[k]).name.size ≤ 50) : fewTo ops (k + 1) := by
  intro o ho
  rw [List.take_succ_eq_append_getElem hk] at ho
  rcases List.mem_append.1 ho with ho | ho
  · exact h o ho
  · simp at ho
    subst ho
    exact ⟨h1, h2⟩
set_option maxRecDepth 100000 in
set_option maxHeartbeats 1600000 in
theorem few_any (A : Nat → Prop) (t : TxD) (va : Value) (w : World) (h : SlE Enc.op A w va t.ops) : Calls Tryz.prog 6 #[.agg #[.string t.obj, va]] w (FewR t w) := by
  obtain ⟨a, c, rfl⟩ := h.shape
  obtain ⟨ob, ops⟩ := t
  simp only at *
  have HS := Lib.hid h
  clear h
  by_cases h1 : 20 < ops.length
  · have h1' : (20 : Int) < ops.length := by omega
    go_enter Tryz.func6, Tryz.ntmps6
    go_wp2
    go_ret
    exact ⟨false, rfl, by simp, by ((repeat' (first | exact Below.refl _ _ | refine below_drewN ?_ _ | refine Below.drew ?_ | refine Below.alloc ?_ ?_ _ | refine Below.trans ?_ (Below.mono (by assumption) ?_))); all_goals (first | exact Nat.le_refl _ | exact Below.size (by assumption) | omega | (simp; done) | (simp; omega)))⟩
  · have h1' : ¬ (20 : Int) < ops.length := by omega
    by_cases h2 : 50 < ob.size
    · have h2' : (50 : Int) < ob.size := by omega
      go_enter Tryz.func6, Tryz.ntmps6
      go_wp2
      go_ret
      exact ⟨false, rfl, by simp, by ((repeat' (first | exact Below.refl _ _ | refine below_drewN ?_ _ | refine Below.drew ?_ | refine Below.alloc ?_ ?_ _ | refine Below.trans ?_ (Below.mono (by assumption) ?_))); all_goals (first | exact Nat.le_refl _ | exact Below.size (by assumption) | omega | (simp; done) | (simp; omega)))⟩
    · have h2' : ¬ (50 : Int) < ob.size := by omega
      go_enter Tryz.func6, Tryz.ntmps6
      go_wp2
      go_loopw [3] (fun q wr => ∃ k : Nat, k ≤ ops.length ∧ q = .int .i64 k ∧ wr = w.alloc (.cells #[.string ob, .slice a ops.length c] 24) ∧ fewTo ops k) (fun q _ => ops.length - (intOf q).toNat)
      case atStart => exact ⟨0, Nat.zero_le _, rfl, rfl, fun o ho => by simp at ho⟩
      case round =>
        obtain ⟨k, hk, rfl, rfl, hf⟩ := hrel
        have HF := Lib.hid hf
        clear hf
        by_cases hlt : k < ops.length
        · obtain ⟨b, off, v, rfl, hb, -, -, -, -, c3, c4, hv⟩ := Ops.at HS.out hlt
          obtain ⟨va, vc, rfl⟩ := hv.shape
          clear hv
          by_cases d1 : 2500 < (ops[k]).data.length
          · have d1' : (2500 : Int) < (ops[k]).data.length := by omega
            go_wp2
            go_ret
            exact ⟨false, rfl, by simp, by ((repeat' (first | exact Below.refl _ _ | refine below_drewN ?_ _ | refine Below.drew ?_ | refine Below.alloc ?_ ?_ _ | refine Below.trans ?_ (Below.mono (by assumption) ?_))); all_goals (first | exact Nat.le_refl _ | exact Below.size (by assumption) | omega | (simp; done) | (simp; omega)))⟩
          · have d1' : ¬ (2500 : Int) < (ops[k]).data.length := by omega
            by_cases d2 : 50 < (ops[k]).name.size
            · have d2' : (50 : Int) < (ops[k]).name.size := by omega
              go_wp2
              go_ret
              exact ⟨false, rfl, by simp, by ((repeat' (first | exact Below.refl _ _ | refine below_drewN ?_ _ | refine Below.drew ?_ | refine Below.alloc ?_ ?_ _ | refine Below.trans ?_ (Below.mono (by assumption) ?_))); all_goals (first | exact Nat.le_refl _ | exact Below.size (by assumption) | omega | (simp; done) | (simp; omega)))⟩
            · have d2' : ¬ (50 : Int) < (ops[k]).name.size := by omega
              go_wp2
              go_roundw
              case rel => exact ⟨k + 1, by omega, by go_num, trivial, fewTo_succ HF.out hlt (by omega) (by omega)⟩
              case measure => simp [intOf]; omega
        · go_wp2
          go_ret
          refine ⟨true, rfl, fun _ => ⟨by show ops.length ≤ 20; omega, by show ob.size ≤ 50; omega, fun o ho => HF.out o ?_⟩, by ((repeat' (first | exact Below.refl _ _ | refine below_drewN ?_ _ | refine Below.drew ?_ | refine Below.alloc ?_ ?_ _ | refine Below.trans ?_ (Below.mono (by assumption) ?_))); all_goals (first | exact Nat.le_refl _ | exact Below.size (by assumption) | omega | (simp; done) | (simp; omega)))⟩
          rw [List.take_of_length_le (by omega)]
          exact ho
def thinP (o : ObD) : Prop := o.data.length ≤ 200 ∧ o.keys.length ≤ 150 ∧ ∀ k ∈ o.keys, k.value.length ≤ 2500 ∧ k.name.size ≤ 50
def ThinR (o : ObD) (w : World) (e : Ending) (w' : World) : Prop := ∃ b, e = .returned (.bool b) ∧ (b = true → thinP o) ∧ Below w.heap.size w w'
def thinTo (ks : List KyD) (k : Nat) : Prop := ∀ o ∈ ks.take k, o.value.length ≤ 2500 ∧ o.name.size ≤ 50
theorem thinTo_succ {ks : List KyD} {k : Nat} (h : thinTo ks k) (hk : k < ks.length) (h1 : (ks[k]).value.length ≤ 2500) (h2 : (ks[k]).name.size ≤ 50) : thinTo ks (k + 1) := by
  intro o ho
  rw [List.take_succ_eq_append_getElem hk] at ho
  rcases List.mem_append.1 ho with ho | ho
  · exact h o ho
  · simp at ho
    subst ho
    exact ⟨h1, h2⟩
set_option maxRecDepth 100000 in
set_option maxHeartbeats 1600000 in
theorem thin_any (A : Nat → Prop) (o : ObD) (dv kv : Value) (w : World) (hd : RB A w dv o.data) (h : SlE Enc.key A w kv o.keys) : Calls Tryz.prog 12 #[.agg #[dv, kv, .int .i64 o.seq]] w (ThinR o w) := by
  obtain ⟨da, dc, rfl⟩ := hd.shape
  obtain ⟨a, c, rfl⟩ := h.shape
  obtain ⟨od, ks, os⟩ := o
  simp only at *
  have HS := Lib.hid h
  clear h hd
  by_cases h1 : 200 < od.length
  · have h1' : (200 : Int) < od.length := by omega
    go_enter Tryz.func12, Tryz.ntmps12
    go_wp2
    go_ret
    exact ⟨false, rfl, by simp, by ((repeat' (first | exact Below.refl _ _ | refine below_drewN ?_ _ | refine Below.drew ?_ | refine Below.alloc ?_ ?_ _ | refine Below.trans ?_ (Below.mono (by assumption) ?_))); all_goals (first | exact Nat.le_refl _ | exact Below.size (by assumption) | omega | (simp; done) | (simp; omega)))⟩
  · have h1' : ¬ (200 : Int) < od.length := by omega
    by_cases h2 : 150 < ks.length
    · have h2' : (150 : Int) < ks.length := by omega
      go_enter Tryz.func12, Tryz.ntmps12
      go_wp2
      go_ret
      exact ⟨false, rfl, by simp, by ((repeat' (first | exact Below.refl _ _ | refine below_drewN ?_ _ | refine Below.drew ?_ | refine Below.alloc ?_ ?_ _ | refine Below.trans ?_ (Below.mono (by assumption) ?_))); all_goals (first | exact Nat.le_refl _ | exact Below.size (by assumption) | omega | (simp; done) | (simp; omega)))⟩
    · have h2' : ¬ (150 : Int) < ks.length := by omega
      go_enter Tryz.func12, Tryz.ntmps12
      go_wp2
      go_loopw [3] (fun q wr => ∃ k : Nat, k ≤ ks.length ∧ q = .int .i64 k ∧ wr = w.alloc (.cells #[.slice da od.length dc, .slice a ks.length c, .int .i64 os] 38) ∧ thinTo ks k) (fun q _ => ks.length - (intOf q).toNat)
      case atStart => exact ⟨0, Nat.zero_le _, rfl, rfl, fun o ho => by simp at ho⟩
      case round =>
        obtain ⟨k, hk, rfl, rfl, hf⟩ := hrel
        have HF := Lib.hid hf
        clear hf
        by_cases hlt : k < ks.length
        · obtain ⟨b, off, v, rfl, hb, -, c3, c4, hv⟩ := Keys.at HS.out hlt
          obtain ⟨va, vc, rfl⟩ := hv.shape
          clear hv
          by_cases d1 : 2500 < (ks[k]).value.length
          · have d1' : (2500 : Int) < (ks[k]).value.length := by omega
            go_wp2
            go_ret
            exact ⟨false, rfl, by simp, by ((repeat' (first | exact Below.refl _ _ | refine below_drewN ?_ _ | refine Below.drew ?_ | refine Below.alloc ?_ ?_ _ | refine Below.trans ?_ (Below.mono (by assumption) ?_))); all_goals (first | exact Nat.le_refl _ | exact Below.size (by assumption) | omega | (simp; done) | (simp; omega)))⟩
          · have d1' : ¬ (2500 : Int) < (ks[k]).value.length := by omega
            by_cases d2 : 50 < (ks[k]).name.size
            · have d2' : (50 : Int) < (ks[k]).name.size := by omega
              go_wp2
              go_ret
              exact ⟨false, rfl, by simp, by ((repeat' (first | exact Below.refl _ _ | refine below_drewN ?_ _ | refine Below.drew ?_ | refine Below.alloc ?_ ?_ _ | refine Below.trans ?_ (Below.mono (by assumption) ?_))); all_goals (first | exact Nat.le_refl _ | exact Below.size (by assumption) | omega | (simp; done) | (simp; omega)))⟩
            · have d2' : ¬ (50 : Int) < (ks[k]).name.size := by omega
              go_wp2
              go_roundw
              case rel => exact ⟨k + 1, by omega, by go_num, trivial, thinTo_succ HF.out hlt (by omega) (by omega)⟩
              case measure => simp [intOf]; omega
        · go_wp2
          go_ret
          refine ⟨true, rfl, fun _ => ⟨by show od.length ≤ 200; omega, by show ks.length ≤ 150; omega, fun o ho => HF.out o ?_⟩, by ((repeat' (first | exact Below.refl _ _ | refine below_drewN ?_ _ | refine Below.drew ?_ | refine Below.alloc ?_ ?_ _ | refine Below.trans ?_ (Below.mono (by assumption) ?_))); all_goals (first | exact Nat.le_refl _ | exact Below.size (by assumption) | omega | (simp; done) | (simp; omega)))⟩
          rw [List.take_of_length_le (by omega)]
          exact ho
end Go.Proofs.YtlgefkaafoidmaaGreatDoor
namespace Go.Proofs.YtlgefkaafoidmaaGreatDoor
open Go.RowKit Go.WideShapes

/-- the signs of a name -/
def nameSigns : List UInt8 := [97, 98, 99, 100, 101, 102, 103, 104, 105, 106, 107, 108, 109, 110, 111, 112, 113, 114, 115, 116, 117, 118, 119, 120, 121, 122, 48, 49, 50, 51, 52, 53, 54, 55, 56, 57, 46]
def nameB (s : ByteArray) : Bool := decide (1 ≤ s.size) && decide (s.size ≤ 12) && decide (Lib.trimS s.data.toList nameSigns = [])
theorem trim_any (s : ByteArray) (w : World) (hs : s.size ≤ 9223372036854775807) :
    Calls Tryz.prog 96 #[.string s, .string ⟨#[97, 98, 99, 100, 101, 102, 103, 104, 105, 106, 107, 108, 109, 110, 111, 112, 113, 114, 115, 116, 117, 118, 119, 120, 121, 122, 48, 49, 50, 51, 52, 53, 54, 55, 56, 57, 46]⟩] w fun e w' => e = .returned (.string ⟨(Lib.trimS s.data.toList nameSigns).toArray⟩) ∧ Below w.heap.size w w' :=
  Any.strings_Trim_laid Tryz.trimL (by kernel_rfl) s _ w hs (by decide) (ascii_of_all (by decide))
set_option maxRecDepth 100000 in
set_option maxHeartbeats 1600000 in
theorem oright_any (s : ByteArray) (w : World) : Calls Tryz.prog 89 #[.string s] w fun e w' => e = .returned (.bool (nameB s)) ∧ Below w.heap.size w w' := by
  by_cases h1 : 1 ≤ s.size
  · by_cases h2 : s.size ≤ 12
    · have h1' : (1 : Int) ≤ s.size := by omega
      have h2' : (s.size : Int) ≤ 12 := by omega
      have HN : Hid (nameB s = decide (Lib.trimS s.data.toList nameSigns = [])) := by show nameB s = _; simp [nameB, h1, h2]
      have hsz : s.size ≤ 9223372036854775807 := by omega
      go_enter Tryz.func89, Tryz.ntmps89
      go_wp2_with fail
      refine (trim_any s _ hsz).mono ?_
      rintro e w1 ⟨rfl, hb1⟩
      have HB := Lib.hid hb1
      clear hb1
      by_cases ht : Lib.trimS s.data.toList nameSigns = []
      · have HT := Lib.hid ht
        rw [ht]
        clear ht
        go_wp2
        go_ret
        exact ⟨by rw [HN.out, HT.out]; rfl, HB.out⟩
      · have HT := Lib.hid ht
        have hd : decide ((⟨(Lib.trimS s.data.toList nameSigns).toArray⟩ : ByteArray) = ⟨#[]⟩) = false := by
          have : ¬ ((⟨(Lib.trimS s.data.toList nameSigns).toArray⟩ : ByteArray) = ⟨#[]⟩) := fun e => ht (by
            have := congrArg (fun b : ByteArray => b.data.toList) e
            simpa using this)
          simpa using this
        clear ht
        generalize Lib.trimS s.data.toList nameSigns = L at *
        go_wp2
        go_ret
        exact ⟨by rw [HN.out]; have := HT.out; simp [this], HB.out⟩
    · have h1' : (1 : Int) ≤ s.size := by omega
      have h2' : ¬ (s.size : Int) ≤ 12 := by omega
      have HN : Hid (nameB s = false) := by show nameB s = _; simp [nameB, h2]
      go_enter Tryz.func89, Tryz.ntmps89
      go_wp2
      go_ret
      exact ⟨by rw [HN.out]; rfl, Below.refl _ _⟩
  · have h1' : ¬ (1 : Int) ≤ s.size := by omega
    have HN : Hid (nameB s = false) := by show nameB s = _; simp [nameB, h1]
    go_enter Tryz.func89, Tryz.ntmps89
    go_wp2
    go_ret
    exact ⟨by rw [HN.out]; rfl, Below.refl _ _⟩
set_option maxRecDepth 100000 in
set_option maxHeartbeats 4000000 in
theorem ocheck_one (s : ByteArray) (b : Nat) (w : World) (h0 : w.cell? ⟨b, 0, none⟩ = some (.string s)) (h1 : w.cell? ⟨b, 1, none⟩ = some (.slice none 0 0)) :
    Calls Tryz.prog 75 #[.agg #[.slice none 0 0, .slice (some ⟨b, 0, none⟩) 1 1, .int .i64 0]] w fun e w' => e = .returned (.int .i64 (if nameB s then 0 else 1)) ∧ Below w.heap.size w w' := by
  have hb := World.block_lt_of_cell? w _ h0
  simp only at hb
  obtain ⟨B, hB⟩ : ∃ B, nameB s = B := ⟨_, rfl⟩
  have HR : Hid (∀ W, Calls Tryz.prog 89 #[.string s] W fun e w' => e = .returned (.bool B) ∧ Below W.heap.size W w') := fun W => by rw [← hB]; exact oright_any s W
  rw [hB]
  clear hB
  go_enter Tryz.func75, Tryz.ntmps75
  go_wp2
  obtain ⟨w0, hw0⟩ : ∃ w0, w0 = w.alloc (.cells #[.slice none 0 0, .slice (some ⟨b, 0, none⟩) 1 1, .int .i64 0] 38) := ⟨_, rfl⟩
  rw [← hw0]
  have hw : Below w.heap.size w w0 := by rw [hw0]; ((repeat' (first | exact Below.refl _ _ | refine below_drewN ?_ _ | refine Below.drew ?_ | refine Below.alloc ?_ ?_ _ | refine Below.trans ?_ (Below.mono (by assumption) ?_))); all_goals (first | exact Nat.le_refl _ | exact Below.size (by assumption) | omega | (simp; done) | (simp; omega)))
  have HW := Lib.hid hw
  have z0 := cellExt hw h0
  have z1 := cellExt hw h1
  clear hw hw0 h0 h1
  go_loopw [3, 29] (fun q3 q29 wr => ∃ k : Nat, k ≤ 1 ∧ q29 = .int .i64 k ∧ ((k = 0 ∧ q3 = .bool true) ∨ (k = 1 ∧ q3 = .bool B)) ∧ Below w0.heap.size w0 wr) (fun _ q29 _ => 1 - (intOf q29).toNat)
  case atStart => exact ⟨0, by omega, rfl, .inl ⟨rfl, rfl⟩, Below.refl _ _⟩
  case round =>
    obtain ⟨k, hk, rfl, hor, hbr⟩ := hrel
    have HBR := Lib.hid hbr
    have y0 := cellExt hbr z0
    have y1 := cellExt hbr z1
    have hsr := hbr.size
    clear hbr z0 z1
    rcases hor with ⟨rfl, rfl⟩ | ⟨rfl, rfl⟩
    · cases B with
      | false =>
        go_upto_region 5 with fail
        obtain ⟨wk, hwk⟩ : ∃ wk, wk = wr.alloc (.cells #[.string s, .slice none 0 0] 89) := ⟨_, rfl⟩
        rw [← hwk]
        have K := heap_alloc_new wr (.cells #[.string s, .slice none 0 0] 89)
        rw [← hwk] at K
        have hbk : Below wr.heap.size wr wk := by rw [hwk]; exact (Below.refl _ _).alloc (Nat.le_refl _) _
        have HBK := Lib.hid (HBR.out.trans (hbk.mono hsr))
        have x0 : ∀ n : After wk, n.w.cell? ⟨wr.heap.size, 0, none⟩ = some (.string s) := after_cell (blk_cell (i := 0) K).1
        have x1 : ∀ n : After wk, n.w.cell? ⟨wr.heap.size, 1, none⟩ = some (.slice none 0 0) := after_cell (blk_cell (i := 1) K).1
        clear hwk K hbk y0 y1
        (refine wp_region_after (by kernel_rfl) (by kernel_rfl) ?_
         repeat (first | go_big_quiet_skip | (go_big_quiet_want; go_big_quiet_op; (first | go_big_quiet_on | (apply Exists.intro; refine ⟨fun _ => ?_, ?_⟩; (focus ((go_at_call 89; exact calls_after (HR.out _)))); go_big_quiet_on))))
         refine wpQuiet_nil ?_
         intro _ hw'
         obtain ⟨nq, hw''⟩ := hw'
         subst hw''
         have hq := nq.h)
        have HQ := Lib.hid hq
        clear hq
        go_wp2
        go_roundw
        case rel => exact ⟨1, by omega, rfl, .inr ⟨rfl, rfl⟩, HBK.out.trans (HQ.out.mono HBK.out.size)⟩
        case measure => simp [intOf]
      | true =>
        go_upto_region 5 with fail
        obtain ⟨wk, hwk⟩ : ∃ wk, wk = wr.alloc (.cells #[.string s, .slice none 0 0] 89) := ⟨_, rfl⟩
        rw [← hwk]
        have K := heap_alloc_new wr (.cells #[.string s, .slice none 0 0] 89)
        rw [← hwk] at K
        have hbk : Below wr.heap.size wr wk := by rw [hwk]; exact (Below.refl _ _).alloc (Nat.le_refl _) _
        have HBK := Lib.hid (HBR.out.trans (hbk.mono hsr))
        have x0 : ∀ n : After wk, n.w.cell? ⟨wr.heap.size, 0, none⟩ = some (.string s) := after_cell (blk_cell (i := 0) K).1
        have x1 : ∀ n : After wk, n.w.cell? ⟨wr.heap.size, 1, none⟩ = some (.slice none 0 0) := after_cell (blk_cell (i := 1) K).1
        clear hwk K hbk y0 y1
        (refine wp_region_after (by kernel_rfl) (by kernel_rfl) ?_
         repeat (first | go_big_quiet_skip | (go_big_quiet_want; go_big_quiet_op; (first | go_big_quiet_on | (apply Exists.intro; refine ⟨fun _ => ?_, ?_⟩; (focus ((go_at_call 89; exact calls_after (HR.out _)))); go_big_quiet_on))))
         refine wpQuiet_nil ?_
         intro _ hw'
         obtain ⟨nq, hw''⟩ := hw'
         subst hw''
         have hq := nq.h)
        have HQ := Lib.hid hq
        clear hq
        go_wp2
        go_roundw
        case rel => exact ⟨1, by omega, rfl, .inr ⟨rfl, rfl⟩, HBK.out.trans (HQ.out.mono HBK.out.size)⟩
        case measure => simp [intOf]
    · cases B with
      | false =>
        go_wp2
        go_ret
        exact ⟨rfl, HW.out.trans (HBR.out.mono HW.out.size)⟩
      | true =>
        go_wp2
        go_ret
        exact ⟨rfl, HW.out.trans (HBR.out.mono HW.out.size)⟩
set_option maxRecDepth 100000 in
set_option maxHeartbeats 1600000 in
theorem named_any (s : ByteArray) (w : World) : Calls Tryz.prog 84 #[.string s] w fun e w' => e = .returned (.bool (nameB s)) ∧ Below w.heap.size w w' := by
  go_enter Tryz.func84, Tryz.ntmps84
  go_wp2_with fail
  refine (ocheck_one s w.heap.size _ (by simp) (by simp)).mono ?_
  rintro e w1 ⟨rfl, hb1⟩
  have HB := Lib.hid (((Below.refl _ w).alloc (Nat.le_refl _) _).trans (hb1.mono (by simp)))
  clear hb1
  cases hn : nameB s with
  | false =>
    have HNB := Lib.hid hn
    simp only [hn]
    clear hn
    go_wp2
    go_ret
    exact ⟨by rw [HNB.out]; rfl, HB.out⟩
  | true =>
    have HNB := Lib.hid hn
    simp only [hn]
    clear hn
    go_wp2
    go_ret
    exact ⟨by rw [HNB.out]; rfl, HB.out⟩
end Go.Proofs.YtlgefkaafoidmaaGreatDoor
