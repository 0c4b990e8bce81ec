/- Law 08's example, awake; what is small enough. -/
import Derived.Test.YtfefnfgppgohgaaDoorDo8
import Derived.Test.YtfefnfgppgohgaaDoorRead8
import Derived.Test.YtfefnfgppgohgaaDoorRefL8
import Derived.Lib.SmallJoins
namespace Go.Proofs.YtfefnfgppgohgaaDoor
open Go.RowKit Go.WideShapes

def oA0 : ObD := ⟨[97, 98], [], 0⟩
def oA1 : ObD := ⟨[97, 98], [⟨⟨#[115, 48, 48, 49]⟩, [97, 98]⟩], 0⟩
def oA2 : ObD := ⟨[99, 98], [⟨⟨#[115, 48, 48, 49]⟩, [97, 98]⟩], 0⟩
theorem okl0 : oA0.okl := ⟨by decide, by decide, by simp [oA0]⟩
theorem okl1 : oA1.okl := ⟨by decide, by decide, by simp [oA1]⟩
theorem okl2 : oA2.okl := ⟨by decide, by decide, by simp [oA2]⟩
theorem doA1 : doB oA0 true ⟨11, 0, 0, ⟨#[115, 48, 48, 49]⟩, []⟩ = ⟨oA1, true, true, 0⟩ := by kernel_rfl
theorem doA2 : doB oA1 true ⟨5, 0, 0, ByteArray.empty, [99]⟩ = ⟨oA2, true, true, 0⟩ := by kernel_rfl
theorem atA1 : atD oA2 ⟨#[115, 48, 48, 49]⟩ = [97, 98] := by
  simp [atD, oA2, fromB, ltS, Lib.toList_data, Op.bytesLess]
  try decide
theorem atA2 : atD oA2 ⟨#[115, 48, 48, 50]⟩ = [99, 98] := by
  simp [atD, oA2, fromB, ltS, Lib.toList_data, Op.bytesLess]
  try decide
theorem rdA : readD oA2 1 2 = [98, 0] := by decide
theorem DoOut.ways {x : DoR} {w w' : World} {e : Ending} (h : DoOut x w e w') : ∃ a c u q, e = .returned (.tuple #[.agg #[.slice a x.o.data.length c, .slice u x.o.keys.length q, .int .i64 x.o.seq], .bool x.there, .bool x.on, .int .i64 x.e]) ∧
    ObV (fun b => w.heap.size ≤ b) w' (.agg #[.slice a x.o.data.length c, .slice u x.o.keys.length q, .int .i64 x.o.seq]) x.o ∧ Below w.heap.size w w' := by
  obtain ⟨dv, kv, rfl, hv, hb⟩ := h
  obtain ⟨d, k, e, hd, hk⟩ := id hv
  simp at e
  obtain ⟨rfl, rfl⟩ := e
  obtain ⟨a, c, rfl⟩ := hd.shape
  obtain ⟨u, q, rfl⟩ := hk.shape
  exact ⟨_, _, _, _, rfl, hv, hb⟩
set_option maxRecDepth 100000 in
set_option maxHeartbeats 8000000 in
theorem awake_any (w : World) (hE : ErrT w) : Calls Tryd.prog 9 #[] w (Says true w) := by
  have HE := Lib.hid hE
  clear hE
  have hdo1 := fun A v w hv hd hE => do_any A (fun _ => True) v oA0 true 11 0 0 ⟨#[115, 48, 48, 49]⟩ none 0 [] w hv okl0 hd (by decide) hE
  have hdo2 := fun A B v oa oc w hv hd hE => do_any A B v oA1 true 5 0 0 ByteArray.empty oa oc [99] w hv okl1 hd (by decide) hE
  rw [doA1] at hdo1
  rw [doA2] at hdo2
  unfold opV at hdo1 hdo2
  have HD1 := Lib.hid hdo1
  have HD2 := Lib.hid hdo2
  clear hdo1 hdo2
  have kc := fun (w : World) (C : Array Value) (n c : Nat) => Go.Lib.run_convert_bytes_const (P := Tryd.prog) w 22 5 C n c Tryd.underlying22 Tryd.underlying5
  go_enter Tryd.func9, Tryd.ntmps9
  go_wp2_with fail
  refine (HD1.out (fun _ => True) _ _ ⟨_, _, rfl, ?b1, SlE.nil _ _ _⟩ (RB.nil _ _) (HE.out.ext (by ((repeat' (first | exact Below.refl _ _ | refine below_drewN ?_ _ | refine Below.drew ?_ | refine Below.alloc ?_ ?_ _ | refine Below.trans ?_ (Below.mono (by assumption) ?_))); all_goals (first | exact Nat.le_refl _ | exact Below.size (by assumption) | omega | (simp; done) | (simp; omega)))))).mono ?_
  case b1 => exact ⟨rfl, .inr ⟨w.heap.size, 0, 2, rfl, by simp; try omega, trivial, Nat.le_refl _, fun j hj => by
    have hj2 : j < 2 := hj
    obtain rfl | rfl : j = 0 ∨ j = 1 := by omega
    · exact (World.cell?_alloc_lt _ _ _ (by simp)).trans (World.cell?_alloc_mark w _ _ _ 0)
    · exact (World.cell?_alloc_lt _ _ _ (by simp)).trans (World.cell?_alloc_mark w _ _ _ 1)⟩⟩
  intro e w1 h1
  obtain ⟨a1, c1, u1, q1, rfl, hv1, hb1⟩ := h1.ways
  have HW1 := Lib.hid (show Below w.heap.size w w1 from Below.trans (by ((repeat' (first | exact Below.refl _ _ | refine below_drewN ?_ _ | refine Below.drew ?_ | refine Below.alloc ?_ ?_ _ | refine Below.trans ?_ (Below.mono (by assumption) ?_))); all_goals (first | exact Nat.le_refl _ | exact Below.size (by assumption) | omega | (simp; done) | (simp; omega)))) (hb1.mono (by simp; try omega)))
  have P1 := Lib.hid ((hb1.block (w.heap.size + 1) (by simp)).trans (heap_alloc2_new w _ _))
  have HV1 := Lib.hid (hv1.weak (A' := fun b => w.heap.size + 2 ≤ b) fun b _ h => by simpa using h)
  simp only [oA1, List.length_cons, List.length_nil]
  clear h1 hv1 hb1
  obtain ⟨y0, f0⟩ := blk_cell (i := 0) (P1.out)
  obtain ⟨y1, f1⟩ := blk_cell (i := 1) (P1.out)
  obtain ⟨y2, f2⟩ := blk_cell (i := 2) (P1.out)
  simp at y0 y1 y2
  go_upto_region 3 with fail
  obtain ⟨w2, hw2⟩ : ∃ w2, w2 = ((w1.setCell ⟨w.heap.size + 1, 0, none⟩ (.slice a1 2 c1)).setCell ⟨w.heap.size + 1, 1, none⟩ (.slice u1 1 q1)).setCell ⟨w.heap.size + 1, 2, none⟩ (.int .i64 0) := ⟨_, rfl⟩
  rw [← hw2]
  have P2 := Lib.hid (show w2.heap[w.heap.size + 1]? = some (.cells #[.slice a1 2 c1, .slice u1 1 q1, .int .i64 0] 25 (0, 0)) from by rw [hw2]; exact set3_blk P1.out)
  have HV2 : Hid (ObV (fun b => w.heap.size + 2 ≤ b) w2 (.agg #[.slice a1 2 c1, .slice u1 1 q1, .int .i64 0]) oA1) := Lib.hid (by rw [hw2]; exact HV1.out.mono ⟨by simp [World.setCell], fun b hb _ => set3_ne _ _ _ _ _ (by omega)⟩)
  have HW2 := Lib.hid (show Below w.heap.size w w2 from by rw [hw2]; exact below3 HW1.out (by omega) _ _ _)
  clear hw2 y0 y1 y2 f0 f1 f2 HW1 HV1 P1
  obtain ⟨y0, f0⟩ := blk_cell (i := 0) (P2.out)
  obtain ⟨y1, f1⟩ := blk_cell (i := 1) (P2.out)
  obtain ⟨y2, f2⟩ := blk_cell (i := 2) (P2.out)
  simp at y0 y1 y2
  go_wp2_with fail
  refine (HD2.out _ (fun _ => True) _ _ _ _ (HV2.out.ext ((Below.refl _ _).alloc (Nat.le_refl _) _)) ?b2 (HE.out.ext (dcall HW2.out ((Below.refl _ _).alloc (Nat.le_refl _) _)))).mono ?_
  case b2 => exact ⟨rfl, .inr ⟨w2.heap.size, 0, 1, rfl, by simp, trivial, Nat.le_refl _, fun j hj => by
    have hj2 : j < 1 := hj
    obtain rfl : j = 0 := by omega
    exact World.cell?_alloc_mark w2 _ _ _ 0⟩⟩
  intro e w3 h3
  obtain ⟨a3, c3, u3, q3, rfl, hv3, hb3⟩ := h3.ways
  have hb3' : Below w2.heap.size w2 w3 := ((Below.refl _ _).alloc (Nat.le_refl _) _).trans (hb3.mono (by simp))
  have hsz2 : w.heap.size + 1 < w2.heap.size := (Array.getElem?_eq_some_iff.1 P2.out).1
  have HW3 := Lib.hid (dcall HW2.out hb3')
  have P3 := Lib.hid (dblk hb3' P2.out)
  have HV3 := Lib.hid (hv3.weak (A' := fun b => w.heap.size + 2 ≤ b) fun b _ h => by simp at h; omega)
  simp only [oA2, List.length_cons, List.length_nil]
  clear h3 hv3 hb3 hb3' y0 y1 y2 f0 f1 f2
  obtain ⟨y0, f0⟩ := blk_cell (i := 0) (P3.out)
  obtain ⟨y1, f1⟩ := blk_cell (i := 1) (P3.out)
  obtain ⟨y2, f2⟩ := blk_cell (i := 2) (P3.out)
  simp at y0 y1 y2
  go_upto_region 4 with fail
  obtain ⟨w4, hw4⟩ : ∃ w4, w4 = ((w3.setCell ⟨w.heap.size + 1, 0, none⟩ (.slice a3 2 c3)).setCell ⟨w.heap.size + 1, 1, none⟩ (.slice u3 1 q3)).setCell ⟨w.heap.size + 1, 2, none⟩ (.int .i64 0) := ⟨_, rfl⟩
  rw [← hw4]
  have P4 := Lib.hid (show w4.heap[w.heap.size + 1]? = some (.cells #[.slice a3 2 c3, .slice u3 1 q3, .int .i64 0] 25 (0, 0)) from by rw [hw4]; exact set3_blk P3.out)
  have HV4 : Hid (ObV (fun b => w.heap.size + 2 ≤ b) w4 (.agg #[.slice a3 2 c3, .slice u3 1 q3, .int .i64 0]) oA2) := Lib.hid (by rw [hw4]; exact HV3.out.mono ⟨by simp [World.setCell], fun b hb _ => set3_ne _ _ _ _ _ (by omega)⟩)
  have HW4 := Lib.hid (show Below w.heap.size w w4 from by rw [hw4]; exact below3 HW3.out (by omega) _ _ _)
  clear hw4 y0 y1 y2 f0 f1 f2 HW3 HV3 P3 HW2 HV2 P2
  obtain ⟨y0, f0⟩ := blk_cell (i := 0) (P4.out)
  obtain ⟨y1, f1⟩ := blk_cell (i := 1) (P4.out)
  obtain ⟨y2, f2⟩ := blk_cell (i := 2) (P4.out)
  simp at y0 y1 y2
  have s0 : (Go.convert 22 9 (.slice a3 2 c3)).run Tryd.prog w4 = .ok (.string ⟨[99, 98].toArray⟩) w4 := cnv_bytes (obv_data HV4.out) _ (Below.refl _ _)
  go_wp2_with fail
  refine (at_any _ _ oA2 ⟨#[115, 48, 48, 49]⟩ _ HV4.out okl2).mono ?_
  rw [atA1]
  rintro e w5 ⟨v5, rfl, ho5, hb5⟩
  obtain ⟨a5, c5, rfl⟩ := ho5.rb.shape
  have P5 := Lib.hid (dblk hb5 P4.out)
  have HV5 := Lib.hid (HV4.out.ext hb5)
  have HW5 := Lib.hid (dcall HW4.out hb5)
  have s5 : (Go.convert 22 9 (.slice a5 2 c5)).run Tryd.prog w5 = .ok (.string ⟨[97, 98].toArray⟩) w5 := cnv_bytes ho5.rb _ (Below.refl _ _)
  simp only [List.length_cons, List.length_nil]
  clear hb5 ho5 y0 y1 y2 f0 f1 f2 s0 HV4 P4 HW4
  obtain ⟨y0, f0⟩ := blk_cell (i := 0) (P5.out)
  obtain ⟨y1, f1⟩ := blk_cell (i := 1) (P5.out)
  obtain ⟨y2, f2⟩ := blk_cell (i := 2) (P5.out)
  simp at y0 y1 y2
  go_wp2_with fail
  refine (at_any _ _ oA2 ⟨#[115, 48, 48, 50]⟩ _ HV5.out okl2).mono ?_
  rw [atA2]
  rintro e w6 ⟨v6, rfl, ho6, hb6⟩
  obtain ⟨a6, c6, rfl⟩ := ho6.rb.shape
  have P6 := Lib.hid (dblk hb6 P5.out)
  have HV6 := Lib.hid (HV5.out.ext hb6)
  have HW6 := Lib.hid (dcall HW5.out hb6)
  have s6 : (Go.convert 22 9 (.slice a6 2 c6)).run Tryd.prog w6 = .ok (.string ⟨[99, 98].toArray⟩) w6 := cnv_bytes ho6.rb _ (Below.refl _ _)
  simp only [List.length_cons, List.length_nil]
  clear hb6 ho6 y0 y1 y2 f0 f1 f2 s5 HV5 P5 HW5
  obtain ⟨y0, f0⟩ := blk_cell (i := 0) (P6.out)
  obtain ⟨y1, f1⟩ := blk_cell (i := 1) (P6.out)
  obtain ⟨y2, f2⟩ := blk_cell (i := 2) (P6.out)
  simp at y0 y1 y2
  go_wp2_with fail
  refine (read_any _ _ oA2 1 2 _ HV6.out (by decide)).mono ?_
  rw [rdA]
  rintro e w7 ⟨v7, rfl, ho7, hb7⟩
  obtain ⟨a7, c7, rfl⟩ := ho7.rb.shape
  have HW7 := Lib.hid (dcall HW6.out hb7)
  have s7 : (Go.convert 22 9 (.slice a7 2 c7)).run Tryd.prog w7 = .ok (.string ⟨[98, 0].toArray⟩) w7 := cnv_bytes ho7.rb _ (Below.refl _ _)
  simp only [List.length_cons, List.length_nil]
  clear hb7 ho7 y0 y1 y2 f0 f1 f2 s6 HV6 P6 HW6
  go_wp2
  go_ret
  exact ⟨rfl, HW7.out⟩
theorem sameB_self (o : ObD) : sameB o o = true := (sameB_iff o o).2 rfl
def few8P (o : ObD) : Prop := o.data.length ≤ 200 ∧ o.keys.length ≤ 200 ∧ ∀ k ∈ o.keys, k.value.length ≤ 3000 ∧ k.name.size ≤ 100
def Few8R (o : ObD) (w : World) (e : Ending) (w' : World) : Prop := ∃ b, e = .returned (.bool b) ∧ (b = true → few8P o) ∧ Below w.heap.size w w'
def few8To (ks : List KyD) (k : Nat) : Prop := ∀ o ∈ ks.take k, o.value.length ≤ 3000 ∧ o.name.size ≤ 100
theorem few8To_succ {ks : List KyD} {k : Nat} (h : few8To ks k) (hk : k < ks.length) (h1 : (ks[k]).value.length ≤ 3000) (h2 : (ks[k]).name.size ≤ 100) : few8To ks (k + 1) := by
  intro o ho
  rw [List.take_succ_eq_append_getElem hk] at ho
  rcases List.mem_append.1 ho with ho | ho
  · exact h o ho
  · simp at ho
    subst ho
    exact ⟨h1, h2⟩
theorem few8_okl {o : ObD} (h : few8P o) : o.okl := ⟨by have := h.1; omega, by have := h.2.1; omega, fun k hk => by have := (h.2.2 k hk).1; omega⟩
set_option maxRecDepth 100000 in
set_option maxHeartbeats 1600000 in
theorem few8_any (A : Nat → Prop) (v : Value) (o : ObD) (w : World) (hv : ObV A w v o) : Calls Tryd.prog 10 #[v] w (Few8R o w) := by
  obtain ⟨dv, kv, rfl, hd, hk⟩ := hv
  obtain ⟨da, dc, rfl⟩ := hd.shape
  obtain ⟨ka, kc, rfl⟩ := hk.shape
  obtain ⟨od, ks, os⟩ := o
  simp only at *
  have HK := Lib.hid hk
  clear hd hk
  by_cases h1 : (200 : Int) < od.length
  · go_enter Tryd.func10, Tryd.ntmps10
    go_wp2
    go_ret
    exact ⟨false, rfl, by simp, by ((repeat' (first | exact Below.refl _ _ | refine below_drewN ?_ _ | refine Below.drew ?_ | refine Below.alloc ?_ ?_ _ | refine Below.trans ?_ (Below.mono (by assumption) ?_))); all_goals (first | exact Nat.le_refl _ | exact Below.size (by assumption) | omega | (simp; done) | (simp; omega)))⟩
  · by_cases h2 : (200 : Int) < ks.length
    · go_enter Tryd.func10, Tryd.ntmps10
      go_wp2
      go_ret
      exact ⟨false, rfl, by simp, by ((repeat' (first | exact Below.refl _ _ | refine below_drewN ?_ _ | refine Below.drew ?_ | refine Below.alloc ?_ ?_ _ | refine Below.trans ?_ (Below.mono (by assumption) ?_))); all_goals (first | exact Nat.le_refl _ | exact Below.size (by assumption) | omega | (simp; done) | (simp; omega)))⟩
    · go_enter Tryd.func10, Tryd.ntmps10
      go_wp2
      go_loopw [3] (fun q wr => ∃ k : Nat, k ≤ ks.length ∧ q = .int .i64 k ∧ wr = w.alloc (.cells #[.slice da od.length dc, .slice ka ks.length kc, .int .i64 os] 25) ∧ few8To ks k) (fun q _ => ks.length - (intOf q).toNat)
      case atStart => exact ⟨0, Nat.zero_le _, rfl, rfl, fun o ho => by simp at ho⟩
      case round =>
        obtain ⟨k, hk, rfl, rfl, hf⟩ := hrel
        have HF := Lib.hid hf
        clear hf
        by_cases hlt : k < ks.length
        · obtain ⟨b, off, v, rfl, hb, -, c3, c4, hv⟩ := Keys.at HK.out hlt
          obtain ⟨va, vc, rfl⟩ := hv.shape
          have HF1 : Hid ((ks[k]).value.length ≤ 3000 → (ks[k]).name.size ≤ 100 → few8To ks (k + 1)) := Lib.hid (few8To_succ HF.out hlt)
          generalize ks[k] = ky at *
          clear hv
          by_cases d1 : (3000 : Int) < ky.value.length
          · go_wp2
            go_ret
            exact ⟨false, rfl, by simp, by ((repeat' (first | exact Below.refl _ _ | refine below_drewN ?_ _ | refine Below.drew ?_ | refine Below.alloc ?_ ?_ _ | refine Below.trans ?_ (Below.mono (by assumption) ?_))); all_goals (first | exact Nat.le_refl _ | exact Below.size (by assumption) | omega | (simp; done) | (simp; omega)))⟩
          · by_cases d2 : (100 : Int) < ky.name.size
            · go_wp2
              go_ret
              exact ⟨false, rfl, by simp, by ((repeat' (first | exact Below.refl _ _ | refine below_drewN ?_ _ | refine Below.drew ?_ | refine Below.alloc ?_ ?_ _ | refine Below.trans ?_ (Below.mono (by assumption) ?_))); all_goals (first | exact Nat.le_refl _ | exact Below.size (by assumption) | omega | (simp; done) | (simp; omega)))⟩
            · go_wp2
              go_roundw
              case rel => exact ⟨k + 1, by omega, by go_num, trivial, HF1.out (by omega) (by omega)⟩
              case measure => simp [intOf]; omega
        · go_wp2
          go_ret
          refine ⟨true, rfl, fun _ => ⟨by show od.length ≤ 200; omega, by show ks.length ≤ 200; omega, fun o ho => HF.out o ?_⟩, by ((repeat' (first | exact Below.refl _ _ | refine below_drewN ?_ _ | refine Below.drew ?_ | refine Below.alloc ?_ ?_ _ | refine Below.trans ?_ (Below.mono (by assumption) ?_))); all_goals (first | exact Nat.le_refl _ | exact Below.size (by assumption) | omega | (simp; done) | (simp; omega)))⟩
          rw [List.take_of_length_le (by omega)]
          exact ho
end Go.Proofs.YtfefnfgppgohgaaDoor
