/- The walks of terrazzolaw08.ObjectSame and ObjectDoes. -/
import Derived.Test.YtfefnfgppgohgaaDoorAwk8
import Derived.Test.YtfefnfgppgohgaaDoorRefR8
namespace Go.Proofs.YtfefnfgppgohgaaDoor
open Go.RowKit Go.WideShapes


set_option maxRecDepth 100000 in
set_option maxHeartbeats 8000000 in
theorem same_law (A B : Nat → Prop) (va vb : Value) (a b : ObD) (w : World) (hE : ErrT w) (ha : ObV A w va a) (hb : ObV B w vb b) :
    Calls Tryd.prog 8 #[va, vb] w (Says true w) := by
  obtain ⟨dva, kva, rfl, hda, hka⟩ := ha
  obtain ⟨dvb, kvb, rfl, hdb, hkb⟩ := hb
  obtain ⟨daa, dca, rfl⟩ := hda.shape
  obtain ⟨dab, dcb, rfl⟩ := hdb.shape
  obtain ⟨aa, ca, rfl⟩ := hka.shape
  obtain ⟨ab, cb, rfl⟩ := hkb.shape
  have HA : Hid (ObV A w _ a) := Lib.hid ⟨_, _, rfl, hda, hka⟩
  have HB : Hid (ObV B w _ b) := Lib.hid ⟨_, _, rfl, hdb, hkb⟩
  have HE := Lib.hid hE
  clear hda hka hdb hkb hE
  go_enter Tryd.func8, Tryd.ntmps8
  go_wp2_with fail
  obtain ⟨w0, hw0⟩ : ∃ w0, w0 = (w.alloc (.cells #[.slice daa a.data.length dca, .slice aa a.keys.length ca, .int .i64 a.seq] 25)).alloc (.cells #[.slice dab b.data.length dcb, .slice ab b.keys.length cb, .int .i64 b.seq] 25) := ⟨_, rfl⟩
  rw [← hw0]
  have b0 : w0.heap[w.heap.size]? = some (.cells #[.slice daa a.data.length dca, .slice aa a.keys.length ca, .int .i64 a.seq] 25 (0, 0)) := by rw [hw0]; exact dnew (heap_alloc_new _ _) _
  have b1 : w0.heap[w.heap.size + 1]? = some (.cells #[.slice dab b.data.length dcb, .slice ab b.keys.length cb, .int .i64 b.seq] 25 (0, 0)) := by rw [hw0]; exact heap_alloc2_new _ _ _
  have hw : Below w.heap.size w w0 := by rw [hw0]; ((repeat' (first | exact Below.refl _ _ | refine below_drewN ?_ _ | refine Below.drew ?_ | refine Below.alloc ?_ ?_ _ | refine Below.trans ?_ (Below.mono (by assumption) ?_))); all_goals (first | exact Nat.le_refl _ | exact Below.size (by assumption) | omega | (simp; done) | (simp; omega)))
  clear hw0
  refine (awake_any _ (HE.out.ext hw)).mono ?_
  rintro e w1 ⟨rfl, hb1⟩
  have HW1 := Lib.hid (dcall hw hb1)
  have P1 := Lib.hid (dblk hb1 b0)
  have R1 := Lib.hid (dblk hb1 b1)
  clear hb1 b0 b1 hw
  obtain ⟨y0, e0⟩ := blk_cell (i := 0) (P1.out)
  obtain ⟨y1, e1⟩ := blk_cell (i := 1) (P1.out)
  obtain ⟨y2, e2⟩ := blk_cell (i := 2) (P1.out)
  simp at y0 y1 y2
  go_wp2_with fail
  refine (few8_any A _ a _ (HA.out.ext HW1.out)).mono ?_
  rintro e w2 ⟨p1, rfl, hf1, hb2⟩
  have HF1 := Lib.hid hf1
  have HW2 := Lib.hid (dcall HW1.out hb2)
  have P2 := Lib.hid (dblk hb2 P1.out)
  have R2 := Lib.hid (dblk hb2 R1.out)
  clear hb2 P1 R1 HW1 hf1 y0 y1 y2 e0 e1 e2
  obtain ⟨x0, f0⟩ := blk_cell (i := 0) (R2.out)
  obtain ⟨x1, f1⟩ := blk_cell (i := 1) (R2.out)
  obtain ⟨x2, f2⟩ := blk_cell (i := 2) (R2.out)
  simp at x0 x1 x2
  go_wp2_with fail
  refine (few8_any B _ b _ (HB.out.ext HW2.out)).mono ?_
  rintro e w3 ⟨p2, rfl, hf2, hb3⟩
  have HF2 := Lib.hid hf2
  have HW3 := Lib.hid (dcall HW2.out hb3)
  have P3 := Lib.hid (dblk hb3 P2.out)
  have R3 := Lib.hid (dblk hb3 R2.out)
  clear hb3 P2 R2 HW2 hf2 x0 x1 x2
  rcases p1 with _ | _
  · go_wp2
    go_ret
    exact ⟨rfl, HW3.out⟩
  rcases p2 with _ | _
  · go_wp2
    go_ret
    exact ⟨rfl, HW3.out⟩
  have hla := (HF1.out rfl).2.1
  have hlb := (HF2.out rfl).2.1
  have HC1 : Hid (∀ n : After w3, Calls Tryd.prog 24 #[.agg #[.slice daa a.data.length dca, .slice aa a.keys.length ca, .int .i64 a.seq], .agg #[.slice dab b.data.length dcb, .slice ab b.keys.length cb, .int .i64 b.seq]] n.w (Says (sameB a b) n.w)) := fun n => osame_any A B a b _ _ n.w (HA.out.ext (dcall HW3.out n.h)) (HB.out.ext (dcall HW3.out n.h)) (by omega)
  have HC2 : Hid (∀ n : After w3, Calls Tryd.prog 13 #[.agg #[.slice daa a.data.length dca, .slice aa a.keys.length ca, .int .i64 a.seq], .agg #[.slice dab b.data.length dcb, .slice ab b.keys.length cb, .int .i64 b.seq]] n.w (Says (sameB a b) n.w)) := fun n => rsame_any A B a b _ _ n.w (HA.out.ext (dcall HW3.out n.h)) (HB.out.ext (dcall HW3.out n.h)) (by omega) (by omega)
  generalize sameB a b = S at *
  obtain ⟨y0, e0⟩ := blk_cell (i := 0) (P3.out)
  obtain ⟨y1, e1⟩ := blk_cell (i := 1) (P3.out)
  obtain ⟨y2, e2⟩ := blk_cell (i := 2) (P3.out)
  simp at y0 y1 y2
  obtain ⟨x0, f0⟩ := blk_cell (i := 0) (R3.out)
  obtain ⟨x1, f1⟩ := blk_cell (i := 1) (R3.out)
  obtain ⟨x2, f2⟩ := blk_cell (i := 2) (R3.out)
  simp at x0 x1 x2
  have y0' : ∀ n : After w3, n.w.cell? ⟨w.heap.size, 0, none⟩ = _ := after_cell y0
  have y1' : ∀ n : After w3, n.w.cell? ⟨w.heap.size, 1, none⟩ = _ := after_cell y1
  have y2' : ∀ n : After w3, n.w.cell? ⟨w.heap.size, 2, none⟩ = _ := after_cell y2
  have x0' : ∀ n : After w3, n.w.cell? ⟨w.heap.size + 1, 0, none⟩ = _ := after_cell x0
  have x1' : ∀ n : After w3, n.w.cell? ⟨w.heap.size + 1, 1, none⟩ = _ := after_cell x1
  have x2' : ∀ n : After w3, n.w.cell? ⟨w.heap.size + 1, 2, none⟩ = _ := after_cell x2
  go_wp2
  (refine wp_region_after (by kernel_rfl) (by kernel_rfl) ?_
   repeat (first | go_big_quiet_skip | (go_big_quiet_want; go_big_quiet_op; (first | go_big_quiet_on | (apply Exists.intro; refine ⟨fun _ => ?_, ?_⟩; (focus (first | (go_at_call 24; exact calls_after (HC1.out _)) | (go_at_call 13; exact calls_after (HC2.out _)))); go_big_quiet_on))))
   refine wpQuiet_nil ?_
   intro _ hw'
   obtain ⟨nq, hw''⟩ := hw'
   subst hw''
   have hq := nq.h)
  have HQ := Lib.hid (dcall HW3.out hq)
  clear hq
  go_wp2
  go_ret
  exact ⟨rfl, HQ.out⟩
end Go.Proofs.YtfefnfgppgohgaaDoor
