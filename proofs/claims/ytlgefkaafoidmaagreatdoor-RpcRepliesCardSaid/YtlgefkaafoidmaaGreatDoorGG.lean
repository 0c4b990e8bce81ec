/- The walk of object.Clone. The walk of rpc.own. -/
import Derived.Test.YtlgefkaafoidmaaGreatDoorGF
import Derived.Test.YtlgefkaafoidmaaGreatDoorWrt
namespace Go.Proofs.YtlgefkaafoidmaaGreatDoor
open Go.RowKit Go.WideShapes

/-- an object as a value -/
def ObV (A : Nat → Prop) (w : World) (v : Value) (o : ObD) : Prop := ∃ dv kv, v = .agg #[dv, kv, .int .i64 o.seq] ∧ RB A w dv o.data ∧ SlE Enc.key A w kv o.keys
structure ObD.okl (o : ObD) : Prop where
  data : o.data.length ≤ 1000000
  keys : o.keys.length ≤ 10000
  vals : ∀ k ∈ o.keys, k.value.length ≤ 1000000
attribute [local go_sem ↓] Go.wp_at_zero Go.wp_at_succ
/-- the blocks of the element i, in the round k -/
def mixA (A : Nat → Prop) (b0 lo g : Nat) (k : Nat) : Nat → Nat → Prop := fun i b => if i < k then lo ≤ b ∧ b ≠ g else A b ∧ b < b0
theorem mixA_ne {A : Nat → Prop} {b0 lo g k : Nat} (h : b0 ≤ g) : ∀ i, ¬ mixA A b0 lo g k i g := by
  intro i hi
  unfold mixA at hi
  split at hi
  · exact hi.2 rfl
  · omega
theorem mixA_step {A : Nat → Prop} {b0 lo g k : Nat} : ∀ j, j ≠ k → ∀ b, mixA A b0 lo g k j b → mixA A b0 lo g (k + 1) j b := by
  intro j hj b h
  unfold mixA at h ⊢
  split at h
  · rw [if_pos (by omega)]; exact h
  · rw [if_neg (by omega)]; exact h
theorem mixA_old {A : Nat → Prop} {b0 lo g k : Nat} : ∀ b, mixA A b0 lo g k k b → A b ∧ b < b0 := by
  intro b h
  unfold mixA at h
  rw [if_neg (by omega)] at h
  exact h
/-- a round of the cloning of a row in place -/
theorem clone_step {α : Type} {F : Fb α} {A : Nat → Prop} {b0 lo g cap n k : Nat} {e : TypeId} {wr w3 : World} {cs : List (List Value)} {l : List α} {v3 : Value}
    (hown : wr.ownsRow lo e F.E.size (.slice (some ⟨g, 0, none⟩) n cap) n cs.flatten) (hc : CI F (mixA A b0 lo g k) wr cs l) (hk : k < l.length) (hlo : b0 ≤ lo)
    (hb : Below wr.heap.size wr w3) (hv : OB wr.heap.size w3 v3 (F.bytes l[k])) :
    ∃ cs', (w3.setCell ⟨g, k * F.E.size + (F.E.size - 1), none⟩ v3).ownsRow lo e F.E.size (.slice (some ⟨g, 0, none⟩) n cap) n cs'.flatten ∧
      CI F (mixA A b0 lo g (k + 1)) (w3.setCell ⟨g, k * F.E.size + (F.E.size - 1), none⟩ v3) cs' l := by
  obtain ⟨hg1, hg2⟩ := hown.lt g rfl
  have h1 := owns_set (owns_ext hown hb) (k * F.E.size + (F.E.size - 1)) v3
  have h2 : CI F (mixA A b0 lo g k) (w3.setCell ⟨g, k * F.E.size + (F.E.size - 1), none⟩ v3) cs l :=
    (hc.same fun i => Same.of_ext hb).same fun i => Same.setCell (a := ⟨g, k * F.E.size + (F.E.size - 1), none⟩) (Same.refl _ _) (mixA_ne (Nat.le_trans hlo hg1) i) _
  obtain ⟨cs', e1, h3⟩ := h2.put (Y := mixA A b0 lo g (k + 1)) hk (v := v3) (by
    refine ((hv.rb).mono (Same.setCell (A := fun b => wr.heap.size ≤ b) (a := ⟨g, k * F.E.size + (F.E.size - 1), none⟩) (Same.refl _ _) (fun h => ?_) _)).weak fun b hb' h => ?_
    · have h : wr.heap.size ≤ g := h
      omega
    · unfold mixA
      rw [if_pos (by omega)]
      omega) (fun j hj _ => mixA_step j hj)
  exact ⟨cs', by rw [e1]; exact h1, h3⟩
/-- a row cloned in place, whole -/
theorem clone_end {α : Type} {F : Fb α} {A : Nat → Prop} {b0 lo g cap : Nat} {e : TypeId} {wr : World} {cs : List (List Value)} {l : List α} 
    (hown : wr.ownsRow lo e F.E.size (.slice (some ⟨g, 0, none⟩) l.length cap) l.length cs.flatten) (hc : CI F (mixA A b0 lo g l.length) wr cs l) :
    SlE F.E (fun b => lo ≤ b) wr (.slice (some ⟨g, 0, none⟩) l.length cap) l := by
  refine hc.whole (fun i b hi _ h => ?_) (SlA.of_owns hown)
  unfold mixA at h
  rw [if_pos hi] at h
  exact h.1
theorem clone_start {α : Type} {F : Fb α} {A : Nat → Prop} {b0 lo g : Nat} {w w' : World} {cs : List (List Value)} {l : List α} (hc : CI F (fun _ => A) w cs l) (hb : Below b0 w w') (h0 : w.heap.size ≤ b0 ∨ b0 = w.heap.size) :
    CI F (mixA A w.heap.size lo g 0) w' cs l := by
  refine (hc.weak (Y := mixA A w.heap.size lo g 0) fun i b _ hb' h => ?_).same fun i => ⟨hb.size, fun b h hl => hb.block b (by omega)⟩
  unfold mixA
  rw [if_neg (by omega)]
  exact ⟨h, hb'⟩
theorem set_blk3 {w : World} {p j : Nat} {t : TypeId} {cs : Array Value} {v : Value} (h : w.heap[p]? = some (.cells cs t (0, 0))) : (w.setCell ⟨p, j, none⟩ v).heap[p]? = some (.cells (cs.setIfInBounds j v) t (0, 0)) := by
  simp [World.setCell, Array.getElem?_modify, h]
theorem set3_blk {w : World} {p : Nat} {t : TypeId} {a b c x y z : Value} (h : w.heap[p]? = some (.cells #[a, b, c] t (0, 0))) :
    (((w.setCell ⟨p, 0, none⟩ x).setCell ⟨p, 1, none⟩ y).setCell ⟨p, 2, none⟩ z).heap[p]? = some (.cells #[x, y, z] t (0, 0)) := by
  have := set_blk3 (j := 2) (v := z) (set_blk3 (j := 1) (v := y) (set_blk3 (j := 0) (v := x) h))
  simpa using this
set_option maxRecDepth 100000 in
set_option maxHeartbeats 4000000 in
theorem objclone_any (A : Nat → Prop) (v : Value) (o : ObD) (w : World) (hv : ObV A w v o) (ho : o.okl) :
    Calls Tryz.prog 55 #[v] w fun e w' => ∃ v', e = .returned v' ∧ ObV (fun b => w.heap.size ≤ b) w' v' o ∧ Below w.heap.size w w' := by
  obtain ⟨dv, kv, rfl, hd, hk⟩ := hv
  obtain ⟨da, dc, rfl⟩ := hd.shape
  obtain ⟨cs, hcs, hks⟩ := SlE.cells (F := Fb.key) hk
  obtain ⟨ka, kc, rfl⟩ := hks.shape
  have HD := Lib.hid hd
  have HK : Hid (SlA A w 2 _ o.keys.length cs.flatten) := Lib.hid hks
  have HC := Lib.hid hcs
  have hl1 := ho.data
  have hl2 := ho.keys
  have HL3 := Lib.hid ho.vals
  clear hd hk hcs hks ho
  go_enter Tryz.func55, Tryz.ntmps55
  go_wp2_with fail
  refine (bclone_any A _ o.data _ hl1 (RB.ext HD.out (by ((repeat' (first | exact Below.refl _ _ | refine below_drewN ?_ _ | refine Below.drew ?_ | refine Below.alloc ?_ ?_ _ | refine Below.trans ?_ (Below.mono (by assumption) ?_))); all_goals (first | exact Nat.le_refl _ | exact Below.size (by assumption) | omega | (simp; done) | (simp; omega)))))).mono ?_
  rintro e w1 ⟨v1, rfl, h1, hb1⟩
  obtain ⟨a1, c1, rfl⟩ := h1.rb.shape
  have B0 : w1.heap[w.heap.size]? = some (.cells #[.slice da o.data.length dc, .slice ka o.keys.length kc, .int .i64 o.seq] 38 (0, 0)) := (hb1.block _ (by simp; omega)).trans ((Below.heap_alloc _ _ _ (by simp)).trans (heap_alloc_new _ _))
  have B1 : w1.heap[w.heap.size + 1]? = some (.cells #[.slice none 0 0, .slice none 0 0, .int .i64 0] 38 (0, 0)) := (hb1.block _ (by simp)).trans (by simpa using heap_alloc_new (w.alloc (.cells #[.slice da o.data.length dc, .slice ka o.keys.length kc, .int .i64 o.seq] 38)) (.cells #[.slice none 0 0, .slice none 0 0, .int .i64 0] 38))
  have hbw1 : Below w.heap.size w w1 := by ((repeat' (first | exact Below.refl _ _ | refine below_drewN ?_ _ | refine Below.drew ?_ | refine Below.alloc ?_ ?_ _ | refine Below.trans ?_ (Below.mono (by assumption) ?_))); all_goals (first | exact Nat.le_refl _ | exact Below.size (by assumption) | omega | (simp; done) | (simp; omega)))
  have H1 : Hid (RB (fun b => w.heap.size + 2 ≤ b ∧ b < w1.heap.size) w1 (.slice a1 o.data.length c1) o.data) := h1.rb.weak fun b hb h => ⟨by simpa using h, hb⟩
  have HB1 := Lib.hid B1
  obtain ⟨x1, f1⟩ := blk_cell (i := 1) B0
  obtain ⟨x2, f2⟩ := blk_cell (i := 2) B0
  obtain ⟨x0, f0⟩ := blk_cell (i := 0) B0
  simp at x0 x1 x2
  have hs1 := hb1.size
  simp only [World.size_alloc] at hs1
  have HBW1 := Lib.hid hbw1
  have B0' := set_blk3 (j := 0) (v := .slice a1 o.data.length c1) B0
  have HB0 := Lib.hid B0'
  clear h1 hb1 B0 B1 hbw1 B0'
  go_wp2_with fail
  have hsW : (w1.setCell ⟨w.heap.size, 0, none⟩ (.slice a1 o.data.length c1)).heap.size = w1.heap.size := by simp [World.setCell]
  have hSA : SlA (fun b => A b ∧ b < w.heap.size) (w1.setCell ⟨w.heap.size, 0, none⟩ (.slice a1 o.data.length c1)) 2 (.slice ka o.keys.length kc) o.keys.length cs.flatten := by
    refine SlA.mono (SlA.cut HK.out) ⟨by rw [hsW]; omega, fun b hA hl => ?_⟩
    rw [Below.heap_setCell _ _ _ _ (fun e => by subst e; exact Nat.lt_irrefl _ hl), HBW1.out.block b hl]
  refine (kclone_any _ _ o.keys.length cs.flatten _ hl2 hSA HC.out.one).mono ?_
  rintro e w2 ⟨v2, rfl, h2, hb2⟩
  rw [hsW] at h2 hb2
  have hs2 := hb2.size
  rw [hsW] at hs2
  have B0 : w2.heap[w.heap.size]? = _ := (hb2.block _ (by omega)).trans HB0.out
  have B1 : w2.heap[w.heap.size + 1]? = _ := (hb2.block _ (by omega)).trans ((Below.heap_setCell _ _ _ _ (by simp)).trans HB1.out)
  have H2 := Lib.hid h2
  have hbw2 : Below w.heap.size w w2 := by
    refine Below.trans (Below.trans HBW1.out ((Below.refl _ w1).setCell (Nat.le_refl _ : _ ≤ (⟨w.heap.size, 0, none⟩ : Addr).block) (.slice a1 o.data.length c1))) (hb2.mono (by omega))
  have D2 : Hid (RB (fun b => w.heap.size + 2 ≤ b ∧ b < w1.heap.size) w2 (.slice a1 o.data.length c1) o.data) := by
    refine (H1.out.mono (Same.setCell (a := ⟨w.heap.size, 0, none⟩) (Same.refl _ _) (fun h => by have := h.1; simp at this; omega) _)).mono (Same.of_below hb2 fun b h => h.2)
  have HW2 := Lib.hid hbw2
  simp only [List.setIfInBounds_toArray, List.set_cons_zero] at B0
  clear x0 x1 x2 f0 f1 f2 hbw2
  rcases h2.2 with ⟨rfl, h0⟩ | ⟨g, cap, cur, rfl, hgl, hgr, -⟩
  · obtain ⟨x1, f1⟩ := blk_cell (i := 1) B0
    obtain ⟨y1, f2⟩ := blk_cell (i := 0) B1
    simp at x1 y1
    go_wp2
    have B0n := set_blk3 (j := 1) (v := .slice none 0 0) B0
    simp only [List.setIfInBounds_toArray, List.set_cons_succ, List.set_cons_zero] at B0n
    have B1n := (Below.heap_setCell w2 ⟨w.heap.size, 1, none⟩ (.slice none 0 0) (w.heap.size + 1) (by simp)).trans B1
    go_loopw [15] (fun q wr => q = .int .i64 0 ∧ wr = w2.setCell ⟨w.heap.size, 1, none⟩ (.slice none 0 0)) (fun _ _ => 0)
    case atStart => exact ⟨rfl, rfl⟩
    case round =>
      obtain ⟨rfl, rfl⟩ := hrel
      obtain ⟨x0, f0⟩ := blk_cell (i := 0) B0n
      obtain ⟨x1, f1⟩ := blk_cell (i := 1) B0n
      obtain ⟨x2, f2⟩ := blk_cell (i := 2) B0n
      obtain ⟨y0, e0⟩ := blk_cell (i := 0) B1n
      obtain ⟨y1, e1⟩ := blk_cell (i := 1) B1n
      obtain ⟨y2, e2⟩ := blk_cell (i := 2) B1n
      simp at x0 x1 x2 y0 y1 y2
      clear B0
      have HB1 := Lib.hid B1n
      generalize hwr : w2.setCell ⟨w.heap.size, 1, none⟩ (.slice none 0 0) = wr at *
      have D3 : Hid (RB (fun b => w.heap.size + 2 ≤ b ∧ b < w1.heap.size) wr (.slice a1 o.data.length c1) o.data) := by
        rw [← hwr]
        exact D2.out.mono (Same.setCell (a := ⟨w.heap.size, 1, none⟩) (Same.refl _ _) (fun h => by have := h.1; simp at this; omega) _)
      have HW3 : Hid (Below w.heap.size w wr) := by
        show Below _ _ _
        rw [← hwr]
        exact HW2.out.setCell (Nat.le_refl _ : _ ≤ (⟨w.heap.size, 1, none⟩ : Addr).block) _
      have hke : Hid (o.keys = []) := List.eq_nil_of_length_eq_zero h0
      clear B0n B1n hwr h0
      go_wp2
      refine bodyPost_ret (results_cell_row rfl _ _ (w.heap.size + 1) 38 _ (0, 0) _ rfl (set3_blk HB1.out) Tryz.underlying38 rfl (by kernel_rfl)) rfl ?_
      refine ⟨_, rfl, ⟨_, _, rfl, ?_, ?_⟩, ?_⟩
      · have hsm : ∀ A' : Nat → Prop, ¬ A' (w.heap.size + 1) → ∀ x y z, Same A' wr (((wr.setCell ⟨w.heap.size + 1, 0, none⟩ x).setCell ⟨w.heap.size + 1, 1, none⟩ y).setCell ⟨w.heap.size + 1, 2, none⟩ z) := fun A' h x y z =>
          Same.setCell (a := ⟨w.heap.size + 1, 2, none⟩) (Same.setCell (a := ⟨w.heap.size + 1, 1, none⟩) (Same.setCell (a := ⟨w.heap.size + 1, 0, none⟩) (Same.refl _ _) h x) h y) h z
        exact (D3.out.mono (hsm _ (fun h => by have := h.1; omega) _ _ _)).weak fun b _ h => by omega
      · rw [hke.out]
        exact SlE.nil _ _ _
      · exact ((HW3.out.setCell (by show _ ≤ w.heap.size + 1; omega) _).setCell (by show _ ≤ w.heap.size + 1; omega) _).setCell (by show _ ≤ w.heap.size + 1; omega) _
  · obtain ⟨x1, f1⟩ := blk_cell (i := 1) B0
    obtain ⟨y1, f2⟩ := blk_cell (i := 0) B1
    simp at x1 y1
    have hgl2 : g < w2.heap.size := (Array.getElem?_eq_some_iff.1 hgr).1
    have B0n := set_blk3 (j := 1) (v := .slice (some ⟨g, 0, none⟩) o.keys.length cap) B0
    simp only [List.setIfInBounds_toArray, List.set_cons_succ, List.set_cons_zero] at B0n
    have B1n := (Below.heap_setCell w2 ⟨w.heap.size, 1, none⟩ (.slice (some ⟨g, 0, none⟩) o.keys.length cap) (w.heap.size + 1) (by simp)).trans B1
    have HB0 := Lib.hid B0n
    have HB1 := Lib.hid B1n
    have hOw : Hid ((w2.setCell ⟨w.heap.size, 1, none⟩ (.slice (some ⟨g, 0, none⟩) o.keys.length cap)).ownsRow w1.heap.size 89 2 (.slice (some ⟨g, 0, none⟩) o.keys.length cap) o.keys.length cs.flatten) :=
      ownsRow_setCell_below H2.out (a := ⟨w.heap.size, 1, none⟩) (by show w.heap.size < _; omega) _
    have D3 : Hid (RB (fun b => w.heap.size + 2 ≤ b ∧ b < w1.heap.size) (w2.setCell ⟨w.heap.size, 1, none⟩ (.slice (some ⟨g, 0, none⟩) o.keys.length cap)) (.slice a1 o.data.length c1) o.data) :=
      D2.out.mono (Same.setCell (a := ⟨w.heap.size, 1, none⟩) (Same.refl _ _) (fun h => by have := h.1; simp at this; omega) _)
    have HW3 : Hid (Below w.heap.size w (w2.setCell ⟨w.heap.size, 1, none⟩ (.slice (some ⟨g, 0, none⟩) o.keys.length cap))) := HW2.out.setCell (Nat.le_refl _ : _ ≤ (⟨w.heap.size, 1, none⟩ : Addr).block) _
    have hCI : Hid (CI Fb.key (mixA A w.heap.size w1.heap.size g 0) (w2.setCell ⟨w.heap.size, 1, none⟩ (.slice (some ⟨g, 0, none⟩) o.keys.length cap)) cs o.keys) := clone_start HC.out HW3.out (.inr rfl)
    have hsz3 : (w2.setCell ⟨w.heap.size, 1, none⟩ (.slice (some ⟨g, 0, none⟩) o.keys.length cap)).heap.size = w2.heap.size := by simp [World.setCell]
    clear B0 B1 B0n B1n h2 hb2 hgr
    go_wp2
    go_loopw [15] (fun q wr => ∃ (k : Nat) (cs' : List (List Value)), k ≤ o.keys.length ∧ q = .int .i64 k ∧ wr.heap[w.heap.size]? = some (.cells #[.slice a1 o.data.length c1, .slice (some ⟨g, 0, none⟩) o.keys.length cap, .int .i64 o.seq] 38 (0, 0)) ∧
        wr.heap[w.heap.size + 1]? = some (.cells #[.slice none 0 0, .slice none 0 0, .int .i64 0] 38 (0, 0)) ∧
        wr.ownsRow w1.heap.size 89 2 (.slice (some ⟨g, 0, none⟩) o.keys.length cap) o.keys.length cs'.flatten ∧ CI Fb.key (mixA A w.heap.size w1.heap.size g k) wr cs' o.keys ∧
        RB (fun b => w.heap.size + 2 ≤ b ∧ b < w1.heap.size) wr (.slice a1 o.data.length c1) o.data ∧ Below w.heap.size w wr) (fun q _ => o.keys.length - (intOf q).toNat)
    case atStart => exact ⟨0, cs, Nat.zero_le _, rfl, HB0.out, HB1.out, hOw.out, hCI.out, D3.out, HW3.out⟩
    case round =>
      obtain ⟨k, cs', hk, rfl, b0, b1, ow, ci, dd, bw⟩ := hrel
      have HO := Lib.hid ow
      have HC3 := Lib.hid ci
      have HDD := Lib.hid dd
      have HBW := Lib.hid bw
      have hgr : g < wr.heap.size := (ow.lt g rfl).2
      have hwr : w.heap.size + 1 < wr.heap.size := (Array.getElem?_eq_some_iff.1 b1).1
      obtain ⟨x1, f1⟩ := blk_cell (i := 1) b0
      simp at x1
      have HB0 := Lib.hid b0
      have HB1 := Lib.hid b1
      clear ow ci dd bw
      by_cases hlt : k < o.keys.length
      · obtain ⟨v, hv1, hv2⟩ := HC3.out.last hlt
        obtain ⟨va, vc, rfl⟩ := hv2.shape
        have HV := Lib.hid hv2
        have d1 : wr.cell? ⟨g, k * 2 + 1, none⟩ = some (.slice va (o.keys[k]).value.length vc) := (HO.out.cellAt (k * 2 + 1) (by omega)).trans hv1
        have g1 : wr.frozen? ⟨g, k * 2 + 1, none⟩ = false := HO.out.frozenAt _
        have hvl : (o.keys[k]).value.length ≤ 1000000 := HL3.out _ (List.getElem_mem hlt)
        have hvl' := Lib.hid hvl
        clear hv1 hv2 b0 b1
        have gm := hgr
        generalize hky : o.keys[k] = ky at *
        go_wp2
        go_region_with (go_at_call 80; refine (bclone_any _ _ ky.value _ hvl'.out (RB.ext HV.out (Below.refl _ _).drew)).mono ?_; rintro e w3 ⟨v3, rfl, ho3, hb3⟩; obtain ⟨a3, c3, rfl⟩ := ho3.rb.shape; have e1 := cellExt hb3 x1; have g3 : w3.frozen? ⟨g, k * 2 + 1, none⟩ = false := (hb3.frozen (p := ⟨g, k * 2 + 1, none⟩) hgr).trans g1; have e2 := cellExt hb3 d1; have HO3 : Hid (OB wr.heap.size w3 _ _) := Lib.hid ho3; have HB3 : Hid (Below wr.heap.size wr w3) := Lib.hid (((Below.refl _ wr).drew).trans hb3); clear ho3 hb3)
        all_goals
          go_wp2
          go_roundw
          case rel =>
            obtain ⟨cs2, o2, i2⟩ := clone_step (F := Fb.key) HO.out HC3.out hlt (by omega) HB3.out (by rw [hky]; exact HO3.out)
            have hwr2 : w1.heap.size ≤ wr.heap.size := by omega
            refine ⟨k + 1, cs2, by omega, by go_num, ?_, ?_, o2, i2, ?_, ?_⟩
            · exact (Below.heap_setCell _ ⟨g, _, none⟩ _ _ (by show _ ≠ g; omega)).trans ((HB3.out.block _ (by omega)).trans HB0.out)
            · exact (Below.heap_setCell _ ⟨g, _, none⟩ _ _ (by show _ ≠ g; omega)).trans ((HB3.out.block _ (by omega)).trans HB1.out)
            · exact (HDD.out.ext HB3.out).mono (Same.setCell (a := ⟨g, _, none⟩) (Same.refl _ _) (fun h => by have := h.2; simp at this; omega) _)
            · exact (HBW.out.trans (HB3.out.mono (by omega))).setCell (by show _ ≤ g; omega) _
          case measure => simp [intOf]; omega
      · obtain rfl : k = o.keys.length := by omega
        obtain ⟨x0, f0⟩ := blk_cell (i := 0) HB0.out
        obtain ⟨x2, f2⟩ := blk_cell (i := 2) HB0.out
        obtain ⟨y0, e0⟩ := blk_cell (i := 0) HB1.out
        obtain ⟨y1, e1⟩ := blk_cell (i := 1) HB1.out
        obtain ⟨y2, e2⟩ := blk_cell (i := 2) HB1.out
        simp at x0 x2 y0 y1 y2
        go_wp2
        refine bodyPost_ret (results_cell_row rfl _ _ (w.heap.size + 1) 38 _ (0, 0) _ rfl (set3_blk HB1.out) Tryz.underlying38 rfl (by kernel_rfl)) rfl ?_
        have hsm : ∀ A' : Nat → Prop, ¬ A' (w.heap.size + 1) → ∀ x y z, Same A' wr (((wr.setCell ⟨w.heap.size + 1, 0, none⟩ x).setCell ⟨w.heap.size + 1, 1, none⟩ y).setCell ⟨w.heap.size + 1, 2, none⟩ z) := fun A' h x y z =>
          Same.setCell (a := ⟨w.heap.size + 1, 2, none⟩) (Same.setCell (a := ⟨w.heap.size + 1, 1, none⟩) (Same.setCell (a := ⟨w.heap.size + 1, 0, none⟩) (Same.refl _ _) h x) h y) h z
        have hKE := clone_end HO.out HC3.out
        refine ⟨_, rfl, ⟨_, _, rfl, ?_, ?_⟩, ?_⟩
        · exact (HDD.out.mono (hsm _ (fun h => by have := h.1; omega) _ _ _)).weak fun b _ h => by omega
        · exact (hKE.mono (hsm _ (fun h => by have h : w1.heap.size ≤ w.heap.size + 1 := h; omega) _ _ _)).weak fun b _ h => by omega
        · exact ((HBW.out.setCell (by show _ ≤ w.heap.size + 1; omega) _).setCell (by show _ ≤ w.heap.size + 1; omega) _).setCell (by show _ ≤ w.heap.size + 1; omega) _
end Go.Proofs.YtlgefkaafoidmaaGreatDoor
namespace Go.Proofs.YtlgefkaafoidmaaGreatDoor
open Go.RowKit Go.WideShapes

/-- a request as a value -/
def rqV (q : RqD) (ov : Value) : Value := .agg #[.int .i64 q.client, .int .i64 q.life, .int .i64 q.seq, .int .i64 q.kind, .int .i64 q.image, .int .i64 q.who, .int .i64 q.n, .string q.txn.obj, ov]
def RqV (A : Nat → Prop) (w : World) (v : Value) (q : RqD) : Prop := ∃ ov, v = rqV q ov ∧ SlE Enc.op A w ov q.txn.ops
structure RqD.okl (q : RqD) : Prop where
  ops : q.txn.ops.length ≤ 10000
  vals : ∀ k ∈ q.txn.ops, k.data.length ≤ 1000000
attribute [local go_sem ↓] Go.wp_at_zero Go.wp_at_succ
theorem set9_blk {w : World} {p : Nat} {t : TypeId} {a b c d e f g h i a' b' c' d' e' f' g' h' i' : Value} (hb : w.heap[p]? = some (.cells #[a, b, c, d, e, f, g, h, i] t (0, 0))) :
    (((((((((w.setCell ⟨p, 0, none⟩ a').setCell ⟨p, 1, none⟩ b').setCell ⟨p, 2, none⟩ c').setCell ⟨p, 3, none⟩ d').setCell ⟨p, 4, none⟩ e').setCell ⟨p, 5, none⟩ f').setCell ⟨p, 6, none⟩ g').setCell ⟨p, 7, none⟩ h').setCell ⟨p, 8, none⟩ i').heap[p]? = some (.cells #[a', b', c', d', e', f', g', h', i'] t (0, 0)) := by
  have := set_blk3 (j := 8) (v := i') (set_blk3 (j := 7) (v := h') (set_blk3 (j := 6) (v := g') (set_blk3 (j := 5) (v := f') (set_blk3 (j := 4) (v := e') (set_blk3 (j := 3) (v := d') (set_blk3 (j := 2) (v := c') (set_blk3 (j := 1) (v := b') (set_blk3 (j := 0) (v := a') hb))))))))
  simpa using this
theorem same9 {A : Nat → Prop} {w : World} {p : Nat} {a' b' c' d' e' f' g' h' i' : Value} (h : ¬ A p) :
    Same A w (((((((((w.setCell ⟨p, 0, none⟩ a').setCell ⟨p, 1, none⟩ b').setCell ⟨p, 2, none⟩ c').setCell ⟨p, 3, none⟩ d').setCell ⟨p, 4, none⟩ e').setCell ⟨p, 5, none⟩ f').setCell ⟨p, 6, none⟩ g').setCell ⟨p, 7, none⟩ h').setCell ⟨p, 8, none⟩ i') :=
  (Same.setCell (a := ⟨p, 8, none⟩) (Same.setCell (a := ⟨p, 7, none⟩) (Same.setCell (a := ⟨p, 6, none⟩) (Same.setCell (a := ⟨p, 5, none⟩) (Same.setCell (a := ⟨p, 4, none⟩) (Same.setCell (a := ⟨p, 3, none⟩) (Same.setCell (a := ⟨p, 2, none⟩) (Same.setCell (a := ⟨p, 1, none⟩) (Same.setCell (a := ⟨p, 0, none⟩) (Same.refl _ _) h a') h b') h c') h d') h e') h f') h g') h h') h i')
theorem below9 {B : Nat} {w0 w : World} {p : Nat} {a' b' c' d' e' f' g' h' i' : Value} (hb : Below B w0 w) (h : B ≤ p) :
    Below B w0 (((((((((w.setCell ⟨p, 0, none⟩ a').setCell ⟨p, 1, none⟩ b').setCell ⟨p, 2, none⟩ c').setCell ⟨p, 3, none⟩ d').setCell ⟨p, 4, none⟩ e').setCell ⟨p, 5, none⟩ f').setCell ⟨p, 6, none⟩ g').setCell ⟨p, 7, none⟩ h').setCell ⟨p, 8, none⟩ i') :=
  (Below.setCell (p := ⟨p, 8, none⟩) (Below.setCell (p := ⟨p, 7, none⟩) (Below.setCell (p := ⟨p, 6, none⟩) (Below.setCell (p := ⟨p, 5, none⟩) (Below.setCell (p := ⟨p, 4, none⟩) (Below.setCell (p := ⟨p, 3, none⟩) (Below.setCell (p := ⟨p, 2, none⟩) (Below.setCell (p := ⟨p, 1, none⟩) (Below.setCell (p := ⟨p, 0, none⟩) hb h a') h b') h c') h d') h e') h f') h g') h h') h i')
def rq0 : Array Value := #[.int .i64 0, .int .i64 0, .int .i64 0, .int .i64 0, .int .i64 0, .int .i64 0, .int .i64 0, .string ByteArray.empty, .slice none 0 0]
def rqC (q : RqD) (ov : Value) : Array Value := #[.int .i64 q.client, .int .i64 q.life, .int .i64 q.seq, .int .i64 q.kind, .int .i64 q.image, .int .i64 q.who, .int .i64 q.n, .string q.txn.obj, ov]
set_option maxRecDepth 100000 in
set_option maxHeartbeats 4000000 in
theorem own_any (A : Nat → Prop) (v : Value) (q : RqD) (w : World) (hv : RqV A w v q) (ho : q.okl) :
    Calls Tryz.prog 53 #[v] w fun e w' => ∃ v', e = .returned v' ∧ RqV (fun b => w.heap.size ≤ b) w' v' q ∧ Below w.heap.size w w' := by
  obtain ⟨kv, rfl, hk⟩ := hv
  obtain ⟨cs, hcs, hks⟩ := SlE.cells (F := Fb.op) hk
  obtain ⟨ka, kc, rfl⟩ := hks.shape
  have HK : Hid (SlA A w 5 _ q.txn.ops.length cs.flatten) := Lib.hid hks
  have HC := Lib.hid hcs
  have hl2 := ho.ops
  have HL3 := Lib.hid ho.vals
  clear hk hcs hks ho
  obtain ⟨qc, ql, qs, qk, qi, qw, qn, qo, qops⟩ := q
  simp only [rqV] at *
  go_enter Tryz.func53, Tryz.ntmps53
  go_wp2_with fail
  have hSA : SlA (fun b => A b ∧ b < w.heap.size) ((w.alloc (.cells #[.int .i64 qc, .int .i64 ql, .int .i64 qs, .int .i64 qk, .int .i64 qi, .int .i64 qw, .int .i64 qn, .string qo, .slice ka qops.length kc] 26)).alloc (.cells #[.int .i64 0, .int .i64 0, .int .i64 0, .int .i64 0, .int .i64 0, .int .i64 0, .int .i64 0, .string ByteArray.empty, .slice none 0 0] 26)) 5 (.slice ka qops.length kc) qops.length cs.flatten :=
    SlA.mono (SlA.cut HK.out) (Same.alloc (Same.alloc (Same.refl _ _) _) _)
  refine (oclone_any _ _ qops.length cs.flatten _ hl2 hSA HC.out.one).mono ?_
  rintro e w2 ⟨v2, rfl, h2, hb2⟩
  have B0 : w2.heap[w.heap.size]? = some (.cells #[.int .i64 qc, .int .i64 ql, .int .i64 qs, .int .i64 qk, .int .i64 qi, .int .i64 qw, .int .i64 qn, .string qo, .slice ka qops.length kc] 26 (0, 0)) := (hb2.block _ (by simp; omega)).trans ((Below.heap_alloc _ _ _ (by simp)).trans (heap_alloc_new _ _))
  have B1 : w2.heap[w.heap.size + 1]? = some (.cells #[.int .i64 0, .int .i64 0, .int .i64 0, .int .i64 0, .int .i64 0, .int .i64 0, .int .i64 0, .string ByteArray.empty, .slice none 0 0] 26 (0, 0)) := (hb2.block _ (by simp)).trans (heap_alloc2_new _ _ _)
  have hs2 := hb2.size
  simp only [World.size_alloc] at hs2 h2
  have H2 := Lib.hid h2
  have hbw2 : Below w.heap.size w w2 := by ((repeat' (first | exact Below.refl _ _ | refine below_drewN ?_ _ | refine Below.drew ?_ | refine Below.alloc ?_ ?_ _ | refine Below.trans ?_ (Below.mono (by assumption) ?_))); all_goals (first | exact Nat.le_refl _ | exact Below.size (by assumption) | omega | (simp; done) | (simp; omega)))
  have HW2 := Lib.hid hbw2
  clear hbw2 hSA hb2
  rcases h2.2 with ⟨rfl, h0⟩ | ⟨g, cap, cur, rfl, hgl, hgr, -⟩
  · obtain ⟨x8, f8⟩ := blk_cell (i := 8) B0
    simp at x8
    have B0n := set_blk3 (j := 8) (v := .slice none 0 0) B0
    simp only [List.setIfInBounds_toArray, List.set_cons_succ, List.set_cons_zero] at B0n
    have B1n := (Below.heap_setCell w2 ⟨w.heap.size, 8, none⟩ (.slice none 0 0) (w.heap.size + 1) (by simp)).trans B1
    have HB0 := Lib.hid B0n
    have HB1 := Lib.hid B1n
    clear B0 B1 B0n B1n
    go_wp2
    go_loopw [14] (fun q wr => q = .int .i64 0 ∧ wr = w2.setCell ⟨w.heap.size, 8, none⟩ (.slice none 0 0)) (fun _ _ => 0)
    case atStart => exact ⟨rfl, rfl⟩
    case round =>
      obtain ⟨rfl, rfl⟩ := hrel
      obtain ⟨x0, f0⟩ := blk_cell (i := 0) HB0.out
      obtain ⟨x1, f1⟩ := blk_cell (i := 1) HB0.out
      obtain ⟨x2, f2⟩ := blk_cell (i := 2) HB0.out
      obtain ⟨x3, f3⟩ := blk_cell (i := 3) HB0.out
      obtain ⟨x4, f4⟩ := blk_cell (i := 4) HB0.out
      obtain ⟨x5, f5⟩ := blk_cell (i := 5) HB0.out
      obtain ⟨x6, f6⟩ := blk_cell (i := 6) HB0.out
      obtain ⟨x7, f7⟩ := blk_cell (i := 7) HB0.out
      obtain ⟨x8, f8⟩ := blk_cell (i := 8) HB0.out
      obtain ⟨y0, e0⟩ := blk_cell (i := 0) HB1.out
      obtain ⟨y1, e1⟩ := blk_cell (i := 1) HB1.out
      obtain ⟨y2, e2⟩ := blk_cell (i := 2) HB1.out
      obtain ⟨y3, e3⟩ := blk_cell (i := 3) HB1.out
      obtain ⟨y4, e4⟩ := blk_cell (i := 4) HB1.out
      obtain ⟨y5, e5⟩ := blk_cell (i := 5) HB1.out
      obtain ⟨y6, e6⟩ := blk_cell (i := 6) HB1.out
      obtain ⟨y7, e7⟩ := blk_cell (i := 7) HB1.out
      obtain ⟨y8, e8⟩ := blk_cell (i := 8) HB1.out
      simp at x0 x1 x2 x3 x4 x5 x6 x7 x8 y0 y1 y2 y3 y4 y5 y6 y7 y8
      generalize hwr : w2.setCell ⟨w.heap.size, 8, none⟩ (.slice none 0 0) = wr at *
      have HW3 : Hid (Below w.heap.size w wr) := by
        show Below _ _ _
        rw [← hwr]
        exact HW2.out.setCell (Nat.le_refl _ : _ ≤ (⟨w.heap.size, 8, none⟩ : Addr).block) _
      have hke : Hid (qops = []) := List.eq_nil_of_length_eq_zero h0
      clear hwr h0
      go_wp2
      refine bodyPost_ret (results_cell_row rfl _ _ (w.heap.size + 1) 26 _ (0, 0) _ rfl (set9_blk HB1.out) Tryz.underlying26 rfl (by kernel_rfl)) rfl ?_
      refine ⟨_, rfl, ⟨_, rfl, ?_⟩, ?_⟩
      · show SlE _ _ _ _ qops
        rw [hke.out]
        exact SlE.nil _ _ _
      · exact below9 HW3.out (by omega)
  · obtain ⟨x8, f8⟩ := blk_cell (i := 8) B0
    simp at x8
    have hgl2 : g < w2.heap.size := (Array.getElem?_eq_some_iff.1 hgr).1
    have B0n := set_blk3 (j := 8) (v := .slice (some ⟨g, 0, none⟩) qops.length cap) B0
    simp only [List.setIfInBounds_toArray, List.set_cons_succ, List.set_cons_zero] at B0n
    have B1n := (Below.heap_setCell w2 ⟨w.heap.size, 8, none⟩ (.slice (some ⟨g, 0, none⟩) qops.length cap) (w.heap.size + 1) (by simp)).trans B1
    have HB0 := Lib.hid B0n
    have HB1 := Lib.hid B1n
    have hOw : Hid ((w2.setCell ⟨w.heap.size, 8, none⟩ (.slice (some ⟨g, 0, none⟩) qops.length cap)).ownsRow (w.heap.size + 2) 58 5 (.slice (some ⟨g, 0, none⟩) qops.length cap) qops.length cs.flatten) :=
      ownsRow_setCell_below H2.out (a := ⟨w.heap.size, 8, none⟩) (by show w.heap.size < _; omega) _
    have HW3 : Hid (Below w.heap.size w (w2.setCell ⟨w.heap.size, 8, none⟩ (.slice (some ⟨g, 0, none⟩) qops.length cap))) := HW2.out.setCell (Nat.le_refl _ : _ ≤ (⟨w.heap.size, 8, none⟩ : Addr).block) _
    have hCI : Hid (CI Fb.op (mixA A w.heap.size (w.heap.size + 2) g 0) (w2.setCell ⟨w.heap.size, 8, none⟩ (.slice (some ⟨g, 0, none⟩) qops.length cap)) cs qops) := clone_start HC.out HW3.out (.inr rfl)
    clear B0 B1 B0n B1n h2 hgr
    go_wp2
    go_loopw [14] (fun q wr => ∃ (k : Nat) (cs' : List (List Value)), k ≤ qops.length ∧ q = .int .i64 k ∧ wr.heap[w.heap.size]? = some (.cells #[.int .i64 qc, .int .i64 ql, .int .i64 qs, .int .i64 qk, .int .i64 qi, .int .i64 qw, .int .i64 qn, .string qo, .slice (some ⟨g, 0, none⟩) qops.length cap] 26 (0, 0)) ∧
        wr.heap[w.heap.size + 1]? = some (.cells #[.int .i64 0, .int .i64 0, .int .i64 0, .int .i64 0, .int .i64 0, .int .i64 0, .int .i64 0, .string ByteArray.empty, .slice none 0 0] 26 (0, 0)) ∧
        wr.ownsRow (w.heap.size + 2) 58 5 (.slice (some ⟨g, 0, none⟩) qops.length cap) qops.length cs'.flatten ∧ CI Fb.op (mixA A w.heap.size (w.heap.size + 2) g k) wr cs' qops ∧
        Below w.heap.size w wr) (fun q _ => qops.length - (intOf q).toNat)
    case atStart => exact ⟨0, cs, Nat.zero_le _, rfl, HB0.out, HB1.out, hOw.out, hCI.out, HW3.out⟩
    case round =>
      obtain ⟨k, cs', hk, rfl, b0, b1, ow, ci, bw⟩ := hrel
      have HO := Lib.hid ow
      have HC3 := Lib.hid ci
      have HBW := Lib.hid bw
      have hgr : g < wr.heap.size := (ow.lt g rfl).2
      have hgl : w.heap.size + 2 ≤ g := (ow.lt g rfl).1
      have hwr : w.heap.size + 1 < wr.heap.size := (Array.getElem?_eq_some_iff.1 b1).1
      obtain ⟨x8, f8⟩ := blk_cell (i := 8) b0
      simp at x8
      have HB0 := Lib.hid b0
      have HB1 := Lib.hid b1
      clear ow ci bw
      by_cases hlt : k < qops.length
      · obtain ⟨v, hv1, hv2⟩ := HC3.out.last hlt
        obtain ⟨va, vc, rfl⟩ := hv2.shape
        have HV := Lib.hid hv2
        have d1 : wr.cell? ⟨g, k * 5 + 4, none⟩ = some (.slice va (qops[k]).data.length vc) := (HO.out.cellAt (k * 5 + 4) (by omega)).trans hv1
        have g1 : wr.frozen? ⟨g, k * 5 + 4, none⟩ = false := HO.out.frozenAt _
        have hvl : (qops[k]).data.length ≤ 1000000 := HL3.out _ (List.getElem_mem hlt)
        have hvl' := Lib.hid hvl
        clear hv1 hv2 b0 b1
        generalize hky : qops[k] = ky at *
        go_wp2
        go_region_with (go_at_call 79; refine (cloneB_any _ _ ky.data _ hvl'.out (RB.ext HV.out (Below.refl _ _).drew)).mono ?_; rintro e w3 ⟨v3, rfl, ho3, hb3⟩; obtain ⟨a3, c3, rfl⟩ := ho3.rb.shape; have e1 := cellExt hb3 x8; have g3 : w3.frozen? ⟨g, k * 5 + 4, none⟩ = false := (hb3.frozen (p := ⟨g, k * 5 + 4, none⟩) hgr).trans g1; have e2 := cellExt hb3 d1; have HO3 : Hid (OB wr.heap.size w3 _ _) := Lib.hid ho3; have HB3 : Hid (Below wr.heap.size wr w3) := Lib.hid (((Below.refl _ wr).drew).trans hb3); clear ho3 hb3)
        all_goals
          go_wp2
          go_roundw
          case rel =>
            obtain ⟨cs2, o2, i2⟩ := clone_step (F := Fb.op) HO.out HC3.out hlt (by omega) HB3.out (by rw [hky]; exact HO3.out)
            refine ⟨k + 1, cs2, by omega, by go_num, ?_, ?_, o2, i2, ?_⟩
            · exact (Below.heap_setCell _ ⟨g, _, none⟩ _ _ (by show _ ≠ g; omega)).trans ((HB3.out.block _ (by omega)).trans HB0.out)
            · exact (Below.heap_setCell _ ⟨g, _, none⟩ _ _ (by show _ ≠ g; omega)).trans ((HB3.out.block _ (by omega)).trans HB1.out)
            · exact (HBW.out.trans (HB3.out.mono (by omega))).setCell (by show _ ≤ g; omega) _
          case measure => simp [intOf]; omega
      · obtain rfl : k = qops.length := by omega
        clear x8 f8
        obtain ⟨x0, f0⟩ := blk_cell (i := 0) HB0.out
        obtain ⟨x1, f1⟩ := blk_cell (i := 1) HB0.out
        obtain ⟨x2, f2⟩ := blk_cell (i := 2) HB0.out
        obtain ⟨x3, f3⟩ := blk_cell (i := 3) HB0.out
        obtain ⟨x4, f4⟩ := blk_cell (i := 4) HB0.out
        obtain ⟨x5, f5⟩ := blk_cell (i := 5) HB0.out
        obtain ⟨x6, f6⟩ := blk_cell (i := 6) HB0.out
        obtain ⟨x7, f7⟩ := blk_cell (i := 7) HB0.out
        obtain ⟨x8, f8⟩ := blk_cell (i := 8) HB0.out
        obtain ⟨y0, e0⟩ := blk_cell (i := 0) HB1.out
        obtain ⟨y1, e1⟩ := blk_cell (i := 1) HB1.out
        obtain ⟨y2, e2⟩ := blk_cell (i := 2) HB1.out
        obtain ⟨y3, e3⟩ := blk_cell (i := 3) HB1.out
        obtain ⟨y4, e4⟩ := blk_cell (i := 4) HB1.out
        obtain ⟨y5, e5⟩ := blk_cell (i := 5) HB1.out
        obtain ⟨y6, e6⟩ := blk_cell (i := 6) HB1.out
        obtain ⟨y7, e7⟩ := blk_cell (i := 7) HB1.out
        obtain ⟨y8, e8⟩ := blk_cell (i := 8) HB1.out
        simp at x0 x1 x2 x3 x4 x5 x6 x7 x8 y0 y1 y2 y3 y4 y5 y6 y7 y8
        clear b0 b1
        go_wp2
        refine bodyPost_ret (results_cell_row rfl _ _ (w.heap.size + 1) 26 _ (0, 0) _ rfl (set9_blk HB1.out) Tryz.underlying26 rfl (by kernel_rfl)) rfl ?_
        have hKE := clone_end HO.out HC3.out
        refine ⟨_, rfl, ⟨_, rfl, ?_⟩, ?_⟩
        · exact (hKE.mono (same9 (fun h => by have h : w.heap.size + 2 ≤ w.heap.size + 1 := h; omega))).weak fun b _ h => by omega
        · exact below9 HBW.out (by omega)
end Go.Proofs.YtlgefkaafoidmaaGreatDoor
