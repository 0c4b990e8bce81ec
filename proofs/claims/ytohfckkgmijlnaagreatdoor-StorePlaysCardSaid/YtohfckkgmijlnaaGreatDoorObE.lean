/- The walk of object.Clone: what it hands back is the call's own, part by part. -/
import Derived.Test.YtohfckkgmijlnaaGreatDoorPC
import Derived.OwnWalk
import Derived.Deep.DrawnRows
import Derived.Laws.OwnMore
namespace Go.Proofs.YtohfckkgmijlnaaGreatDoor
open Go.RowKit Go.WideShapes

theorem owns_keep {w w' : World} {base size n : Nat} {e : TypeId} {v : Value} {xs : List Value} (h : w.ownsRow base e size v n xs) (hb : ∀ g, v.ownBlock = some g → w'.heap[g]? = w.heap[g]?) : w'.ownsRow base e size v n xs := by
  refine ⟨h.1, h.2.imp id ?_⟩
  rintro ⟨g, cap, cur, rfl, h1, h2, h3⟩
  exact ⟨g, cap, cur, rfl, h1, by rw [hb g rfl]; exact h2, h3⟩
theorem OB.keep {w w' : World} {base : Nat} {v : Value} {l : List UInt8} (h : OB base w v l) (hb : ∀ g, v.ownBlock = some g → w'.heap[g]? = w.heap[g]?) : OB base w' v l := owns_keep h hb
/-- a block of bytes that may be written -/
def U8 (w : World) (b : Nat) : Prop := ∃ cs, w.heap[b]? = some (.cells cs 5 (0, 0))
theorem U8.of_eq {w w' : World} {b : Nat} (h : U8 w b) (e : w'.heap[b]? = w.heap[b]?) : U8 w' b := by
  obtain ⟨cs, h⟩ := h
  exact ⟨cs, e.trans h⟩
theorem OB.rbU {base : Nat} {w : World} {v : Value} {l : List UInt8} (h : OB base w v l) : RB (fun b => base ≤ b ∧ U8 w b) w v l := by
  have h' := h
  refine ⟨h.1, h.2.imp (fun ⟨h1, h2⟩ => ⟨⟨_, h1⟩, h2⟩) ?_⟩
  rintro ⟨g, cap, cur, rfl, hb, hg, hn, -⟩
  refine ⟨g, 0, cap, rfl, (Array.getElem?_eq_some_iff.1 hg).1, ⟨hb, cur, hg⟩, hn, fun j hj => ?_⟩
  have := World.ownsRow.cellAt h' j hj
  simpa using this
/-- cells whose blocks stand as they stood -/
theorem CI.sameU {α : Type} {F : Fb α} {X Y : Nat → Nat → Prop} {w w' : World} {cs : List (List Value)} {l : List α} (h : CI F X w cs l) (hs : ∀ i b, X i b → b < w.heap.size → w'.heap[b]? = w.heap[b]?) (hsz : w.heap.size ≤ w'.heap.size)
    (hY : ∀ i b, i < l.length → b < w.heap.size → X i b → w'.heap[b]? = w.heap[b]? → Y i b) : CI F Y w' cs l :=
  ((h.weak (Y := fun i b => X i b ∧ b < w.heap.size) fun _i _b _ hb h => ⟨h, hb⟩).same fun i => ⟨hsz, fun b h hb => hs i b h.1 hb⟩).weak fun i b hi _ h => hY i b hi h.2 h.1 (hs i b h.1 h.2)
/-- an object of the call's own: its data, its keys' row, its keys' values lie in blocks from base on, each apart from the others -/
structure Own8 (base : Nat) (w : World) (dv kv : Value) (o : ObD) : Prop where
  mk ::
  data : OB base w dv o.data
  ex : ∃ cs, w.ownsRow base 62 2 kv o.keys.length cs.flatten ∧ CI Fb.key (fun _ b => base ≤ b ∧ kv.ownBlock ≠ some b ∧ dv.ownBlock ≠ some b ∧ U8 w b) w cs o.keys
/-- where the parts of a call's own object stand as they stood -/
theorem Own8.keep {base : Nat} {w w' : World} {dv kv : Value} {o : ObD} (h : Own8 base w dv kv o) (hs : Same (fun b => base ≤ b) w w') : Own8 base w' dv kv o := by
  obtain ⟨hd, cs, hk, hc⟩ := h
  exact ⟨hd.keep fun g hg => hs.block g (hd.lt g hg).1 (hd.lt g hg).2, cs, owns_keep hk fun g hg => hs.block g (hk.lt g hg).1 (hk.lt g hg).2, hc.sameU (fun i b h hb => hs.block b h.1 hb) hs.size fun i b _ _ h e => ⟨h.1, h.2.1, h.2.2.1, h.2.2.2.of_eq e⟩⟩
theorem Own8.obv {base : Nat} {w : World} {dv kv : Value} {o : ObD} (h : Own8 base w dv kv o) : ObV (fun b => base ≤ b) w (.agg #[dv, kv, .int .i64 o.seq]) o := by
  obtain ⟨hd, cs, hk, hc⟩ := h
  exact ⟨_, _, rfl, hd.rb, hc.whole (fun i b _ _ hb => hb.1) (SlA.of_owns hk)⟩
theorem CI.nil {α : Type} (F : Fb α) (X : Nat → Nat → Prop) (w : World) : CI F X w [] [] := ⟨rfl, fun i x c hx => by simp at hx⟩
theorem Own8.none (base : Nat) (w : World) : Own8 base w (.slice none 0 0) (.slice none 0 0) ObD.none := ⟨OB.nil _ _, [], World.ownsRow_nil _ _ _ _, CI.nil _ _ _⟩
/-- what a call that hands back an object of the call's own leaves -/
def NewO (w : World) (o : ObD) (e : Ending) (w' : World) : Prop := ∃ dv kv, e = .returned (.agg #[dv, kv, .int .i64 o.seq]) ∧ Own8 w.heap.size w' dv kv o ∧ Below w.heap.size w w'
attribute [local go_sem ↓] Go.wp_at_zero Go.wp_at_succ
/-- the blocks of the element i, in the round k -/
def mixA (A : Nat → Prop) (b0 lo g : Nat) (k : Nat) : Nat → Nat → Prop := fun i b => if i < k then lo ≤ b ∧ b ≠ g else A b ∧ b < b0
theorem mixA_ne {A : Nat → Prop} {b0 lo g k : Nat} (h : b0 ≤ g) : ∀ i, ¬ mixA A b0 lo g k i g := by
  intro i hi
  unfold mixA at hi
  split at hi
  · exact hi.2 rfl
  · omega
theorem mixA_step {A : Nat → Prop} {b0 lo g k : Nat} : ∀ j, j ≠ k → ∀ b, mixA A b0 lo g k j b → mixA A b0 lo g (k + 1) j b := by
  intro j hj b h
  unfold mixA at h ⊢
  split at h
  · rw [if_pos (by omega)]; exact h
  · rw [if_neg (by omega)]; exact h
theorem mixA_old {A : Nat → Prop} {b0 lo g k : Nat} : ∀ b, mixA A b0 lo g k k b → A b ∧ b < b0 := by
  intro b h
  unfold mixA at h
  rw [if_neg (by omega)] at h
  exact h
/-- a round of the cloning of a row in place -/
theorem clone_step {α : Type} {F : Fb α} {A : Nat → Prop} {b0 lo g cap n k : Nat} {e : TypeId} {wr w3 : World} {cs : List (List Value)} {l : List α} {v3 : Value}
    (hown : wr.ownsRow lo e F.E.size (.slice (some ⟨g, 0, none⟩) n cap) n cs.flatten) (hc : CI F (mixA A b0 lo g k) wr cs l) (hk : k < l.length) (hlo : b0 ≤ lo)
    (hb : Below wr.heap.size wr w3) (hv : OB wr.heap.size w3 v3 (F.bytes l[k])) :
    ∃ cs', (w3.setCell ⟨g, k * F.E.size + (F.E.size - 1), none⟩ v3).ownsRow lo e F.E.size (.slice (some ⟨g, 0, none⟩) n cap) n cs'.flatten ∧
      CI F (mixA A b0 lo g (k + 1)) (w3.setCell ⟨g, k * F.E.size + (F.E.size - 1), none⟩ v3) cs' l := by
  obtain ⟨hg1, hg2⟩ := hown.lt g rfl
  have h1 := owns_set (owns_ext hown hb) (k * F.E.size + (F.E.size - 1)) v3
  have h2 : CI F (mixA A b0 lo g k) (w3.setCell ⟨g, k * F.E.size + (F.E.size - 1), none⟩ v3) cs l :=
    (hc.same fun i => Same.of_ext hb).same fun i => Same.setCell (a := ⟨g, k * F.E.size + (F.E.size - 1), none⟩) (Same.refl _ _) (mixA_ne (Nat.le_trans hlo hg1) i) _
  obtain ⟨cs', e1, h3⟩ := h2.put (Y := mixA A b0 lo g (k + 1)) hk (v := v3) (by
    refine ((hv.rb).mono (Same.setCell (A := fun b => wr.heap.size ≤ b) (a := ⟨g, k * F.E.size + (F.E.size - 1), none⟩) (Same.refl _ _) (fun h => ?_) _)).weak fun b hb' h => ?_
    · have h : wr.heap.size ≤ g := h
      omega
    · unfold mixA
      rw [if_pos (by omega)]
      omega) (fun j hj _ => mixA_step j hj)
  exact ⟨cs', by rw [e1]; exact h1, h3⟩
/-- a row cloned in place, whole -/
theorem clone_end {α : Type} {F : Fb α} {A : Nat → Prop} {b0 lo g cap : Nat} {e : TypeId} {wr : World} {cs : List (List Value)} {l : List α} 
    (hown : wr.ownsRow lo e F.E.size (.slice (some ⟨g, 0, none⟩) l.length cap) l.length cs.flatten) (hc : CI F (mixA A b0 lo g l.length) wr cs l) :
    SlE F.E (fun b => lo ≤ b) wr (.slice (some ⟨g, 0, none⟩) l.length cap) l := by
  refine hc.whole (fun i b hi _ h => ?_) (SlA.of_owns hown)
  unfold mixA at h
  rw [if_pos hi] at h
  exact h.1
theorem clone_start {α : Type} {F : Fb α} {A : Nat → Prop} {b0 lo g : Nat} {w w' : World} {cs : List (List Value)} {l : List α} (hc : CI F (fun _ => A) w cs l) (hb : Below b0 w w') (h0 : w.heap.size ≤ b0 ∨ b0 = w.heap.size) :
    CI F (mixA A w.heap.size lo g 0) w' cs l := by
  refine (hc.weak (Y := mixA A w.heap.size lo g 0) fun i b _ hb' h => ?_).same fun i => ⟨hb.size, fun b h hl => hb.block b (by omega)⟩
  unfold mixA
  rw [if_neg (by omega)]
  exact ⟨h, hb'⟩
theorem set_blk3 {w : World} {p j : Nat} {t : TypeId} {cs : Array Value} {v : Value} (h : w.heap[p]? = some (.cells cs t (0, 0))) : (w.setCell ⟨p, j, none⟩ v).heap[p]? = some (.cells (cs.setIfInBounds j v) t (0, 0)) := by
  simp [World.setCell, Array.getElem?_modify, h]
theorem set3_blk {w : World} {p : Nat} {t : TypeId} {a b c x y z : Value} (h : w.heap[p]? = some (.cells #[a, b, c] t (0, 0))) :
    (((w.setCell ⟨p, 0, none⟩ x).setCell ⟨p, 1, none⟩ y).setCell ⟨p, 2, none⟩ z).heap[p]? = some (.cells #[x, y, z] t (0, 0)) := by
  have := set_blk3 (j := 2) (v := z) (set_blk3 (j := 1) (v := y) (set_blk3 (j := 0) (v := x) h))
  simpa using this
theorem set3_ne (w : World) (p : Nat) (x y z : Value) {g : Nat} (h : g ≠ p) : (((w.setCell ⟨p, 0, none⟩ x).setCell ⟨p, 1, none⟩ y).setCell ⟨p, 2, none⟩ z).heap[g]? = w.heap[g]? :=
  (Below.heap_setCell _ ⟨p, 2, none⟩ _ _ h).trans ((Below.heap_setCell _ ⟨p, 1, none⟩ _ _ h).trans (Below.heap_setCell _ ⟨p, 0, none⟩ _ _ h))
theorem owns_base {w : World} {base base' size n : Nat} {e : TypeId} {v : Value} {xs : List Value} (h : w.ownsRow base e size v n xs) (hb : base' ≤ base) : w.ownsRow base' e size v n xs := by
  refine ⟨h.1, h.2.imp id ?_⟩
  rintro ⟨g, cap, cur, h0, h1, h2⟩
  exact ⟨g, cap, cur, h0, Nat.le_trans hb h1, h2⟩
/-- the same, of blocks that may be written -/
def mixU (A : Nat → Prop) (b0 lo g : Nat) (w : World) (k : Nat) : Nat → Nat → Prop := fun i b => if i < k then lo ≤ b ∧ b ≠ g ∧ U8 w b else A b ∧ b < b0
theorem mixU_start {A : Nat → Prop} {b0 lo g : Nat} {w : World} : ∀ i b, mixA A b0 lo g 0 i b → mixU A b0 lo g w 0 i b := by
  intro i b h
  unfold mixA at h
  unfold mixU
  simpa using h
theorem clone_stepU {α : Type} {F : Fb α} {A : Nat → Prop} {b0 lo g cap n k : Nat} {e : TypeId} {wr w3 : World} {cs : List (List Value)} {l : List α} {v3 : Value}
    (hown : wr.ownsRow lo e F.E.size (.slice (some ⟨g, 0, none⟩) n cap) n cs.flatten) (hc : CI F (mixU A b0 lo g wr k) wr cs l) (hk : k < l.length) (hlo : b0 ≤ lo)
    (hb : Below wr.heap.size wr w3) (hv : OB wr.heap.size w3 v3 (F.bytes l[k])) :
    ∃ cs', (w3.setCell ⟨g, k * F.E.size + (F.E.size - 1), none⟩ v3).ownsRow lo e F.E.size (.slice (some ⟨g, 0, none⟩) n cap) n cs'.flatten ∧
      CI F (mixU A b0 lo g (w3.setCell ⟨g, k * F.E.size + (F.E.size - 1), none⟩ v3) (k + 1)) (w3.setCell ⟨g, k * F.E.size + (F.E.size - 1), none⟩ v3) cs' l := by
  obtain ⟨hg1, hg2⟩ := hown.lt g rfl
  have h1 := owns_set (owns_ext hown hb) (k * F.E.size + (F.E.size - 1)) v3
  have hs3 := hb.size
  generalize hW : w3.setCell ⟨g, k * F.E.size + (F.E.size - 1), none⟩ v3 = W at *
  have hne : ∀ b, b ≠ g → W.heap[b]? = w3.heap[b]? := fun b hb => by rw [← hW]; exact Below.heap_setCell _ ⟨g, _, none⟩ _ _ hb
  have hsW : W.heap.size = w3.heap.size := by rw [← hW]; simp [World.setCell]
  have h2 : CI F (mixU A b0 lo g W k) W cs l := by
    refine hc.sameU (fun i b h hl => ?_) (by omega) fun i b _ hl h e => ?_
    · refine (hne b ?_).trans (hb.block b hl)
      unfold mixU at h
      split at h
      · exact h.2.1
      · omega
    · unfold mixU at h ⊢
      split at h
      · rw [if_pos (by assumption)]
        exact ⟨h.1, h.2.1, h.2.2.of_eq e⟩
      · rw [if_neg (by assumption)]
        exact h
  obtain ⟨cs', e1, h3⟩ := h2.put (Y := mixU A b0 lo g W (k + 1)) hk (v := v3) (by
    refine ((hv.rbU).mono (w' := W) ⟨by omega, fun b hb _ => hne b (by have := hb.1; omega)⟩).weak fun b hb' h => ?_
    have h0 := h.1
    unfold mixU
    rw [if_pos (by omega)]
    exact ⟨by omega, by omega, h.2.of_eq (hne b (by omega))⟩) (fun j hj _ b h => by
      unfold mixU at h ⊢
      split at h
      · rw [if_pos (by omega)]; exact h
      · rw [if_neg (by omega)]; exact h)
  exact ⟨cs', by rw [e1]; exact h1, h3⟩
set_option maxRecDepth 100000 in
set_option maxHeartbeats 4000000 in
theorem objclone_own (A : Nat → Prop) (v : Value) (o : ObD) (w : World) (hv : ObV A w v o) (ho : o.okl) :
    Calls Tryz.prog 27 #[v] w (NewO w o) := by
  obtain ⟨dv, kv, rfl, hd, hk⟩ := hv
  obtain ⟨da, dc, rfl⟩ := hd.shape
  obtain ⟨cs, hcs, hks⟩ := SlE.cells (F := Fb.key) hk
  obtain ⟨ka, kc, rfl⟩ := hks.shape
  have HD := Lib.hid hd
  have HK : Hid (SlA A w 2 _ o.keys.length cs.flatten) := Lib.hid hks
  have HC := Lib.hid hcs
  have hl1 := ho.data
  have hl2 := ho.keys
  have HL3 := Lib.hid ho.vals
  clear hd hk hcs hks ho
  go_enter Tryz.func27, Tryz.ntmps27
  go_wp2_with fail
  refine (bclone_any A _ o.data _ hl1 (RB.ext HD.out (by ((repeat' (first | exact Below.refl _ _ | refine below_drewN ?_ _ | refine Below.drew ?_ | refine Below.alloc ?_ ?_ _ | refine Below.trans ?_ (Below.mono (by assumption) ?_))); all_goals (first | exact Nat.le_refl _ | exact Below.size (by assumption) | omega | (simp; done) | (simp; omega)))))).mono ?_
  rintro e w1 ⟨v1, rfl, h1, hb1⟩
  obtain ⟨a1, c1, rfl⟩ := h1.rb.shape
  have B0 : w1.heap[w.heap.size]? = some (.cells #[.slice da o.data.length dc, .slice ka o.keys.length kc, .int .i64 o.seq] 41 (0, 0)) := (hb1.block _ (by simp; omega)).trans ((Below.heap_alloc _ _ _ (by simp)).trans (heap_alloc_new _ _))
  have B1 : w1.heap[w.heap.size + 1]? = some (.cells #[.slice none 0 0, .slice none 0 0, .int .i64 0] 41 (0, 0)) := (hb1.block _ (by simp)).trans (by simpa using heap_alloc_new (w.alloc (.cells #[.slice da o.data.length dc, .slice ka o.keys.length kc, .int .i64 o.seq] 41)) (.cells #[.slice none 0 0, .slice none 0 0, .int .i64 0] 41))
  have hbw1 : Below w.heap.size w w1 := by ((repeat' (first | exact Below.refl _ _ | refine below_drewN ?_ _ | refine Below.drew ?_ | refine Below.alloc ?_ ?_ _ | refine Below.trans ?_ (Below.mono (by assumption) ?_))); all_goals (first | exact Nat.le_refl _ | exact Below.size (by assumption) | omega | (simp; done) | (simp; omega)))
  have H1 : Hid (OB (w.heap.size + 2) w1 (.slice a1 o.data.length c1) o.data) := h1.base_le (by simp)
  have HD1 : Hid (∀ g', (Value.slice a1 o.data.length c1).ownBlock = some g' → w.heap.size + 2 ≤ g' ∧ g' < w1.heap.size) := fun g' hg' => H1.out.lt g' hg'
  have HB1 := Lib.hid B1
  obtain ⟨x1, f1⟩ := blk_cell (i := 1) B0
  obtain ⟨x2, f2⟩ := blk_cell (i := 2) B0
  obtain ⟨x0, f0⟩ := blk_cell (i := 0) B0
  simp at x0 x1 x2
  have hs1 := hb1.size
  simp only [World.size_alloc] at hs1
  have HBW1 := Lib.hid hbw1
  have B0' := set_blk3 (j := 0) (v := .slice a1 o.data.length c1) B0
  have HB0 := Lib.hid B0'
  clear h1 hb1 B0 B1 hbw1 B0'
  go_wp2_with fail
  have hsW : (w1.setCell ⟨w.heap.size, 0, none⟩ (.slice a1 o.data.length c1)).heap.size = w1.heap.size := by simp [World.setCell]
  have hSA : SlA (fun b => A b ∧ b < w.heap.size) (w1.setCell ⟨w.heap.size, 0, none⟩ (.slice a1 o.data.length c1)) 2 (.slice ka o.keys.length kc) o.keys.length cs.flatten := by
    refine SlA.mono (SlA.cut HK.out) ⟨by rw [hsW]; omega, fun b hA hl => ?_⟩
    rw [Below.heap_setCell _ _ _ _ (fun e => by subst e; exact Nat.lt_irrefl _ hl), HBW1.out.block b hl]
  refine (kclone_any _ _ o.keys.length cs.flatten _ hl2 hSA HC.out.one).mono ?_
  rintro e w2 ⟨v2, rfl, h2, hb2⟩
  rw [hsW] at h2 hb2
  have hs2 := hb2.size
  rw [hsW] at hs2
  have B0 : w2.heap[w.heap.size]? = _ := (hb2.block _ (by omega)).trans HB0.out
  have B1 : w2.heap[w.heap.size + 1]? = _ := (hb2.block _ (by omega)).trans ((Below.heap_setCell _ _ _ _ (by simp)).trans HB1.out)
  have H2 := Lib.hid h2
  have hbw2 : Below w.heap.size w w2 := by
    refine Below.trans (Below.trans HBW1.out ((Below.refl _ w1).setCell (Nat.le_refl _ : _ ≤ (⟨w.heap.size, 0, none⟩ : Addr).block) (.slice a1 o.data.length c1))) (hb2.mono (by omega))
  have D2 : Hid (OB (w.heap.size + 2) w2 (.slice a1 o.data.length c1) o.data) := H1.out.keep fun g' hg' => (hb2.block g' (HD1.out g' hg').2).trans (Below.heap_setCell _ _ _ _ (by have := (HD1.out g' hg').1; show g' ≠ w.heap.size; omega))
  have HW2 := Lib.hid hbw2
  simp only [List.setIfInBounds_toArray, List.set_cons_zero] at B0
  clear x0 x1 x2 f0 f1 f2 hbw2
  rcases h2.2 with ⟨rfl, h0⟩ | ⟨g, cap, cur, rfl, hgl, hgr, -⟩
  · obtain ⟨x1, f1⟩ := blk_cell (i := 1) B0
    obtain ⟨y1, f2⟩ := blk_cell (i := 0) B1
    simp at x1 y1
    go_wp2
    have B0n := set_blk3 (j := 1) (v := .slice none 0 0) B0
    simp only [List.setIfInBounds_toArray, List.set_cons_succ, List.set_cons_zero] at B0n
    have B1n := (Below.heap_setCell w2 ⟨w.heap.size, 1, none⟩ (.slice none 0 0) (w.heap.size + 1) (by simp)).trans B1
    go_loopw [15] (fun q wr => q = .int .i64 0 ∧ wr = w2.setCell ⟨w.heap.size, 1, none⟩ (.slice none 0 0)) (fun _ _ => 0)
    case atStart => exact ⟨rfl, rfl⟩
    case round =>
      obtain ⟨rfl, rfl⟩ := hrel
      obtain ⟨x0, f0⟩ := blk_cell (i := 0) B0n
      obtain ⟨x1, f1⟩ := blk_cell (i := 1) B0n
      obtain ⟨x2, f2⟩ := blk_cell (i := 2) B0n
      obtain ⟨y0, e0⟩ := blk_cell (i := 0) B1n
      obtain ⟨y1, e1⟩ := blk_cell (i := 1) B1n
      obtain ⟨y2, e2⟩ := blk_cell (i := 2) B1n
      simp at x0 x1 x2 y0 y1 y2
      clear B0
      have HB1 := Lib.hid B1n
      generalize hwr : w2.setCell ⟨w.heap.size, 1, none⟩ (.slice none 0 0) = wr at *
      have D3 : Hid (OB (w.heap.size + 2) wr (.slice a1 o.data.length c1) o.data) := by
        show OB _ _ _ _
        rw [← hwr]
        exact D2.out.keep fun g' hg' => Below.heap_setCell _ _ _ _ (by have := (HD1.out g' hg').1; show g' ≠ w.heap.size; omega)
      have HW3 : Hid (Below w.heap.size w wr) := by
        show Below _ _ _
        rw [← hwr]
        exact HW2.out.setCell (Nat.le_refl _ : _ ≤ (⟨w.heap.size, 1, none⟩ : Addr).block) _
      have hke : Hid (o.keys = []) := List.eq_nil_of_length_eq_zero h0
      clear B0n B1n hwr h0
      go_wp2
      refine bodyPost_ret (results_cell_row rfl _ _ (w.heap.size + 1) 41 _ (0, 0) _ rfl (set3_blk HB1.out) Tryz.underlying41 rfl (by kernel_rfl)) rfl ?_
      refine ⟨_, _, rfl, ⟨?_, [], ?_, ?_⟩, ?_⟩
      · exact (D3.out.keep fun g' hg' => set3_ne _ _ _ _ _ (by have := (HD1.out g' hg').1; omega)).base_le (by omega)
      · rw [hke.out]
        exact World.ownsRow_nil _ _ _ _
      · rw [hke.out]
        exact CI.nil _ _ _
      · exact ((HW3.out.setCell (by show _ ≤ w.heap.size + 1; omega) _).setCell (by show _ ≤ w.heap.size + 1; omega) _).setCell (by show _ ≤ w.heap.size + 1; omega) _
  · obtain ⟨x1, f1⟩ := blk_cell (i := 1) B0
    obtain ⟨y1, f2⟩ := blk_cell (i := 0) B1
    simp at x1 y1
    have hgl2 : g < w2.heap.size := (Array.getElem?_eq_some_iff.1 hgr).1
    have B0n := set_blk3 (j := 1) (v := .slice (some ⟨g, 0, none⟩) o.keys.length cap) B0
    simp only [List.setIfInBounds_toArray, List.set_cons_succ, List.set_cons_zero] at B0n
    have B1n := (Below.heap_setCell w2 ⟨w.heap.size, 1, none⟩ (.slice (some ⟨g, 0, none⟩) o.keys.length cap) (w.heap.size + 1) (by simp)).trans B1
    have HB0 := Lib.hid B0n
    have HB1 := Lib.hid B1n
    have hOw : Hid ((w2.setCell ⟨w.heap.size, 1, none⟩ (.slice (some ⟨g, 0, none⟩) o.keys.length cap)).ownsRow w1.heap.size 62 2 (.slice (some ⟨g, 0, none⟩) o.keys.length cap) o.keys.length cs.flatten) :=
      ownsRow_setCell_below H2.out (a := ⟨w.heap.size, 1, none⟩) (by show w.heap.size < _; omega) _
    have D3 : Hid (OB (w.heap.size + 2) (w2.setCell ⟨w.heap.size, 1, none⟩ (.slice (some ⟨g, 0, none⟩) o.keys.length cap)) (.slice a1 o.data.length c1) o.data) :=
      D2.out.keep fun g' hg' => Below.heap_setCell _ _ _ _ (by have := (HD1.out g' hg').1; show g' ≠ w.heap.size; omega)
    have HW3 : Hid (Below w.heap.size w (w2.setCell ⟨w.heap.size, 1, none⟩ (.slice (some ⟨g, 0, none⟩) o.keys.length cap))) := HW2.out.setCell (Nat.le_refl _ : _ ≤ (⟨w.heap.size, 1, none⟩ : Addr).block) _
    have hCI : Hid (CI Fb.key (mixU A w.heap.size w1.heap.size g (w2.setCell ⟨w.heap.size, 1, none⟩ (.slice (some ⟨g, 0, none⟩) o.keys.length cap)) 0) (w2.setCell ⟨w.heap.size, 1, none⟩ (.slice (some ⟨g, 0, none⟩) o.keys.length cap)) cs o.keys) := (clone_start (lo := w1.heap.size) (g := g) HC.out HW3.out (.inr rfl)).weak fun i b _ _ h => mixU_start i b h
    have hsz3 : (w2.setCell ⟨w.heap.size, 1, none⟩ (.slice (some ⟨g, 0, none⟩) o.keys.length cap)).heap.size = w2.heap.size := by simp [World.setCell]
    clear B0 B1 B0n B1n h2 hb2 hgr
    go_wp2
    go_loopw [15] (fun q wr => ∃ (k : Nat) (cs' : List (List Value)), k ≤ o.keys.length ∧ q = .int .i64 k ∧ wr.heap[w.heap.size]? = some (.cells #[.slice a1 o.data.length c1, .slice (some ⟨g, 0, none⟩) o.keys.length cap, .int .i64 o.seq] 41 (0, 0)) ∧
        wr.heap[w.heap.size + 1]? = some (.cells #[.slice none 0 0, .slice none 0 0, .int .i64 0] 41 (0, 0)) ∧
        wr.ownsRow w1.heap.size 62 2 (.slice (some ⟨g, 0, none⟩) o.keys.length cap) o.keys.length cs'.flatten ∧ CI Fb.key (mixU A w.heap.size w1.heap.size g wr k) wr cs' o.keys ∧
        OB (w.heap.size + 2) wr (.slice a1 o.data.length c1) o.data ∧ Below w.heap.size w wr) (fun q _ => o.keys.length - (intOf q).toNat)
    case atStart => exact ⟨0, cs, Nat.zero_le _, rfl, HB0.out, HB1.out, hOw.out, hCI.out, D3.out, HW3.out⟩
    case round =>
      obtain ⟨k, cs', hk, rfl, b0, b1, ow, ci, dd, bw⟩ := hrel
      have HO := Lib.hid ow
      have HC3 := Lib.hid ci
      have HDD := Lib.hid dd
      have HBW := Lib.hid bw
      have hgr : g < wr.heap.size := (ow.lt g rfl).2
      have hwr : w.heap.size + 1 < wr.heap.size := (Array.getElem?_eq_some_iff.1 b1).1
      obtain ⟨x1, f1⟩ := blk_cell (i := 1) b0
      simp at x1
      have HB0 := Lib.hid b0
      have HB1 := Lib.hid b1
      clear ow ci dd bw
      by_cases hlt : k < o.keys.length
      · obtain ⟨v, hv1, hv2⟩ := HC3.out.last hlt
        obtain ⟨va, vc, rfl⟩ := hv2.shape
        have HV := Lib.hid hv2
        have d1 : wr.cell? ⟨g, k * 2 + 1, none⟩ = some (.slice va (o.keys[k]).value.length vc) := (HO.out.cellAt (k * 2 + 1) (by omega)).trans hv1
        have g1 : wr.frozen? ⟨g, k * 2 + 1, none⟩ = false := HO.out.frozenAt _
        have hvl : (o.keys[k]).value.length ≤ 1000000 := HL3.out _ (List.getElem_mem hlt)
        have hvl' := Lib.hid hvl
        clear hv1 hv2 b0 b1
        have gm := hgr
        generalize hky : o.keys[k] = ky at *
        go_wp2
        go_region_with (go_at_call 39; refine (bclone_any _ _ ky.value _ hvl'.out (RB.ext HV.out (Below.refl _ _).drew)).mono ?_; rintro e w3 ⟨v3, rfl, ho3, hb3⟩; obtain ⟨a3, c3, rfl⟩ := ho3.rb.shape; have e1 := cellExt hb3 x1; have g3 : w3.frozen? ⟨g, k * 2 + 1, none⟩ = false := (hb3.frozen (p := ⟨g, k * 2 + 1, none⟩) hgr).trans g1; have e2 := cellExt hb3 d1; have HO3 : Hid (OB wr.heap.size w3 _ _) := Lib.hid ho3; have HB3 : Hid (Below wr.heap.size wr w3) := Lib.hid (((Below.refl _ wr).drew).trans hb3); clear ho3 hb3)
        all_goals
          go_wp2
          go_roundw
          case rel =>
            obtain ⟨cs2, o2, i2⟩ := clone_stepU (F := Fb.key) HO.out HC3.out hlt (by omega) HB3.out (by rw [hky]; exact HO3.out)
            have hwr2 : w1.heap.size ≤ wr.heap.size := by omega
            refine ⟨k + 1, cs2, by omega, by go_num, ?_, ?_, o2, i2, ?_, ?_⟩
            · exact (Below.heap_setCell _ ⟨g, _, none⟩ _ _ (by show _ ≠ g; omega)).trans ((HB3.out.block _ (by omega)).trans HB0.out)
            · exact (Below.heap_setCell _ ⟨g, _, none⟩ _ _ (by show _ ≠ g; omega)).trans ((HB3.out.block _ (by omega)).trans HB1.out)
            · exact (HDD.out.ext HB3.out).keep fun g' hg' => Below.heap_setCell _ ⟨g, _, none⟩ _ _ (by have := (HD1.out g' hg').2; show g' ≠ g; omega)
            · exact (HBW.out.trans (HB3.out.mono (by omega))).setCell (by show _ ≤ g; omega) _
          case measure => simp [intOf]; omega
      · obtain rfl : k = o.keys.length := by omega
        obtain ⟨x0, f0⟩ := blk_cell (i := 0) HB0.out
        obtain ⟨x2, f2⟩ := blk_cell (i := 2) HB0.out
        obtain ⟨y0, e0⟩ := blk_cell (i := 0) HB1.out
        obtain ⟨y1, e1⟩ := blk_cell (i := 1) HB1.out
        obtain ⟨y2, e2⟩ := blk_cell (i := 2) HB1.out
        simp at x0 x2 y0 y1 y2
        go_wp2
        refine bodyPost_ret (results_cell_row rfl _ _ (w.heap.size + 1) 41 _ (0, 0) _ rfl (set3_blk HB1.out) Tryz.underlying41 rfl (by kernel_rfl)) rfl ?_
        have hwr2 : w1.heap.size ≤ g := (HO.out.lt g rfl).1
        have hsm : ∀ A' : Nat → Prop, ¬ A' (w.heap.size + 1) → ∀ x y z, Same A' wr (((wr.setCell ⟨w.heap.size + 1, 0, none⟩ x).setCell ⟨w.heap.size + 1, 1, none⟩ y).setCell ⟨w.heap.size + 1, 2, none⟩ z) := fun A' h x y z =>
          Same.setCell (a := ⟨w.heap.size + 1, 2, none⟩) (Same.setCell (a := ⟨w.heap.size + 1, 1, none⟩) (Same.setCell (a := ⟨w.heap.size + 1, 0, none⟩) (Same.refl _ _) h x) h y) h z
        refine ⟨_, _, rfl, ⟨?_, cs', ?_, ?_⟩, ?_⟩
        · exact (HDD.out.keep fun g' hg' => set3_ne _ _ _ _ _ (by have := (HD1.out g' hg').1; omega)).base_le (by omega)
        · refine owns_base (owns_keep HO.out fun g' hg' => set3_ne _ _ _ _ _ (by simp only [Value.ownBlock, Option.some.injEq] at hg'; omega)) (by omega)
        · refine (HC3.out.weak (Y := fun _ b => w1.heap.size ≤ b ∧ b ≠ g ∧ U8 wr b) fun i b hi _ h => ?_).sameU (fun i b h hl => (hsm (fun b => w1.heap.size ≤ b) (by omega) _ _ _).block b h.1 hl) (by simp [World.setCell]) fun i b _ _ h e => ⟨by have := h.1; omega, ?_, ?_, h.2.2.of_eq e⟩
          · unfold mixU at h
            rw [if_pos hi] at h
            exact h
          · simp only [Value.ownBlock, ne_eq, Option.some.injEq]
            exact fun e => h.2.1 e.symm
          · intro e
            have h1 := (HD1.out b e).2
            have h2 := h.1
            omega
        · exact ((HBW.out.setCell (by show _ ≤ w.heap.size + 1; omega) _).setCell (by show _ ≤ w.heap.size + 1; omega) _).setCell (by show _ ≤ w.heap.size + 1; omega) _
end Go.Proofs.YtohfckkgmijlnaaGreatDoor
