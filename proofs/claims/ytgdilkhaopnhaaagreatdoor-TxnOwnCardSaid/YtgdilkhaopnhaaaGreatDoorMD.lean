/- What object.Do and the reference's Do leave, opened; what stays under any op. No law is named. What is read of an object stands where a box of two slices and a number is written. No function is named. -/
import Derived.Test.YtgdilkhaopnhaaaGreatDoorDo8
import Derived.Test.YtgdilkhaopnhaaaGreatDoorRefR8
import Derived.Test.YtgdilkhaopnhaaaGreatDoorRefD8
import Derived.Test.YtgdilkhaopnhaaaGreatDoorMay8
namespace Go.Proofs.YtgdilkhaopnhaaaGreatDoor
open Go.RowKit Go.WideShapes

theorem DoOut.ways2 {x : DoR} {w w' : World} {e : Ending} (h : DoOut x w e w') : ∃ a c u q, e = .returned (.tuple #[.agg #[.slice a x.o.data.length c, .slice u x.o.keys.length q, .int .i64 x.o.seq], .bool x.there, .bool x.on, .int .i64 x.e]) ∧
    Own8 w.heap.size w' (.slice a x.o.data.length c) (.slice u x.o.keys.length q) x.o ∧ Below w.heap.size w w' := by
  obtain ⟨dv, kv, rfl, hv, hb⟩ := h
  obtain ⟨⟨a, c, rfl⟩, u, q, rfl⟩ := own8_shape hv
  exact ⟨_, _, _, _, rfl, hv, hb⟩
theorem DoOut.ways {x : DoR} {w w' : World} {e : Ending} (h : DoOut x w e w') : ∃ a c u q, e = .returned (.tuple #[.agg #[.slice a x.o.data.length c, .slice u x.o.keys.length q, .int .i64 x.o.seq], .bool x.there, .bool x.on, .int .i64 x.e]) ∧
    ObV (fun b => w.heap.size ≤ b) w' (.agg #[.slice a x.o.data.length c, .slice u x.o.keys.length q, .int .i64 x.o.seq]) x.o ∧ Below w.heap.size w w' := by
  obtain ⟨a, c, u, q, rfl, hv, hb⟩ := h.ways2
  exact ⟨_, _, _, _, rfl, hv.obv, hb⟩
theorem sameB_self (o : ObD) : sameB o o = true := (sameB_iff o o).2 rfl
theorem DoRR.ways {x : DoR} {w w' : World} {e : Ending} (h : DoRR x w e w') : ∃ a c u q, e = .returned (.tuple #[.agg #[.slice a x.o.data.length c, .slice u x.o.keys.length q, .int .i64 x.o.seq], .bool x.there, .bool x.on, .int .i64 x.e]) ∧
    ObV (fun _ => True) w' (.agg #[.slice a x.o.data.length c, .slice u x.o.keys.length q, .int .i64 x.o.seq]) x.o ∧ Below w.heap.size w w' := by
  obtain ⟨dv, kv, rfl, hv, hb⟩ := h
  obtain ⟨d, k, e, hd, hk⟩ := id hv
  simp at e
  obtain ⟨rfl, rfl⟩ := e
  obtain ⟨a, c, rfl⟩ := hd.shape
  obtain ⟨u, q, rfl⟩ := hk.shape
  exact ⟨_, _, _, _, rfl, hv, hb⟩
theorem keyOp_keys {o o2 : ObD} {nm : ByteArray} {v : List UInt8} (ho : o.keys.length ≤ 200) (h : keyOp o nm v = some o2) : o2.keys.length ≤ 100000 := by
  unfold keyOp at h
  split at h
  · cases h
    have h1 := (List.takeWhile_sublist (fun k => ltS k.name nm) (l := o.keys)).length_le
    have h2 := List.length_filter_le (fun k => !decide (k.name = nm)) (o.keys.dropWhile fun k => ltS k.name nm)
    have h3 := (List.dropWhile_sublist (fun k => ltS k.name nm) (l := o.keys)).length_le
    simp only [putK, List.length_append, List.length_cons]
    omega
  · cases h
theorem changeB_keys {o o2 : ObD} {op : OpD} (ho : o.keys.length ≤ 200) (hc : changeB o op = some o2) : o2.keys.length ≤ 100000 := by
  have hd : (dropK o.keys op.name).length ≤ 200 := Nat.le_trans (List.length_filter_le _ _) ho
  unfold changeB at hc
  repeat' split at hc
  all_goals first
    | exact keyOp_keys ho hc
    | (cases hc; done)
    | (obtain rfl := Option.some.inj hc; show _ ≤ _; first | (simp only; omega) | omega)
theorem doG_keys {o : ObD} {th : Bool} {op : OpD} (ho : o.keys.length ≤ 200) : (doG o th op).o.keys.length ≤ 100000 := by
  unfold doG
  split
  · cases hc : changeB o op with
    | none => simp [DoR.no, ObD.none]
    | some o2 =>
      show (if thereB th op.kind = true then o2 else ObD.none).keys.length ≤ _
      cases thereB th op.kind with
      | true => exact changeB_keys ho hc
      | false => simp [ObD.none]
  · simp [DoR.no, ObD.none]
theorem doB_keys {o : ObD} (ho : o.keys.length ≤ 200) (th : Bool) (op : OpD) : (doB o th op).o.keys.length ≤ 100000 := by
  by_cases h : mayB o = true ∧ 1 ≤ op.kind ∧ op.kind ≤ 14
  · rw [doB_good h.1 h.2.1 h.2.2]
    refine doG_keys ?_
    cases th
    · simp [ObD.none]
    · exact ho
  · rw [doB_bad (by
      by_cases h1 : mayB o = true
      · by_cases h2 : 1 ≤ op.kind
        · exact .inr (.inr fun h3 => h ⟨h1, h2, h3⟩)
        · exact .inr (.inl h2)
      · exact .inl (by simpa using h1))]
    simp [DoR.no, ObD.none]
theorem three_cells {w : World} {p : Nat} {a b c : Value} {t : TypeId} (h : w.heap[p]? = some (.cells #[a, b, c] t (0, 0))) :
    w.cell? ⟨p, 0, none⟩ = some a ∧ w.cell? ⟨p, 1, none⟩ = some b ∧ w.cell? ⟨p, 2, none⟩ = some c := ⟨(blk_cell h).1, (blk_cell h).1, (blk_cell h).1⟩
theorem below_nw {w W : World} (h : Below w.heap.size w W) (o : Obj) : Below w.heap.size w (W.alloc o) := h.alloc h.size o
theorem box_a {w w6 : World} {x y z : Value} {t : TypeId} (hb : Below (w.alloc (.cells #[x, y, z] t)).drew.heap.size (w.alloc (.cells #[x, y, z] t)).drew w6) : w6.heap[w.heap.size]? = some (.cells #[x, y, z] t (0, 0)) :=
  (hb.block _ (by show w.heap.size < (w.alloc _).heap.size; simp)).trans (heap_alloc_new w _)
theorem box_b {w w6 : World} {x y z : Value} {t : TypeId} (hb : Below (w.drew.alloc (.cells #[x, y, z] t)).heap.size (w.drew.alloc (.cells #[x, y, z] t)) w6) : w6.heap[w.heap.size]? = some (.cells #[x, y, z] t (0, 0)) :=
  (hb.block _ (by rw [World.size_alloc]; exact Nat.lt_succ_self _)).trans (heap_alloc_new w.drew _)
theorem six_facts {w : World} {p : Nat} {a b c : Value} {t : TypeId} (h : w.heap[p]? = some (.cells #[a, b, c] t (0, 0))) :
    (w.cell? ⟨p, 0, none⟩ = some a ∧ w.frozen? ⟨p, 0, none⟩ = false) ∧ (w.cell? ⟨p, 1, none⟩ = some b ∧ w.frozen? ⟨p, 1, none⟩ = false) ∧ (w.cell? ⟨p, 2, none⟩ = some c ∧ w.frozen? ⟨p, 2, none⟩ = false) := ⟨blk_cell h, blk_cell h, blk_cell h⟩
/-- what a step of a script leaves -/
structure StayR (o : ObD) (th : Bool) (op : OpD) (x : DoR) : Prop where
  no : x.e ≠ 0 → x.there = false ∧ x.on = false ∧ x.o = ObD.none
  lo : x.e = 0 → op.kind ≤ 4 → x.there = th ∧ x.o = o
  hi : x.e = 0 → 4 < op.kind → x.on = true
  nn : x.e = 0 → x.there = false → x.o = ObD.none
  may : x.e = 0 → mayB x.o = true
theorem stay_of {o : ObD} {th : Bool} {op : OpD} (hm : mayB o = true) (hth : th = false → o = ObD.none) : StayR o th op (doB o th op) := by
  by_cases hk : 1 ≤ op.kind ∧ op.kind ≤ 14
  · rw [doB_good hm hk.1 hk.2]
    have ho : (if th then o else ObD.none) = o := by
      cases th
      · exact (hth rfl).symm
      · rfl
    rw [ho]
    by_cases hg : (guardB o th op).1 = 0
    · cases hc : changeB o op with
      | none =>
        rw [doG_n hg hc]
        exact ⟨fun _ => ⟨rfl, rfl, rfl⟩, fun h => absurd h (by decide), fun h => absurd h (by decide), fun _ _ => rfl, fun _ => mayB_none⟩
      | some o2 =>
        rw [doG_s hg hc]
        refine ⟨fun h => absurd rfl h, fun _ h4 => ?_, fun _ h4 => ?_, fun _ h => ?_, fun _ => ?_⟩
        · have e := changeB_lo (o := o) hk.1 h4
          rw [hc] at e
          obtain rfl := Option.some.inj e
          refine ⟨thereB_lo h4, ?_⟩
          show (if thereB th op.kind = true then o2 else ObD.none) = o2
          rw [thereB_lo h4]
          exact ho
        · rw [guardB_hi (by omega)]
        · show (if thereB th op.kind = true then o2 else ObD.none) = ObD.none
          have h : thereB th op.kind = false := h
          rw [h]
          rfl
        · show mayB (if thereB th op.kind = true then o2 else ObD.none) = true
          split
          · exact changeB_may hm hc
          · exact mayB_none
    · rw [doG_g hg]
      exact ⟨fun _ => ⟨rfl, rfl, rfl⟩, fun h => absurd h hg, fun h => absurd h hg, fun _ _ => rfl, fun _ => mayB_none⟩
  · rw [doB_bad (by
      by_cases h1 : 1 ≤ op.kind
      · exact .inr (.inr fun h2 => hk ⟨h1, h2⟩)
      · exact .inr (.inl h1))]
    exact ⟨fun _ => ⟨rfl, rfl, rfl⟩, fun h => absurd h (by decide), fun h => absurd h (by decide), fun _ _ => rfl, fun _ => mayB_none⟩
end Go.Proofs.YtgdilkhaopnhaaaGreatDoor
namespace Go.Proofs.YtgdilkhaopnhaaaGreatDoor
open Go.RowKit Go.WideShapes

/-- a box of two slices and a number -/
def BoxO (cs : Array Value) : Prop := ∀ u ∈ cs, (∃ a n c, u = .slice a n c) ∨ (∃ s, u = .int .i64 s) ∨ ∃ b, u = .bool b
theorem boxO3 (a u : Option Addr) (n c m q : Nat) (s : Int) : BoxO #[.slice a n c, .slice u m q, .int .i64 s] := by
  intro x hx
  simp at hx
  rcases hx with rfl | rfl | rfl
  · exact .inl ⟨_, _, _, rfl⟩
  · exact .inl ⟨_, _, _, rfl⟩
  · exact .inr (.inl ⟨_, rfl⟩)
theorem boxO4 (a u : Option Addr) (n c m q : Nat) (s : Int) (b : Bool) : BoxO #[.slice a n c, .slice u m q, .int .i64 s, .bool b] := by
  intro x hx
  simp at hx
  rcases hx with rfl | rfl | rfl | rfl
  · exact .inl ⟨_, _, _, rfl⟩
  · exact .inl ⟨_, _, _, rfl⟩
  · exact .inr (.inl ⟨_, rfl⟩)
  · exact .inr (.inr ⟨_, rfl⟩)
theorem boxB (b : Bool) : BoxO #[.bool b] := by
  intro x hx
  simp at hx
  exact .inr (.inr ⟨_, hx⟩)
theorem boxI (s : Int) : BoxO #[.int .i64 s] := by
  intro x hx
  simp at hx
  exact .inr (.inl ⟨_, hx⟩)
theorem SlA.past {A : Nat → Prop} {w w' : World} {size n p : Nat} {v : Value} {xs : List Value} {cs : Array Value} {t : TypeId} (h : SlA A w size v n xs)
    (hp : w.heap[p]? = some (.cells cs t (0, 0))) (hx : ∀ u, xs[0]? = some u → u ∉ cs) (hs : w.heap.size ≤ w'.heap.size) (hb : ∀ b, b ≠ p → b < w.heap.size → w'.heap[b]? = w.heap[b]?) : SlA A w' size v n xs := by
  obtain ⟨h1, h2⟩ := h
  refine ⟨h1, h2.imp id ?_⟩
  rintro ⟨b, off, cap, rfl, hl, hA, hc, hcell⟩
  refine ⟨b, off, cap, rfl, by omega, hA, hc, fun j hj => ?_⟩
  have hne : b ≠ p := by
    rintro rfl
    have h0 := hcell 0 (by omega)
    have hx0 : 0 < xs.length := by omega
    have e0 : xs[0]? = some xs[0] := List.getElem?_eq_getElem hx0
    rw [(blk_cell hp).1, e0] at h0
    exact hx _ e0 (Array.mem_of_getElem? h0)
  rw [← hcell j hj]
  exact World.cell?_of_block (hb b hne hl)
theorem RB.past {A : Nat → Prop} {w w' : World} {p : Nat} {v : Value} {l : List UInt8} {cs : Array Value} {t : TypeId} (h : RB A w v l)
    (hp : w.heap[p]? = some (.cells cs t (0, 0))) (hB : BoxO cs) (hs : w.heap.size ≤ w'.heap.size) (hb : ∀ b, b ≠ p → b < w.heap.size → w'.heap[b]? = w.heap[b]?) : RB A w' v l := by
  refine SlA.past h hp (fun u hu hm => ?_) hs hb
  have hmem := List.mem_of_getElem? hu
  obtain ⟨x, -, rfl⟩ := List.mem_map.1 hmem
  rcases hB _ hm with ⟨_, _, _, e⟩ | ⟨_, e⟩ | ⟨_, e⟩ <;> simp [bv] at e
theorem Keys.past {A : Nat → Prop} {w w' : World} {p : Nat} {v : Value} {l : List KyD} {cs : Array Value} {t : TypeId} (h : SlE Enc.key A w v l)
    (hp : w.heap[p]? = some (.cells cs t (0, 0))) (hB : BoxO cs) (hs : w.heap.size ≤ w'.heap.size) (hb : ∀ b, b ≠ p → b < w.heap.size → w'.heap[b]? = w.heap[b]?) : SlE Enc.key A w' v l := by
  obtain ⟨ks, h1, h2, h3⟩ := h.flat
  refine SlE.of_flat h1 (fun i x c hi hc => ?_) (h3.past hp (fun u hu hm => ?_) hs hb)
  · obtain ⟨v, e, hv⟩ := h2 i x c hi hc
    exact ⟨v, e, hv.past hp hB hs hb⟩
  · cases ks with
    | nil => simp at hu
    | cons c ks =>
      have hl : 0 < l.length := by rw [← h1]; simp
      obtain ⟨v, rfl, -⟩ := h2 0 l[0] c (List.getElem?_eq_getElem hl) rfl
      simp at hu
      subst hu
      rcases hB _ hm with ⟨_, _, _, e⟩ | ⟨_, e⟩ | ⟨_, e⟩ <;> cases e
theorem ObV.past {A : Nat → Prop} {w w' : World} {p : Nat} {v : Value} {o : ObD} {cs : Array Value} {t : TypeId} (h : ObV A w v o)
    (hp : w.heap[p]? = some (.cells cs t (0, 0))) (hB : BoxO cs) (hs : w.heap.size ≤ w'.heap.size) (hb : ∀ b, b ≠ p → b < w.heap.size → w'.heap[b]? = w.heap[b]?) : ObV A w' v o := by
  obtain ⟨dv, kv, rfl, hd, hk⟩ := h
  exact ⟨dv, kv, rfl, hd.past hp hB hs hb, Keys.past hk hp hB hs hb⟩
theorem owns_past {w w' : World} {base size n p : Nat} {e t : TypeId} {v : Value} {xs : List Value} {cs : Array Value} {fr : Nat × Nat} (h : w.ownsRow base e size v n xs)
    (hp : w.heap[p]? = some (.cells cs t fr)) (ht : t ≠ e) (hb : ∀ b, b ≠ p → b < w.heap.size → w'.heap[b]? = w.heap[b]?) : w'.ownsRow base e size v n xs := by
  refine owns_keep h fun g hg => hb g ?_ (h.lt g hg).2
  rintro rfl
  rcases h.2 with ⟨rfl, _⟩ | ⟨g', cap, cur, rfl, _, h2, _⟩
  · simp [Value.ownBlock] at hg
  · simp only [Value.ownBlock, Option.some.injEq] at hg
    subst hg
    rw [h2] at hp
    simp only [Option.some.injEq, Obj.cells.injEq] at hp
    exact ht hp.2.1.symm
theorem Own8.past {base p : Nat} {w w' : World} {dv kv : Value} {o : ObD} {cs : Array Value} {t : TypeId} (h : Own8 base w dv kv o)
    (hp : w.heap[p]? = some (.cells cs t (0, 0))) (ht1 : t ≠ 5) (ht2 : t ≠ 47) (hB : BoxO cs) (hs : w.heap.size ≤ w'.heap.size) (hb : ∀ b, b ≠ p → b < w.heap.size → w'.heap[b]? = w.heap[b]?) : Own8 base w' dv kv o := by
  obtain ⟨hd, ks, hk, hc⟩ := h
  refine ⟨owns_past hd hp ht1 hb, ks, owns_past hk hp ht2 hb, hc.len, fun i x c hi hci => ?_⟩
  obtain ⟨v, e, hv⟩ := hc.at_ i x c hi hci
  refine ⟨v, e, (hv.past hp hB hs hb).weak fun b _ h => ⟨h.1, h.2.1, h.2.2.1, ?_⟩⟩
  obtain ⟨c1, hc1⟩ := h.2.2.2
  refine U8.of_eq ⟨c1, hc1⟩ (hb b ?_ (Array.getElem?_eq_some_iff.1 hc1).1)
  rintro rfl
  rw [hc1] at hp
  simp only [Option.some.injEq, Obj.cells.injEq] at hp
  exact ht1 hp.2.1.symm
theorem set4_blk {w : World} {p : Nat} {t : TypeId} {a b c d x y z u : Value} (h : w.heap[p]? = some (.cells #[a, b, c, d] t (0, 0))) :
    ((((w.setCell ⟨p, 0, none⟩ x).setCell ⟨p, 1, none⟩ y).setCell ⟨p, 2, none⟩ z).setCell ⟨p, 3, none⟩ u).heap[p]? = some (.cells #[x, y, z, u] t (0, 0)) := by
  simp [World.setCell, Array.getElem?_modify, h]
theorem set4_past {w : World} {p : Nat} (x y z u : Value) : w.heap.size ≤ ((((w.setCell ⟨p, 0, none⟩ x).setCell ⟨p, 1, none⟩ y).setCell ⟨p, 2, none⟩ z).setCell ⟨p, 3, none⟩ u).heap.size ∧
    ∀ b, b ≠ p → b < w.heap.size → ((((w.setCell ⟨p, 0, none⟩ x).setCell ⟨p, 1, none⟩ y).setCell ⟨p, 2, none⟩ z).setCell ⟨p, 3, none⟩ u).heap[b]? = w.heap[b]? :=
  ⟨by simp [World.setCell], fun _ hb _ => (Below.heap_setCell _ _ _ _ hb).trans (set3_ne _ _ _ _ _ hb)⟩
theorem four_cells {w : World} {p : Nat} {a b c d : Value} {t : TypeId} (h : w.heap[p]? = some (.cells #[a, b, c, d] t (0, 0))) :
    (w.cell? ⟨p, 0, none⟩ = some a ∧ w.frozen? ⟨p, 0, none⟩ = false) ∧ (w.cell? ⟨p, 1, none⟩ = some b ∧ w.frozen? ⟨p, 1, none⟩ = false) ∧ (w.cell? ⟨p, 2, none⟩ = some c ∧ w.frozen? ⟨p, 2, none⟩ = false) ∧ (w.cell? ⟨p, 3, none⟩ = some d ∧ w.frozen? ⟨p, 3, none⟩ = false) := ⟨blk_cell h, blk_cell h, blk_cell h, blk_cell h⟩
theorem set3_past {w : World} {p : Nat} (x y z : Value) : w.heap.size ≤ (((w.setCell ⟨p, 0, none⟩ x).setCell ⟨p, 1, none⟩ y).setCell ⟨p, 2, none⟩ z).heap.size ∧
    ∀ b, b ≠ p → b < w.heap.size → (((w.setCell ⟨p, 0, none⟩ x).setCell ⟨p, 1, none⟩ y).setCell ⟨p, 2, none⟩ z).heap[b]? = w.heap[b]? :=
  ⟨by simp [World.setCell], fun _ hb _ => set3_ne _ _ _ _ _ hb⟩
end Go.Proofs.YtgdilkhaopnhaaaGreatDoor
