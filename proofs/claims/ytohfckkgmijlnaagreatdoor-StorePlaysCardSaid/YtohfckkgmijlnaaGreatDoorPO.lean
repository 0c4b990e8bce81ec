/- The walk of terrazzoref08.Do, whole. What may be may be behind any op: the plain law. No program is named. What object.Do and the reference's Do leave, opened; what stays under any op. No law is named. Transactions, plainly: what a transaction makes of an object; done twice; two behind each other. No program is named. A store of objects by name, plainly: what a transaction answers, what the store becomes. No program is named. What is read of bytes, keys, ops, objects stands where blocks that are no cells, or boxes of numbers, slices, pointers, are written. No function is named. A store in memory: its box, its map, the objects that it keeps. -/
import Derived.Test.YtohfckkgmijlnaaGreatDoorRefM8
import Derived.Test.YtohfckkgmijlnaaGreatDoorRefN8
import Derived.Test.YtohfckkgmijlnaaGreatDoorRefO8
import Derived.Test.YtohfckkgmijlnaaGreatDoorRefQ8
import Derived.Test.YtohfckkgmijlnaaGreatDoorPD
import Derived.Test.YtohfckkgmijlnaaGreatDoorPI
import Derived.Test.YtohfckkgmijlnaaGreatDoorPL
import Derived.Test.YtohfckkgmijlnaaGreatDoorPK
import Derived.Test.YtohfckkgmijlnaaGreatDoorPJ
import Derived.Test.YtohfckkgmijlnaaGreatDoorPB
namespace Go.Proofs.YtohfckkgmijlnaaGreatDoor
open Go.RowKit Go.WideShapes

theorem rdo_good (A B : Nat → Prop) (v : Value) (o : ObD) (th : Bool) (k off n : Int) (nm : ByteArray) (oa : Option Addr) (oc : Nat) (d : List UInt8) (w : World)
    (hv : ObV A w v o) (hm : mayB o = true) (h1 : 1 ≤ k) (h2 : k ≤ 14) (hd : RB B w (.slice oa d.length oc) d) (hl : d.length ≤ 50000) :
    Calls Tryz.prog 32 #[v, .bool th, opV k off n nm oa d.length oc] w (DoRR (doG (if th then o else ObD.none) th ⟨k, off, n, nm, d⟩) w) := by
  obtain rfl | rfl | rfl | rfl | rfl | rfl | rfl | rfl | rfl | rfl | rfl | rfl | rfl | rfl : k = 1 ∨ k = 2 ∨ k = 3 ∨ k = 4 ∨ k = 5 ∨ k = 6 ∨ k = 7 ∨ k = 8 ∨ k = 9 ∨ k = 10 ∨ k = 11 ∨ k = 12 ∨ k = 13 ∨ k = 14 := by omega
  all_goals cases th
  · exact rdo_1_false A B v o off n nm oa oc d w hv hm hd hl
  · exact rdo_1_true A B v o off n nm oa oc d w hv hm hd hl
  · exact rdo_2_false A B v o off n nm oa oc d w hv hm hd hl
  · exact rdo_2_true A B v o off n nm oa oc d w hv hm hd hl
  · exact rdo_3_false A B v o off n nm oa oc d w hv hm hd hl
  · exact rdo_3_true A B v o off n nm oa oc d w hv hm hd hl
  · exact rdo_4_false A B v o off n nm oa oc d w hv hm hd hl
  · exact rdo_4_true A B v o off n nm oa oc d w hv hm hd hl
  · exact rdo_5_false A B v o off n nm oa oc d w hv hm hd hl
  · exact rdo_5_true A B v o off n nm oa oc d w hv hm hd hl
  · exact rdo_6_false A B v o off n nm oa oc d w hv hm hd hl
  · exact rdo_6_true A B v o off n nm oa oc d w hv hm hd hl
  · exact rdo_7_false A B v o off n nm oa oc d w hv hm hd hl
  · exact rdo_7_true A B v o off n nm oa oc d w hv hm hd hl
  · exact rdo_8_false A B v o off n nm oa oc d w hv hm hd hl
  · exact rdo_8_true A B v o off n nm oa oc d w hv hm hd hl
  · exact rdo_9_false A B v o off n nm oa oc d w hv hm hd hl
  · exact rdo_9_true A B v o off n nm oa oc d w hv hm hd hl
  · exact rdo_10_false A B v o off n nm oa oc d w hv hm hd hl
  · exact rdo_10_true A B v o off n nm oa oc d w hv hm hd hl
  · exact rdo_11_false A B v o off n nm oa oc d w hv hm hd hl
  · exact rdo_11_true A B v o off n nm oa oc d w hv hm hd hl
  · exact rdo_12_false A B v o off n nm oa oc d w hv hm hd hl
  · exact rdo_12_true A B v o off n nm oa oc d w hv hm hd hl
  · exact rdo_13_false A B v o off n nm oa oc d w hv hm hd hl
  · exact rdo_13_true A B v o off n nm oa oc d w hv hm hd hl
  · exact rdo_14_false A B v o off n nm oa oc d w hv hm hd hl
  · exact rdo_14_true A B v o off n nm oa oc d w hv hm hd hl
theorem rdo_any (A B : Nat → Prop) (v : Value) (o : ObD) (th : Bool) (k off n : Int) (nm : ByteArray) (oa : Option Addr) (oc : Nat) (d : List UInt8) (w : World)
    (hv : ObV A w v o) (ho : o.okl) (hd : RB B w (.slice oa d.length oc) d) (hl : d.length ≤ 50000) :
    Calls Tryz.prog 32 #[v, .bool th, opV k off n nm oa d.length oc] w (DoRR (doB o th ⟨k, off, n, nm, d⟩) w) := by
  cases hm : mayB o with
  | false => exact rdo_bad A v o th k off n nm oa oc d w hv ho (.inl hm)
  | true =>
    by_cases h1 : 1 ≤ k
    · by_cases h2 : k ≤ 14
      · rw [doB_good hm h1 h2]
        exact rdo_good A B v o th k off n nm oa oc d w hv hm h1 h2 hd hl
      · exact rdo_bad A v o th k off n nm oa oc d w hv ho (.inr (.inr h2))
    · exact rdo_bad A v o th k off n nm oa oc d w hv ho (.inr (.inl h1))
end Go.Proofs.YtohfckkgmijlnaaGreatDoor
namespace Go.Proofs.YtohfckkgmijlnaaGreatDoor
open Go.RowKit

/-- names rise, each is right, each value is short enough: as pairs -/
theorem fine_iff (ks : List KyD) : Fine ks ↔ (∀ k ∈ ks, nameB k.name = true ∧ k.value.length ≤ 2048) ∧ ks.Pairwise fun a b => ltS a.name b.name = true := by
  constructor
  · intro h
    refine ⟨fun k hk => ?_, ?_⟩
    · obtain ⟨i, hi, rfl⟩ := List.getElem_of_mem hk
      exact h.key i _ (List.getElem?_eq_getElem hi)
    · rw [List.pairwise_iff_getElem]
      intro i j hi hj hij
      exact h.up i j _ _ hij (List.getElem?_eq_getElem hi) (List.getElem?_eq_getElem hj)
  · rintro ⟨h1, h2⟩
    rw [List.pairwise_iff_getElem] at h2
    refine ⟨fun i k hk => h1 k (List.mem_of_getElem? hk), fun i j a b hij ha hb => ?_⟩
    obtain ⟨hi, rfl⟩ := List.getElem?_eq_some_iff.1 ha
    obtain ⟨hj, rfl⟩ := List.getElem?_eq_some_iff.1 hb
    exact h2 i j hi hj hij
theorem tw_all {α : Type} (q : α → Bool) : ∀ (l : List α), ∀ x ∈ l.takeWhile q, q x = true
  | [], x, h => by simp at h
  | y :: l, x, h => by
    rw [List.takeWhile_cons] at h
    split at h
    · rename_i hy
      rcases List.mem_cons.1 h with rfl | h
      · exact hy
      · exact tw_all q l x h
    · simp at h
theorem dw_ge {ks : List KyD} {nm : ByteArray} (hp : ks.Pairwise fun a b => ltS a.name b.name = true) : ∀ k ∈ ks.dropWhile (fun k => ltS k.name nm), ltS k.name nm = false := by
  induction ks with
  | nil => intro k hk; simp at hk
  | cons a t ih =>
    rw [List.pairwise_cons] at hp
    intro k hk
    rw [List.dropWhile_cons] at hk
    split at hk
    · exact ih hp.2 k hk
    · rename_i ha
      have ha : ltS a.name nm = false := by simpa using ha
      rcases List.mem_cons.1 hk with rfl | hk
      · exact ha
      · cases h : ltS k.name nm with
        | false => rfl
        | true => rw [ltS_trans (hp.1 k hk) h] at ha; cases ha
theorem fine_put {ks : List KyD} {nm : ByteArray} {v : List UInt8} (hf : Fine ks) (hn : nameB nm = true) (hv : v.length ≤ 2048) : Fine (putK ks nm v) := by
  rw [fine_iff] at hf ⊢
  obtain ⟨h1, h2⟩ := hf
  have htw : ∀ k ∈ ks.takeWhile (fun k => ltS k.name nm), ltS k.name nm = true := fun k hk => tw_all (fun k : KyD => ltS k.name nm) ks k hk
  have hsubT : ∀ k ∈ ks.takeWhile (fun k => ltS k.name nm), k ∈ ks := fun k hk => (List.takeWhile_sublist _).subset hk
  have hsubD : ∀ k ∈ ks.dropWhile (fun k => ltS k.name nm), k ∈ ks := fun k hk => (List.dropWhile_sublist _).subset hk
  have hgt : ∀ b ∈ (ks.dropWhile fun k => ltS k.name nm).filter (fun k => !decide (k.name = nm)), ltS nm b.name = true := by
    intro b hb
    obtain ⟨hb1, hb2⟩ := List.mem_filter.1 hb
    have hge := dw_ge h2 b hb1
    cases hl : ltS nm b.name with
    | true => rfl
    | false =>
      have := ltS_tri hge hl
      simp [this] at hb2
  unfold putK
  refine ⟨fun k hk => ?_, ?_⟩
  · rcases List.mem_append.1 hk with hk | hk
    · exact h1 k (hsubT k hk)
    · rcases List.mem_cons.1 hk with rfl | hk
      · exact ⟨hn, hv⟩
      · exact h1 k (hsubD k (List.mem_filter.1 hk).1)
  · rw [List.pairwise_append]
    refine ⟨h2.sublist (List.takeWhile_sublist _), ?_, ?_⟩
    · rw [List.pairwise_cons]
      exact ⟨fun b hb => hgt b hb, h2.sublist ((List.filter_sublist).trans (List.dropWhile_sublist _))⟩
    · intro a ha b hb
      rcases List.mem_cons.1 hb with rfl | hb
      · exact htw a ha
      · exact ltS_trans (htw a ha) (hgt b hb)
theorem fine_drop {ks : List KyD} {nm : ByteArray} (hf : Fine ks) : Fine (dropK ks nm) := by
  rw [fine_iff] at hf ⊢
  exact ⟨fun k hk => hf.1 k (List.mem_filter.1 hk).1, hf.2.sublist List.filter_sublist⟩
theorem dropK_len {ks : List KyD} {nm : ByteArray} : (dropK ks nm).length ≤ ks.length := List.length_filter_le _ _
theorem write_len {l x : List UInt8} {f : Nat} (hl : l.length ≤ 64) (h : f + x.length ≤ 64) : (writeD l f x).length ≤ 64 := by
  unfold writeD
  simp only [List.length_append, List.length_take, List.length_drop, List.length_replicate]
  omega
theorem zero_len {l : List UInt8} {f m : Nat} (hl : l.length ≤ 64) : (zeroD l f m).length ≤ 64 := by
  unfold zeroD
  simp only [List.length_append, List.length_take, List.length_drop, List.length_replicate]
  omega
theorem keyOp_may {o o2 : ObD} {nm : ByteArray} {v : List UInt8} (hm : mayB o = true) (h : keyOp o nm v = some o2) : mayB o2 = true := by
  obtain ⟨h1, h2, h3, h4, hf⟩ := (mayB_iff o).1 hm
  unfold keyOp at h
  split at h
  · rename_i hc
    simp only [Bool.and_eq_true, decide_eq_true_eq, Bool.or_eq_true] at hc
    obtain ⟨⟨hn, hv⟩, hk⟩ := hc
    cases h
    refine (mayB_iff _).2 ⟨h1, ?_, h3, h4, fine_put hf hn hv⟩
    show (putK o.keys nm v).length ≤ 120
    cases hh : hasK o.keys nm with
    | true =>
      obtain ⟨hp, -, e, -⟩ := putK_old (v := v) hf hh
      rw [e]
      simp
      omega
    | false =>
      have hk : o.keys.length < 120 := by
        rcases hk with hk | hk
        · rw [hh] at hk; cases hk
        · exact hk
      rw [putK_new hh]
      have := posK_le o.keys nm
      simp
      omega
  · cases h
theorem changeB_may {o o2 : ObD} {op : OpD} (hm : mayB o = true) (hc : changeB o op = some o2) : mayB o2 = true := by
  obtain ⟨h1, h2, h3, h4, hf⟩ := (mayB_iff o).1 hm
  have hd : ∀ l : List UInt8, l.length ≤ 64 → mayB { o with data := l } = true := fun l hl => (mayB_iff _).2 ⟨hl, h2, h3, h4, hf⟩
  have hk := dropK_len (nm := op.name) (ks := o.keys)
  unfold changeB at hc
  split at hc
  · split at hc
    · rename_i hs
      obtain rfl := Option.some.inj hc
      simp only [spotB, Bool.and_eq_true, decide_eq_true_eq] at hs
      exact hd _ (write_len h1 (by omega))
    · cases hc
  · split at hc
    · split at hc
      · obtain rfl := Option.some.inj hc
        exact hd _ (zero_len h1)
      · cases hc
    · split at hc
      · split at hc
        · obtain rfl := Option.some.inj hc
          exact hd _ (by rw [List.length_take]; omega)
        · cases hc
      · split at hc
        · split at hc
          · obtain rfl := Option.some.inj hc
            exact hd _ (by omega)
          · cases hc
        · split at hc
          · exact keyOp_may hm hc
          · split at hc
            · obtain rfl := Option.some.inj hc
              exact (mayB_iff _).2 ⟨h1, Nat.le_trans hk h2, h3, h4, fine_drop hf⟩
            · split at hc
              · split at hc
                · obtain rfl := Option.some.inj hc; exact hm
                · exact keyOp_may hm hc
              · split at hc
                · split at hc
                  · rename_i hs
                    obtain rfl := Option.some.inj hc
                    exact (mayB_iff _).2 ⟨h1, h2, hs.1, hs.2, hf⟩
                  · cases hc
                · split at hc
                  · split at hc
                    · rename_i hs
                      obtain rfl := Option.some.inj hc
                      exact hd _ hs
                    · cases hc
                  · obtain rfl := Option.some.inj hc; exact hm
end Go.Proofs.YtohfckkgmijlnaaGreatDoor
namespace Go.Proofs.YtohfckkgmijlnaaGreatDoor
open Go.RowKit Go.WideShapes

theorem DoOut.ways2 {x : DoR} {w w' : World} {e : Ending} (h : DoOut x w e w') : ∃ a c u q, e = .returned (.tuple #[.agg #[.slice a x.o.data.length c, .slice u x.o.keys.length q, .int .i64 x.o.seq], .bool x.there, .bool x.on, .int .i64 x.e]) ∧
    Own8 w.heap.size w' (.slice a x.o.data.length c) (.slice u x.o.keys.length q) x.o ∧ Below w.heap.size w w' := by
  obtain ⟨dv, kv, rfl, hv, hb⟩ := h
  obtain ⟨⟨a, c, rfl⟩, u, q, rfl⟩ := own8_shape hv
  exact ⟨_, _, _, _, rfl, hv, hb⟩
theorem DoOut.ways {x : DoR} {w w' : World} {e : Ending} (h : DoOut x w e w') : ∃ a c u q, e = .returned (.tuple #[.agg #[.slice a x.o.data.length c, .slice u x.o.keys.length q, .int .i64 x.o.seq], .bool x.there, .bool x.on, .int .i64 x.e]) ∧
    ObV (fun b => w.heap.size ≤ b) w' (.agg #[.slice a x.o.data.length c, .slice u x.o.keys.length q, .int .i64 x.o.seq]) x.o ∧ Below w.heap.size w w' := by
  obtain ⟨a, c, u, q, rfl, hv, hb⟩ := h.ways2
  exact ⟨_, _, _, _, rfl, hv.obv, hb⟩
theorem sameB_self (o : ObD) : sameB o o = true := (sameB_iff o o).2 rfl
theorem DoRR.ways {x : DoR} {w w' : World} {e : Ending} (h : DoRR x w e w') : ∃ a c u q, e = .returned (.tuple #[.agg #[.slice a x.o.data.length c, .slice u x.o.keys.length q, .int .i64 x.o.seq], .bool x.there, .bool x.on, .int .i64 x.e]) ∧
    ObV (fun _ => True) w' (.agg #[.slice a x.o.data.length c, .slice u x.o.keys.length q, .int .i64 x.o.seq]) x.o ∧ Below w.heap.size w w' := by
  obtain ⟨dv, kv, rfl, hv, hb⟩ := h
  obtain ⟨d, k, e, hd, hk⟩ := id hv
  simp at e
  obtain ⟨rfl, rfl⟩ := e
  obtain ⟨a, c, rfl⟩ := hd.shape
  obtain ⟨u, q, rfl⟩ := hk.shape
  exact ⟨_, _, _, _, rfl, hv, hb⟩
theorem keyOp_keys {o o2 : ObD} {nm : ByteArray} {v : List UInt8} (ho : o.keys.length ≤ 200) (h : keyOp o nm v = some o2) : o2.keys.length ≤ 100000 := by
  unfold keyOp at h
  split at h
  · cases h
    have h1 := (List.takeWhile_sublist (fun k => ltS k.name nm) (l := o.keys)).length_le
    have h2 := List.length_filter_le (fun k => !decide (k.name = nm)) (o.keys.dropWhile fun k => ltS k.name nm)
    have h3 := (List.dropWhile_sublist (fun k => ltS k.name nm) (l := o.keys)).length_le
    simp only [putK, List.length_append, List.length_cons]
    omega
  · cases h
theorem changeB_keys {o o2 : ObD} {op : OpD} (ho : o.keys.length ≤ 200) (hc : changeB o op = some o2) : o2.keys.length ≤ 100000 := by
  have hd : (dropK o.keys op.name).length ≤ 200 := Nat.le_trans (List.length_filter_le _ _) ho
  unfold changeB at hc
  repeat' split at hc
  all_goals first
    | exact keyOp_keys ho hc
    | (cases hc; done)
    | (obtain rfl := Option.some.inj hc; show _ ≤ _; first | (simp only; omega) | omega)
theorem doG_keys {o : ObD} {th : Bool} {op : OpD} (ho : o.keys.length ≤ 200) : (doG o th op).o.keys.length ≤ 100000 := by
  unfold doG
  split
  · cases hc : changeB o op with
    | none => simp [DoR.no, ObD.none]
    | some o2 =>
      show (if thereB th op.kind = true then o2 else ObD.none).keys.length ≤ _
      cases thereB th op.kind with
      | true => exact changeB_keys ho hc
      | false => simp [ObD.none]
  · simp [DoR.no, ObD.none]
theorem doB_keys {o : ObD} (ho : o.keys.length ≤ 200) (th : Bool) (op : OpD) : (doB o th op).o.keys.length ≤ 100000 := by
  by_cases h : mayB o = true ∧ 1 ≤ op.kind ∧ op.kind ≤ 14
  · rw [doB_good h.1 h.2.1 h.2.2]
    refine doG_keys ?_
    cases th
    · simp [ObD.none]
    · exact ho
  · rw [doB_bad (by
      by_cases h1 : mayB o = true
      · by_cases h2 : 1 ≤ op.kind
        · exact .inr (.inr fun h3 => h ⟨h1, h2, h3⟩)
        · exact .inr (.inl h2)
      · exact .inl (by simpa using h1))]
    simp [DoR.no, ObD.none]
theorem three_cells {w : World} {p : Nat} {a b c : Value} {t : TypeId} (h : w.heap[p]? = some (.cells #[a, b, c] t (0, 0))) :
    w.cell? ⟨p, 0, none⟩ = some a ∧ w.cell? ⟨p, 1, none⟩ = some b ∧ w.cell? ⟨p, 2, none⟩ = some c := ⟨(blk_cell h).1, (blk_cell h).1, (blk_cell h).1⟩
theorem below_nw {w W : World} (h : Below w.heap.size w W) (o : Obj) : Below w.heap.size w (W.alloc o) := h.alloc h.size o
theorem box_a {w w6 : World} {x y z : Value} {t : TypeId} (hb : Below (w.alloc (.cells #[x, y, z] t)).drew.heap.size (w.alloc (.cells #[x, y, z] t)).drew w6) : w6.heap[w.heap.size]? = some (.cells #[x, y, z] t (0, 0)) :=
  (hb.block _ (by show w.heap.size < (w.alloc _).heap.size; simp)).trans (heap_alloc_new w _)
theorem box_b {w w6 : World} {x y z : Value} {t : TypeId} (hb : Below (w.drew.alloc (.cells #[x, y, z] t)).heap.size (w.drew.alloc (.cells #[x, y, z] t)) w6) : w6.heap[w.heap.size]? = some (.cells #[x, y, z] t (0, 0)) :=
  (hb.block _ (by rw [World.size_alloc]; exact Nat.lt_succ_self _)).trans (heap_alloc_new w.drew _)
theorem six_facts {w : World} {p : Nat} {a b c : Value} {t : TypeId} (h : w.heap[p]? = some (.cells #[a, b, c] t (0, 0))) :
    (w.cell? ⟨p, 0, none⟩ = some a ∧ w.frozen? ⟨p, 0, none⟩ = false) ∧ (w.cell? ⟨p, 1, none⟩ = some b ∧ w.frozen? ⟨p, 1, none⟩ = false) ∧ (w.cell? ⟨p, 2, none⟩ = some c ∧ w.frozen? ⟨p, 2, none⟩ = false) := ⟨blk_cell h, blk_cell h, blk_cell h⟩
/-- what a step of a script leaves -/
structure StayR (o : ObD) (th : Bool) (op : OpD) (x : DoR) : Prop where
  no : x.e ≠ 0 → x.there = false ∧ x.on = false ∧ x.o = ObD.none
  lo : x.e = 0 → op.kind ≤ 4 → x.there = th ∧ x.o = o
  hi : x.e = 0 → 4 < op.kind → x.on = true
  nn : x.e = 0 → x.there = false → x.o = ObD.none
  may : x.e = 0 → mayB x.o = true
theorem stay_of {o : ObD} {th : Bool} {op : OpD} (hm : mayB o = true) (hth : th = false → o = ObD.none) : StayR o th op (doB o th op) := by
  by_cases hk : 1 ≤ op.kind ∧ op.kind ≤ 14
  · rw [doB_good hm hk.1 hk.2]
    have ho : (if th then o else ObD.none) = o := by
      cases th
      · exact (hth rfl).symm
      · rfl
    rw [ho]
    by_cases hg : (guardB o th op).1 = 0
    · cases hc : changeB o op with
      | none =>
        rw [doG_n hg hc]
        exact ⟨fun _ => ⟨rfl, rfl, rfl⟩, fun h => absurd h (by decide), fun h => absurd h (by decide), fun _ _ => rfl, fun _ => mayB_none⟩
      | some o2 =>
        rw [doG_s hg hc]
        refine ⟨fun h => absurd rfl h, fun _ h4 => ?_, fun _ h4 => ?_, fun _ h => ?_, fun _ => ?_⟩
        · have e := changeB_lo (o := o) hk.1 h4
          rw [hc] at e
          obtain rfl := Option.some.inj e
          refine ⟨thereB_lo h4, ?_⟩
          show (if thereB th op.kind = true then o2 else ObD.none) = o2
          rw [thereB_lo h4]
          exact ho
        · rw [guardB_hi (by omega)]
        · show (if thereB th op.kind = true then o2 else ObD.none) = ObD.none
          have h : thereB th op.kind = false := h
          rw [h]
          rfl
        · show mayB (if thereB th op.kind = true then o2 else ObD.none) = true
          split
          · exact changeB_may hm hc
          · exact mayB_none
    · rw [doG_g hg]
      exact ⟨fun _ => ⟨rfl, rfl, rfl⟩, fun h => absurd h hg, fun h => absurd h hg, fun _ _ => rfl, fun _ => mayB_none⟩
  · rw [doB_bad (by
      by_cases h1 : 1 ≤ op.kind
      · exact .inr (.inr fun h2 => hk ⟨h1, h2⟩)
      · exact .inr (.inl h1))]
    exact ⟨fun _ => ⟨rfl, rfl, rfl⟩, fun h => absurd h (by decide), fun h => absurd h (by decide), fun _ _ => rfl, fun _ => mayB_none⟩
end Go.Proofs.YtohfckkgmijlnaaGreatDoor
namespace Go.Proofs.YtohfckkgmijlnaaGreatDoor
open Go.RowKit

/-- an object behind a transaction, whether it is there, the error -/
structure TDoR where
  o : ObD
  there : Bool
  e : Int
def TDoR.no (e : Int) : TDoR := ⟨ObD.none, false, e⟩
def runT (o : ObD) (th : Bool) : List OpD → TDoR
  | [] => ⟨o, th, 0⟩
  | op :: l => if (doB o th op).e = 0 then (if (doB o th op).on = true then runT (doB o th op).o (doB o th op).there l else ⟨(doB o th op).o, (doB o th op).there, 0⟩) else TDoR.no (doB o th op).e
def txDo (o : ObD) (th : Bool) (t : TxD) : TDoR :=
  if txE t = 0 then (if mayB o = true then runT (if th then o else ObD.none) th t.ops else TDoR.no 1) else TDoR.no (txE t)
theorem txE_ok' {t : TxD} (h : txE t = 0) : t.ops.length ≤ 12 ∧ ∀ op ∈ t.ops, opP op := by
  unfold txE at h
  split at h
  · cases h
  · split at h
    · rename_i h1 h2
      simp only [Bool.and_eq_true] at h2
      exact ⟨by omega, fun o ho => of_decide_eq_true (List.all_eq_true.1 h2.2 o ho)⟩
    · cases h
theorem runT_nil (o : ObD) (th : Bool) : runT o th [] = ⟨o, th, 0⟩ := rfl
theorem runT_go {o : ObD} {th : Bool} {op : OpD} {l : List OpD} (h : (doB o th op).e = 0) (hon : (doB o th op).on = true) : runT o th (op :: l) = runT (doB o th op).o (doB o th op).there l := by
  rw [runT, if_pos h, if_pos hon]
theorem runT_halt {o : ObD} {th : Bool} {op : OpD} {l : List OpD} (h : (doB o th op).e = 0) (hon : (doB o th op).on = false) : runT o th (op :: l) = ⟨(doB o th op).o, (doB o th op).there, 0⟩ := by
  rw [runT, if_pos h, if_neg (by rw [hon]; decide)]
theorem runT_bad {o : ObD} {th : Bool} {op : OpD} {l : List OpD} (h : (doB o th op).e ≠ 0) : runT o th (op :: l) = TDoR.no (doB o th op).e := by
  rw [runT, if_neg h]
theorem runT_no : ∀ (l : List OpD) (o : ObD) (th : Bool), (runT o th l).e ≠ 0 → runT o th l = TDoR.no (runT o th l).e
  | [], o, th, h => absurd rfl h
  | op :: l, o, th, h => by
    by_cases h0 : (doB o th op).e = 0
    · cases hon : (doB o th op).on with
      | true => rw [runT_go h0 hon] at h ⊢; exact runT_no l _ _ h
      | false => rw [runT_halt h0 hon] at h; exact absurd rfl h
    · rw [runT_bad h0]; rfl
theorem runT_may : ∀ (l : List OpD) (o : ObD) (th : Bool), mayB o = true → (th = false → o = ObD.none) → (runT o th l).e = 0 → mayB (runT o th l).o = true ∧ ((runT o th l).there = false → (runT o th l).o = ObD.none)
  | [], o, th, hm, hn, _ => ⟨hm, hn⟩
  | op :: l, o, th, hm, hn, h => by
    have hs := stay_of (op := op) hm hn
    by_cases h0 : (doB o th op).e = 0
    · cases hon : (doB o th op).on with
      | true => rw [runT_go h0 hon] at h ⊢; exact runT_may l _ _ (hs.may h0) (hs.nn h0) h
      | false => rw [runT_halt h0 hon]; exact ⟨hs.may h0, hs.nn h0⟩
    · rw [runT_bad h0] at h; exact absurd h h0
theorem guardB_on {o : ObD} {th : Bool} {op : OpD} (h : (guardB o th op).1 = 0) (hk : op.kind ≠ 4) : (guardB o th op).2 = true := by
  unfold guardB at *
  repeat' split at h
  all_goals simp_all
theorem doB_on {o : ObD} {th : Bool} {op : OpD} (h : (doB o th op).e = 0) (hk : op.kind ≠ 4) : (doB o th op).on = true := by
  by_cases hg : mayB o = true ∧ 1 ≤ op.kind ∧ op.kind ≤ 14
  · rw [doB_good hg.1 hg.2.1 hg.2.2] at h ⊢
    by_cases h1 : (guardB (if th then o else ObD.none) th op).1 = 0
    · cases hc : changeB (if th then o else ObD.none) op with
      | none => rw [doG_n h1 hc] at h; cases h
      | some o2 => rw [doG_s h1 hc]; exact guardB_on h1 hk
    · rw [doG_g h1] at h; exact absurd h h1
  · rw [doB_bad (by
      by_cases h1 : mayB o = true
      · by_cases h2 : 1 ≤ op.kind
        · exact .inr (.inr fun h3 => hg ⟨h1, h2, h3⟩)
        · exact .inr (.inl h2)
      · exact .inl (by simpa using h1))] at h
    cases h
/-- ops in two parts; the first says nowhere that it is enough -/
theorem runT_app : ∀ (l m : List OpD) (o : ObD) (th : Bool), (∀ op ∈ l, op.kind ≠ 4) → runT o th (l ++ m) = if (runT o th l).e = 0 then runT (runT o th l).o (runT o th l).there m else runT o th l
  | [], m, o, th, _ => by rw [runT_nil, if_pos rfl]; rfl
  | op :: l, m, o, th, hk => by
    rw [List.cons_append]
    by_cases h0 : (doB o th op).e = 0
    · have hon := doB_on h0 (hk op (List.mem_cons_self ..))
      rw [runT_go h0 hon, runT_go h0 hon]
      exact runT_app l m _ _ fun x hx => hk x (List.mem_cons_of_mem _ hx)
    · rw [runT_bad h0, runT_bad h0]
      exact (if_neg h0).symm
theorem thereB_true {k : Int} (h : k ≠ 13) : thereB true k = true := by
  unfold thereB
  split
  · rfl
  · rfl
theorem doB_there {o : ObD} {op : OpD} (h : (doB o true op).e = 0) (hk : op.kind ≠ 13) : (doB o true op).there = true := by
  by_cases hg : mayB o = true ∧ 1 ≤ op.kind ∧ op.kind ≤ 14
  · rw [doB_good hg.1 hg.2.1 hg.2.2, if_pos rfl] at h ⊢
    by_cases h1 : (guardB o true op).1 = 0
    · cases hc : changeB o op with
      | none => rw [doG_n h1 hc] at h; cases h
      | some o2 => rw [doG_s h1 hc]; exact thereB_true hk
    · rw [doG_g h1] at h; exact absurd h h1
  · rw [doB_bad (by
      by_cases h1 : mayB o = true
      · by_cases h2 : 1 ≤ op.kind
        · exact .inr (.inr fun h3 => hg ⟨h1, h2, h3⟩)
        · exact .inr (.inl h2)
      · exact .inl (by simpa using h1))] at h
    cases h
theorem runT_there : ∀ (l : List OpD) (o : ObD), (∀ op ∈ l, op.kind ≠ 13) → (runT o true l).e = 0 → (runT o true l).there = true
  | [], o, _, _ => rfl
  | op :: l, o, hk, h => by
    by_cases h0 : (doB o true op).e = 0
    · have ht := doB_there h0 (hk op (List.mem_cons_self ..))
      cases hon : (doB o true op).on with
      | true =>
        rw [runT_go h0 hon, ht] at h ⊢
        exact runT_there l _ (fun x hx => hk x (List.mem_cons_of_mem _ hx)) h
      | false => rw [runT_halt h0 hon]; exact ht
    · rw [runT_bad h0] at h; exact absurd h h0
theorem doB_below {o : ObD} {nm : ByteArray} {d : List UInt8} {off n : Int} (hm : mayB o = true) : doB o true ⟨4, off, n, nm, d⟩ = ⟨o, true, decide (o.seq < n), 0⟩ := by
  rw [doB_good hm (of_decide_eq_true rfl) (of_decide_eq_true rfl), if_pos rfl]
  rw [doG_s (o2 := o) (by unfold guardB; simp) (changeB_lo (of_decide_eq_true rfl) (of_decide_eq_true rfl))]
  simp [guardB, thereB]
theorem doB_seq {o : ObD} {nm : ByteArray} {d : List UInt8} {off n : Int} (hm : mayB o = true) (h0 : 0 ≤ n) (h1 : n ≤ 1099511627776) : doB o true ⟨12, off, n, nm, d⟩ = ⟨{ o with seq := n }, true, true, 0⟩ := by
  rw [doB_good hm (of_decide_eq_true rfl) (of_decide_eq_true rfl), if_pos rfl]
  rw [doG_some (o2 := { o with seq := n }) (of_decide_eq_true rfl) (by unfold changeB; simp [h0, h1])]
  simp [thereB]
def opBelow (n : Int) : OpD := ⟨4, 0, n, ByteArray.empty, []⟩
def opSeq (n : Int) : OpD := ⟨12, 0, n, ByteArray.empty, []⟩
theorem txDo_bad {o : ObD} {th : Bool} {t : TxD} (h : (txDo o th t).e ≠ 0) : txDo o th t = TDoR.no (txDo o th t).e := by
  by_cases h1 : txE t = 0
  · by_cases h2 : mayB o = true
    · have e : txDo o th t = runT (if th then o else ObD.none) th t.ops := by unfold txDo; rw [if_pos h1, if_pos h2]
      rw [e] at h ⊢
      exact runT_no _ _ _ h
    · have e : txDo o th t = TDoR.no 1 := by unfold txDo; rw [if_pos h1, if_neg h2]
      rw [e]
      rfl
  · have e : txDo o th t = TDoR.no (txE t) := by unfold txDo; rw [if_neg h1]
    rw [e]
    rfl
theorem txDo_ok {o : ObD} {th : Bool} {t : TxD} (h : (txDo o th t).e = 0) : txE t = 0 ∧ mayB o = true ∧ txDo o th t = runT (if th then o else ObD.none) th t.ops := by
  unfold txDo at *
  split at h
  · rename_i h1
    split at h
    · rename_i h2
      rw [if_pos h1, if_pos h2]
      exact ⟨h1, h2, rfl⟩
    · cases h
  · rename_i h1
    exact absurd h h1
/-- done twice it is done once -/
theorem twice {o : ObD} {n : Int} {nm : ByteArray} {l : List OpD} (hl : ∀ op ∈ l, op.kind ≠ 4 ∧ op.kind ≠ 13) (h : (txDo o true ⟨nm, opBelow n :: (l ++ [opSeq n])⟩).e = 0) :
    (txDo o true ⟨nm, opBelow n :: (l ++ [opSeq n])⟩).there = true ∧
    txDo (txDo o true ⟨nm, opBelow n :: (l ++ [opSeq n])⟩).o true ⟨nm, opBelow n :: (l ++ [opSeq n])⟩ = txDo o true ⟨nm, opBelow n :: (l ++ [opSeq n])⟩ ∧
    ((o.seq < n ∧ (txDo o true ⟨nm, opBelow n :: (l ++ [opSeq n])⟩).o.seq = n) ∨ (n ≤ o.seq ∧ (txDo o true ⟨nm, opBelow n :: (l ++ [opSeq n])⟩).o = o)) := by
  obtain ⟨hE, hm, hr⟩ := txDo_ok h
  rw [if_pos rfl] at hr
  have hn : 0 ≤ n ∧ n ≤ 1099511627776 := by
    have := (txE_ok' hE).2 (opSeq n) (by simp)
    exact ⟨this.2.2.2.2.1, this.2.2.2.2.2.1⟩
  have hb := doB_below (o := o) (nm := ByteArray.empty) (d := []) (off := 0) (n := n) hm
  by_cases hlt : o.seq < n
  · have hd : (doB o true (opBelow n)).on = true := by unfold opBelow; rw [hb]; exact decide_eq_true hlt
    have he : (doB o true (opBelow n)).e = 0 := by unfold opBelow; rw [hb]
    have hr2 : runT o true (opBelow n :: (l ++ [opSeq n])) = runT o true (l ++ [opSeq n]) := by
      rw [runT_go he hd]; unfold opBelow; rw [hb]
    have hr3 := hr.trans hr2
    rw [runT_app l [opSeq n] o true fun x hx => (hl x hx).1] at hr3
    rw [hr3] at h
    by_cases h0 : (runT o true l).e = 0
    · rw [if_pos h0] at h hr3
      have ht := runT_there l o (fun x hx => (hl x hx).2) h0
      have hmm := (runT_may l o true hm (fun h => by cases h) h0).1
      rw [ht] at hr3
      have hs := doB_seq (o := (runT o true l).o) (nm := ByteArray.empty) (d := []) (off := 0) (n := n) hmm hn.1 hn.2
      have hr4 : runT (runT o true l).o true [opSeq n] = ⟨{ (runT o true l).o with seq := n }, true, 0⟩ := by
        unfold opSeq
        rw [runT_go (by rw [hs]) (by rw [hs]), hs]
        rfl
      rw [hr4] at hr3
      rw [hr3]
      refine ⟨rfl, ?_, .inl ⟨hlt, rfl⟩⟩
      have hm2 : mayB { (runT o true l).o with seq := n } = true := by
        obtain ⟨a1, a2, -, -, a5⟩ := (mayB_iff _).1 hmm
        exact (mayB_iff _).2 ⟨a1, a2, hn.1, hn.2, a5⟩
      have hb2 := doB_below (o := { (runT o true l).o with seq := n }) (nm := ByteArray.empty) (d := []) (off := 0) (n := n) hm2
      unfold txDo
      rw [if_pos hE, if_pos hm2, if_pos rfl]
      have hx : runT { (runT o true l).o with seq := n } true (opBelow n :: (l ++ [opSeq n])) = ⟨{ (runT o true l).o with seq := n }, true, 0⟩ := by
        rw [runT_halt (by unfold opBelow; rw [hb2]) (by unfold opBelow; rw [hb2]; simp)]
        unfold opBelow
        rw [hb2]
      exact hx
    · rw [if_neg h0] at h; exact absurd h h0
  · have hd : (doB o true (opBelow n)).on = false := by unfold opBelow; rw [hb]; exact decide_eq_false hlt
    have he : (doB o true (opBelow n)).e = 0 := by unfold opBelow; rw [hb]
    have hr2 : runT o true (opBelow n :: (l ++ [opSeq n])) = ⟨o, true, 0⟩ := by
      rw [runT_halt he hd]; unfold opBelow; rw [hb]
    have hr3 := hr.trans hr2
    rw [hr3]
    exact ⟨rfl, hr3, .inr ⟨by omega, rfl⟩⟩
/-- where one op is refused nothing is done; where none is, ops in two transactions are done in one -/
theorem txE_le {nm : ByteArray} {l : List OpD} (hl : l.length ≤ 12) : txE ⟨nm, l⟩ = if nameB nm && l.all opB then 0 else 1 := by
  unfold txE
  rw [if_neg (by show ¬ 12 < l.length; omega)]
theorem txAll {o : ObD} {nm : ByteArray} {l m : List OpD} (hk : ∀ op ∈ l, op.kind ≠ 4) (hlen : (l ++ m).length ≤ 12) :
    txDo o true ⟨nm, l ++ m⟩ = if (txDo o true ⟨nm, l⟩).e = 0 then txDo (txDo o true ⟨nm, l⟩).o (txDo o true ⟨nm, l⟩).there ⟨nm, m⟩ else TDoR.no (if (txDo o true ⟨nm, l⟩).e = 1 ∨ txE ⟨nm, m⟩ ≠ 0 then 1 else (txDo o true ⟨nm, l⟩).e) := by
  have h1 : l.length ≤ 12 := by simp at hlen; omega
  have h2 : m.length ≤ 12 := by simp at hlen; omega
  have e0 := txE_le (nm := nm) hlen
  have e1 := txE_le (nm := nm) h1
  have e2 := txE_le (nm := nm) h2
  rw [List.all_append] at e0
  by_cases hl : (nameB nm && l.all opB) = true
  · rw [if_pos hl] at e1
    simp only [Bool.and_eq_true] at hl
    by_cases hm : m.all opB = true
    · have e0' : txE ⟨nm, l ++ m⟩ = 0 := by rw [e0, if_pos (by simp [hl.1, hl.2, hm])]
      have e2' : txE ⟨nm, m⟩ = 0 := by rw [e2, if_pos (by simp [hl.1, hm])]
      by_cases hma : mayB o = true
      · have r0 : txDo o true ⟨nm, l ++ m⟩ = runT o true (l ++ m) := by unfold txDo; rw [if_pos e0', if_pos hma]; rfl
        have r1 : txDo o true ⟨nm, l⟩ = runT o true l := by unfold txDo; rw [if_pos e1, if_pos hma]; rfl
        rw [r0, r1, runT_app l m o true hk]
        by_cases h0 : (runT o true l).e = 0
        · rw [if_pos h0, if_pos h0]
          have hmm := runT_may l o true hma (fun h => by cases h) h0
          unfold txDo
          rw [if_pos e2', if_pos hmm.1]
          cases ht : (runT o true l).there with
          | true => rfl
          | false =>
            rw [hmm.2 ht]
            rfl
        · rw [if_neg h0, if_neg h0]
          have := runT_no l o true h0
          by_cases h1' : (runT o true l).e = 1
          · rw [if_pos (.inl h1'), this, h1']
          · rw [if_neg (by rintro (h | h); exact h1' h; exact h e2'), ← this]
      · have r0 : txDo o true ⟨nm, l ++ m⟩ = TDoR.no 1 := by unfold txDo; rw [if_pos e0', if_neg hma]
        have r1 : txDo o true ⟨nm, l⟩ = TDoR.no 1 := by unfold txDo; rw [if_pos e1, if_neg hma]
        rw [r0, r1]
        rfl
    · have e0' : txE ⟨nm, l ++ m⟩ = 1 := by rw [e0, if_neg (by simp [hm])]
      have e2' : txE ⟨nm, m⟩ = 1 := by rw [e2, if_neg (by simp [hm])]
      have r0 : txDo o true ⟨nm, l ++ m⟩ = TDoR.no 1 := by unfold txDo; rw [e0', if_neg (by decide)]
      have r2 : ∀ o' th', txDo o' th' ⟨nm, m⟩ = TDoR.no 1 := fun o' th' => by unfold txDo; rw [e2', if_neg (by decide)]
      rw [r0, r2, e2']
      split
      · rfl
      · rw [if_pos (.inr (by decide))]
  · rw [if_neg hl] at e1
    have e0' : txE ⟨nm, l ++ m⟩ = 1 := by
      rw [e0, if_neg]
      intro h
      simp only [Bool.and_eq_true] at h
      exact hl (by simp [h.1, h.2.1])
    have r0 : txDo o true ⟨nm, l ++ m⟩ = TDoR.no 1 := by unfold txDo; rw [e0', if_neg (by decide)]
    have r1 : txDo o true ⟨nm, l⟩ = TDoR.no 1 := by unfold txDo; rw [e1, if_neg (by decide)]
    rw [r0, r1]
    rfl
end Go.Proofs.YtohfckkgmijlnaaGreatDoor
namespace Go.Proofs.YtohfckkgmijlnaaGreatDoor
open Go.RowKit

structure StD where
  room : Nat
  l : List (ByteArray × ObD)
def StD.is (s : StD) (nm : ByteArray) : Bool := (getS nm s.l).isSome
def StD.obj (s : StD) (nm : ByteArray) : ObD := (getS nm s.l).getD ObD.none
/-- the store behind a transaction, and its answer -/
def stDo (s : StD) (t : TxD) : StD × Int :=
  let x := txDo (s.obj t.obj) (s.is t.obj) t
  if x.e ≠ 0 then (s, x.e)
  else if x.there = false then (⟨s.room, delS t.obj s.l⟩, 0)
  else if s.is t.obj = false ∧ s.room ≤ s.l.length then (s, 110)
  else (⟨s.room, putS t.obj x.o s.l⟩, 0)
section
variable {s : StD} {t : TxD}
theorem stDo_bad (h : (txDo (s.obj t.obj) (s.is t.obj) t).e ≠ 0) : stDo s t = (s, (txDo (s.obj t.obj) (s.is t.obj) t).e) := if_pos h
theorem stDo_gone (h : (txDo (s.obj t.obj) (s.is t.obj) t).e = 0) (h1 : (txDo (s.obj t.obj) (s.is t.obj) t).there = false) : stDo s t = (⟨s.room, delS t.obj s.l⟩, 0) := by
  unfold stDo
  simp only [h, h1, ne_eq, not_true_eq_false, if_false, if_true]
theorem stDo_full (h : (txDo (s.obj t.obj) (s.is t.obj) t).e = 0) (h1 : (txDo (s.obj t.obj) (s.is t.obj) t).there = true) (h2 : s.is t.obj = false) (h3 : s.room ≤ s.l.length) : stDo s t = (s, 110) := by
  unfold stDo
  simp only [h, h1, ne_eq, not_true_eq_false, if_false, Bool.true_eq_false]
  rw [if_pos ⟨h2, h3⟩]
theorem stDo_put (h : (txDo (s.obj t.obj) (s.is t.obj) t).e = 0) (h1 : (txDo (s.obj t.obj) (s.is t.obj) t).there = true) (h2 : ¬ (s.is t.obj = false ∧ s.room ≤ s.l.length)) : stDo s t = (⟨s.room, putS t.obj (txDo (s.obj t.obj) (s.is t.obj) t).o s.l⟩, 0) := by
  unfold stDo
  simp only [h, h1, ne_eq, not_true_eq_false, if_false, Bool.true_eq_false]
  rw [if_neg h2]
theorem stDo_room : (stDo s t).1.room = s.room := by
  unfold stDo
  simp only
  repeat' split
  all_goals rfl
end
theorem runT_mays : ∀ (l : List OpD) (o : ObD) (th : Bool), mayB o = true → (th = false → o = ObD.none) → mayB (runT o th l).o = true
  | [], o, th, hm, hn => hm
  | op :: l, o, th, hm, hn => by
    have hs := stay_of (op := op) hm hn
    by_cases h0 : (doB o th op).e = 0
    · cases hon : (doB o th op).on with
      | true => rw [runT_go h0 hon]; exact runT_mays l _ _ (hs.may h0) (hs.nn h0)
      | false => rw [runT_halt h0 hon]; exact hs.may h0
    · rw [runT_bad h0]; exact mayB_none
theorem txDo_mays (o : ObD) (th : Bool) (t : TxD) : mayB (txDo o th t).o = true := by
  unfold txDo
  split
  · split
    · rename_i h2
      cases th with
      | false => exact runT_mays _ _ _ mayB_none fun _ => rfl
      | true => exact runT_mays _ _ _ h2 fun h => by cases h
    · exact mayB_none
  · exact mayB_none
theorem txDo_name {o : ObD} {th : Bool} {t : TxD} (h : (txDo o th t).e = 0) : nameB t.obj = true := by
  unfold txDo at h
  split at h
  · rename_i h1
    unfold txE at h1
    split at h1
    · cases h1
    · split at h1
      · rename_i h2
        rw [Bool.and_eq_true] at h2
        exact h2.1
      · cases h1
  · rename_i h1
    exact absurd h h1
/-- what stays true of a store -/
structure StOk (s : StD) : Prop where
  mk ::
  up : UpS s.l
  may : ∀ p ∈ s.l, mayB p.2 = true
  nm : ∀ p ∈ s.l, nameB p.1 = true
  len : s.l.length ≤ s.room
  room : s.room ≤ 300
theorem StOk.new {r : Nat} (h : r ≤ 300) : StOk ⟨r, []⟩ := ⟨List.Pairwise.nil, fun p hp => by simp at hp, fun p hp => by simp at hp, Nat.zero_le _, h⟩
theorem getS_mem {β : Type} {k : ByteArray} {l : List (ByteArray × β)} {v : β} (h : getS k l = some v) : (k, v) ∈ l := by
  unfold getS at h
  cases hf : l.find? (fun p => decide (p.1 = k)) with
  | none => rw [hf] at h; cases h
  | some p =>
    rw [hf] at h
    cases h
    have h1 := List.find?_some hf
    have h2 := List.mem_of_find?_eq_some hf
    simp at h1
    rw [← h1]
    exact h2
theorem getS_none {β : Type} {k : ByteArray} {l : List (ByteArray × β)} : getS k l = none ↔ ∀ p ∈ l, p.1 ≠ k := by
  unfold getS
  simp [Option.map_eq_none_iff, List.find?_eq_none]
theorem getS_some {β : Type} {k : ByteArray} {l : List (ByteArray × β)} : (getS k l).isSome = true ↔ ∃ p ∈ l, p.1 = k := by
  cases h : getS k l with
  | none =>
    have := getS_none.1 h
    constructor
    · intro h1; cases h1
    · rintro ⟨p, hp, e⟩; exact absurd e (this p hp)
  | some v => simp; exact ⟨_, getS_mem h⟩
theorem delS_len {β : Type} (k : ByteArray) (l : List (ByteArray × β)) : (delS k l).length ≤ l.length := List.length_filter_le _ _
theorem delS_none {β : Type} {k : ByteArray} {l : List (ByteArray × β)} (h : getS k l = none) : delS k l = l := by
  have := getS_none.1 h
  exact List.filter_eq_self.2 fun p hp => by simp [this p hp]
theorem delS_lt {β : Type} {k : ByteArray} {l : List (ByteArray × β)} (h : (getS k l).isSome = true) : (delS k l).length < l.length := by
  obtain ⟨p, hp, rfl⟩ := getS_some.1 h
  unfold delS
  exact List.length_filter_lt_length_iff_exists.2 ⟨p, hp, by simp⟩
theorem putS_len {β : Type} (k : ByteArray) (v : β) (l : List (ByteArray × β)) : (putS k v l).length = (delS k l).length + 1 := insS_length _ _
theorem getS_put {β : Type} {k k' : ByteArray} {v : β} {l : List (ByteArray × β)} (h : UpS l) : getS k' (putS k v l) = if k' = k then some v else getS k' l := by
  have hu := putS_up (k := k) (v := v) h
  by_cases e : k' = k
  · subst e
    rw [if_pos rfl]
    have hm : (k', v) ∈ putS k' v l := putS_mem.2 (.inl rfl)
    cases hg : getS k' (putS k' v l) with
    | none => exact absurd rfl (getS_none.1 hg _ hm)
    | some x =>
      have hx := getS_mem hg
      rcases putS_mem.1 hx with hx | ⟨_, hx⟩
      · cases hx; rfl
      · exact absurd rfl hx
  · rw [if_neg e]
    have hone : ∀ {l : List (ByteArray × β)}, UpS l → ∀ {x y : β}, (k', x) ∈ l → (k', y) ∈ l → x = y := by
      intro l hl x y hx hy
      induction l with
      | nil => cases hx
      | cons q r ih =>
        have hq := List.pairwise_cons.1 hl
        rcases List.mem_cons.1 hx with hx | hx
        · rcases List.mem_cons.1 hy with hy | hy
          · rw [← hx] at hy; cases hy; rfl
          · have := hq.1 _ hy
            rw [← hx, lessS_irrefl] at this
            cases this
        · rcases List.mem_cons.1 hy with hy | hy
          · have := hq.1 _ hx
            rw [← hy, lessS_irrefl] at this
            cases this
          · exact ih hq.2 hx hy
    cases hg : getS k' l with
    | none =>
      refine getS_none.2 fun p hp => ?_
      rcases putS_mem.1 hp with rfl | ⟨hp, _⟩
      · exact fun h => e h.symm
      · exact getS_none.1 hg p hp
    | some x =>
      have hx := getS_mem hg
      have hx2 : (k', x) ∈ putS k v l := putS_mem.2 (.inr ⟨hx, e⟩)
      cases hg2 : getS k' (putS k v l) with
      | none => exact absurd rfl (getS_none.1 hg2 _ hx2)
      | some y => rw [hone hu (getS_mem hg2) hx2]
theorem getS_del {β : Type} {k k' : ByteArray} {l : List (ByteArray × β)} : getS k' (delS k l) = if k' = k then none else getS k' l := by
  by_cases e : k' = k
  · subst e
    rw [if_pos rfl]
    exact getS_none.2 fun p hp => (delS_mem.1 hp).2
  · rw [if_neg e]
    unfold getS delS
    rw [List.find?_filter]
    congr 2
    funext p
    by_cases h : p.1 = k'
    · have : ¬ p.1 = k := fun h2 => e (h.symm.trans h2)
      simp [h]
      exact fun h2 => this (h.trans h2)
    · simp [h]
theorem stDo_ok {s : StD} (h : StOk s) (t : TxD) : StOk (stDo s t).1 := by
  by_cases he : (txDo (s.obj t.obj) (s.is t.obj) t).e = 0
  · have hn := txDo_name he
    cases ht : (txDo (s.obj t.obj) (s.is t.obj) t).there with
    | false =>
      rw [stDo_gone he ht]
      exact ⟨delS_up h.up, fun p hp => h.may p (delS_mem.1 hp).1, fun p hp => h.nm p (delS_mem.1 hp).1, Nat.le_trans (delS_len _ _) h.len, h.room⟩
    | true =>
      by_cases hf : s.is t.obj = false ∧ s.room ≤ s.l.length
      · rw [stDo_full he ht hf.1 hf.2]; exact h
      · rw [stDo_put he ht hf]
        refine ⟨putS_up h.up, fun p hp => ?_, fun p hp => ?_, ?_, h.room⟩
        · rcases putS_mem.1 hp with rfl | hp
          · exact txDo_mays _ _ _
          · exact h.may p hp.1
        · rcases putS_mem.1 hp with rfl | hp
          · exact hn
          · exact h.nm p hp.1
        · rw [putS_len]
          cases hi : s.is t.obj with
          | true =>
            have := delS_lt hi
            have := h.len
            show _ ≤ s.room
            omega
          | false =>
            have := delS_len t.obj s.l
            have : ¬ s.room ≤ s.l.length := fun h2 => hf ⟨hi, h2⟩
            show _ ≤ s.room
            omega
  · rw [stDo_bad he]; exact h
theorem StOk.obj {s : StD} (h : StOk s) (nm : ByteArray) : mayB (s.obj nm) = true := by
  unfold StD.obj
  cases hg : getS nm s.l with
  | none => exact mayB_none
  | some v => exact h.may _ (getS_mem hg)
end Go.Proofs.YtohfckkgmijlnaaGreatDoor
namespace Go.Proofs.YtohfckkgmijlnaaGreatDoor
open Go.RowKit Go.WideShapes

/-- a value that tells its row from a box -/
def Hard (u : Value) : Prop := (∃ s, u = .string s) ∨ ∃ x, u = .int .u8 x
/-- a box of numbers, slices, pointers, maps -/
def BoxP (cs : Array Value) : Prop := ∀ u ∈ cs, ¬ Hard u
structure Soft (w w' : World) : Prop where
  mk ::
  size : w.heap.size ≤ w'.heap.size
  blk : ∀ b, b < w.heap.size → w'.heap[b]? = w.heap[b]? ∨ ∀ cs t fr, w.heap[b]? = some (.cells cs t fr) → BoxP cs
theorem Soft.refl (w : World) : Soft w w := ⟨Nat.le_refl _, fun _ _ => .inl rfl⟩
theorem Soft.trans {w w' w'' : World} (h : Soft w w') (k : Soft w' w'') : Soft w w'' := by
  refine ⟨Nat.le_trans h.size k.size, fun b hb => ?_⟩
  rcases h.blk b hb with h1 | h1
  · rcases k.blk b (Nat.lt_of_lt_of_le hb h.size) with k1 | k1
    · exact .inl (k1.trans h1)
    · exact .inr fun cs t fr e => k1 cs t fr (h1.trans e)
  · exact .inr h1
theorem Soft.of_ext {w w' : World} (h : Below w.heap.size w w') : Soft w w' := ⟨h.size, fun b hb => .inl (h.block b hb)⟩
theorem Soft.of_fr {w w' : World} {S : Nat → Prop} (h : Fr S w w') (hs : ∀ b, S b → ∀ cs t fr, w.heap[b]? = some (.cells cs t fr) → BoxP cs) : Soft w w' := by
  refine ⟨h.size, fun b hb => ?_⟩
  by_cases hS : S b
  · exact .inr (hs b hS)
  · exact .inl (h.block b hb hS)
theorem Soft.setCell {w : World} {p j : Nat} {cs : Array Value} {t : TypeId} (hp : w.heap[p]? = some (.cells cs t (0, 0))) (hB : BoxP cs) (v : Value) : Soft w (w.setCell ⟨p, j, none⟩ v) := by
  refine ⟨by simp [World.setCell], fun b _ => ?_⟩
  by_cases hb : b = p
  · subst hb
    exact .inr fun cs' t' fr' e => by rw [hp] at e; cases e; exact hB
  · exact .inl (Below.heap_setCell _ _ _ _ hb)
theorem cells_of_cell {w : World} {b j : Nat} {u : Value} (h : w.cell? ⟨b, j, none⟩ = some u) : ∃ cs t fr, w.heap[b]? = some (.cells cs t fr) ∧ u ∈ cs := by
  unfold World.cell? at h
  split at h
  · rename_i c t fr e
    simp at h
    exact ⟨c, t, fr, e, Array.mem_of_getElem? h⟩
  · cases h
theorem SlA.soft {A : Nat → Prop} {w w' : World} {size n : Nat} {v : Value} {xs : List Value} (h : SlA A w size v n xs) (hx : xs ≠ [] → ∃ (i : Nat) (u : Value), xs[i]? = some u ∧ Hard u) (hs : Soft w w') : SlA A w' size v n xs := by
  obtain ⟨h1, h2⟩ := h
  refine ⟨h1, h2.imp id ?_⟩
  rintro ⟨b, off, cap, rfl, hl, hA, hc, hcell⟩
  have hsz := hs.size
  refine ⟨b, off, cap, rfl, by omega, hA, hc, fun j hj => ?_⟩
  obtain ⟨i, u, hu, hh⟩ := hx (by intro e; rw [← h1, e] at hj; simp at hj)
  have hi := (List.getElem?_eq_some_iff.1 hu).1
  have h0 := hcell i (by omega)
  rw [hu] at h0
  rcases hs.blk b hl with hb | hb
  · rw [← hcell j hj]
    exact World.cell?_of_block hb
  · exfalso
    obtain ⟨cs, t, fr, e1, e2⟩ := cells_of_cell h0
    exact hb cs t fr e1 u e2 hh
theorem RB.soft {A : Nat → Prop} {w w' : World} {v : Value} {l : List UInt8} (h : RB A w v l) (hs : Soft w w') : RB A w' v l := by
  refine SlA.soft h (fun hn => ?_) hs
  cases l with
  | nil => exact absurd rfl hn
  | cons x l => exact ⟨0, _, rfl, .inr ⟨_, rfl⟩⟩
theorem Keys.soft {A : Nat → Prop} {w w' : World} {v : Value} {l : List KyD} (h : SlE Enc.key A w v l) (hs : Soft w w') : SlE Enc.key A w' v l := by
  obtain ⟨ks, h1, h2, h3⟩ := h.flat
  refine SlE.of_flat h1 (fun i x c hi hc => ?_) (h3.soft (fun hn => ?_) hs)
  · obtain ⟨v, e, hv⟩ := h2 i x c hi hc
    exact ⟨v, e, hv.soft hs⟩
  · cases ks with
    | nil => exact absurd rfl hn
    | cons c ks =>
      have hl : 0 < l.length := by rw [← h1]; simp
      obtain ⟨v, rfl, -⟩ := h2 0 l[0] c (List.getElem?_eq_getElem hl) rfl
      exact ⟨0, _, rfl, .inl ⟨_, rfl⟩⟩
theorem Ops.soft {A : Nat → Prop} {w w' : World} {v : Value} {l : List OpD} (h : SlE Enc.op A w v l) (hs : Soft w w') : SlE Enc.op A w' v l := by
  obtain ⟨ks, h1, h2, h3⟩ := h.flat
  refine SlE.of_flat h1 (fun i x c hi hc => ?_) (h3.soft (fun hn => ?_) hs)
  · obtain ⟨v, e, hv⟩ := h2 i x c hi hc
    exact ⟨v, e, hv.soft hs⟩
  · cases ks with
    | nil => exact absurd rfl hn
    | cons c ks =>
      have hl : 0 < l.length := by rw [← h1]; simp
      obtain ⟨v, rfl, -⟩ := h2 0 l[0] c (List.getElem?_eq_getElem hl) rfl
      exact ⟨3, _, rfl, .inl ⟨_, rfl⟩⟩
theorem ObV.soft {A : Nat → Prop} {w w' : World} {v : Value} {o : ObD} (h : ObV A w v o) (hs : Soft w w') : ObV A w' v o := by
  obtain ⟨dv, kv, rfl, hd, hk⟩ := h
  exact ⟨dv, kv, rfl, hd.soft hs, Keys.soft hk hs⟩
end Go.Proofs.YtohfckkgmijlnaaGreatDoor
namespace Go.Proofs.YtohfckkgmijlnaaGreatDoor
open Go.RowKit Go.Maps Go.WideShapes

theorem turned_fr {w w' : World} {b : Nat} (h : w.mapTurned w' b) : Fr (fun k => k = b) w w' := by
  have := h.grown
  exact ⟨this.os, this.tape, this.output, this.size, fun k hk hn => this.block k hk (by simpa using hn)⟩
abbrev MS (w : World) (b : Nat) (l : SV) : Prop := MapS Tryz.prog 9 w b l
abbrev zOb : Value := .agg #[.slice none 0 0, .slice none 0 0, .int .i64 0]
/-- the map of a store -/
structure IsSm (w : World) (b : Nat) (l : List (ByteArray × ObD)) : Prop where
  mk ::
  ex : ∃ sv, MS w b sv ∧ RelS (fun v o => ObV (fun _ => True) w v o) sv l
structure IsSt (w : World) (p b : Nat) (s : StD) : Prop where
  mk ::
  box : w.heap[p]? = some (.cells #[.int .i64 (s.room : Nat), .map (some b)] 67 (0, 0))
  map : IsSm w b s.l
theorem zero_ob (w : World) : (zeroValue 41).run Tryz.prog w = .ok zOb w := Tryz.zeroValue41 w
section
variable {w w' : World} {p b : Nat} {l : List (ByteArray × ObD)} {s : StD}
theorem IsSm.lt (h : IsSm w b l) : b < w.heap.size := by
  obtain ⟨sv, h1, -⟩ := h.ex
  exact h1.lt
theorem IsSm.soft (h : IsSm w b l) (hs : Soft w w') (hb : w'.heap[b]? = w.heap[b]?) : IsSm w' b l := by
  obtain ⟨sv, h1, h2⟩ := h.ex
  exact ⟨sv, h1.block hb, h2.mono fun _ _ _ _ h => ⟨h.1, h.2.soft hs⟩⟩
theorem IsSm.ext (h : IsSm w b l) (hb : Below w.heap.size w w') : IsSm w' b l := h.soft (Soft.of_ext hb) (hb.block b h.lt)
theorem IsSt.lt (h : IsSt w p b s) : p < w.heap.size ∧ b < w.heap.size := ⟨(Array.getElem?_eq_some_iff.1 h.box).1, h.map.lt⟩
theorem IsSt.ext (h : IsSt w p b s) (hb : Below w.heap.size w w') : IsSt w' p b s := ⟨(hb.block p h.lt.1).trans h.box, h.map.ext hb⟩
theorem IsSt.soft (h : IsSt w p b s) (hs : Soft w w') (hp : w'.heap[p]? = w.heap[p]?) (hb : w'.heap[b]? = w.heap[b]?) : IsSt w' p b s := ⟨hp.trans h.box, h.map.soft hs hb⟩
theorem IsSt.cells (h : IsSt w p b s) : w.cell? ⟨p, 0, none⟩ = some (.int .i64 (s.room : Nat)) ∧ w.cell? ⟨p, 1, none⟩ = some (.map (some b)) := ⟨(blk_cell h.box).1, (blk_cell h.box).1⟩
/-- a map's block is no box -/
theorem IsSm.no_cells (h : IsSm w b l) : ∀ cs t fr, w.heap[b]? ≠ some (.cells cs t fr) := by
  obtain ⟨sv, ⟨⟨es, clock, hh, _⟩, _, _⟩, -⟩ := h.ex
  intro cs t fr e
  rw [hh] at e
  cases e
theorem IsSm.turned (h : IsSm w b l) (ht : w.mapTurned w' b) : Soft w w' := Soft.of_fr (turned_fr ht) fun k hk cs t fr e => by
  have hk : k = b := hk
  subst hk
  exact absurd e (h.no_cells cs t fr)
/-- what is looked up -/
theorem IsSm.look (h : IsSm w b l) (nm : ByteArray) (hn : nm.size ≤ maxLen) : ∃ v, ObV (fun _ => True) w v ((getS nm l).getD ObD.none) ∧ ∀ W : World, W.heap[b]? = w.heap[b]? → (Instr.lookup 65 (.map (some b)) (.string nm) true).run Tryz.prog W = .ok (.tuple #[v, .bool (getS nm l).isSome]) W := by
  obtain ⟨sv, h1, h2⟩ := h.ex
  have hl := fun (W : World) (hW : W.heap[b]? = w.heap[b]?) => (h1.block hW).lookOk Tryz.underlying9 Tryz.underlying65 (zero_ob W) (k := nm) hn
  rcases h2.get nm with ⟨e1, e2⟩ | ⟨v, y, e1, e2, hv⟩
  · rw [e1] at hl
    rw [e2]
    exact ⟨_, ⟨_, _, rfl, RB.nil _ _, SlE.nil _ _ _⟩, hl⟩
  · rw [e1] at hl
    rw [e2]
    exact ⟨_, hv, hl⟩
theorem IsSm.length (h : IsSm w b l) (ty : TypeId) : ∀ W : World, W.heap[b]? = w.heap[b]? → (Builtin.len_ #[65] ty #[.map (some b)]).run Tryz.prog W = .ok (.int .i64 l.length) W := by
  obtain ⟨sv, h1, h2⟩ := h.ex
  rw [← h2.len]
  exact fun W hW => (h1.block hW).len Tryz.underlying65 ty
theorem IsSm.del (h : IsSm w b l) (nm : ByteArray) (hn : nm.size ≤ maxLen) (ty : TypeId) :
    ∃ w', (Builtin.delete_ #[65, 9] ty #[.map (some b), .string nm]).run Tryz.prog w = .ok (.tuple #[]) w' ∧ IsSm w' b (delS nm l) ∧ Fr (fun k => k = b) w w' ∧ Soft w w' := by
  obtain ⟨sv, h1, h2⟩ := h.ex
  obtain ⟨w', e, h3, h4⟩ := h1.del Tryz.underlying9 Tryz.underlying65 (k := nm) hn ty
  have hs := h.turned h4
  exact ⟨w', e, ⟨_, h3, (RelS.del nm h2).mono fun _ _ _ _ h => ⟨h.1, h.2.soft hs⟩⟩, turned_fr h4, hs⟩
theorem IsSm.put (h : IsSm w b l) (nm : ByteArray) (hn : nm.size ≤ maxLen) (hl : l.length < maxLen) {v : Value} {o : ObD} (hv : ObV (fun _ => True) w v o) :
    ∃ w', (Instr.mapUpdate 65 (.map (some b)) (.string nm) v).run Tryz.prog w = .ok () w' ∧ IsSm w' b (putS nm o l) ∧ Fr (fun k => k = b) w w' ∧ Soft w w' := by
  obtain ⟨sv, h1, h2⟩ := h.ex
  obtain ⟨w', e, h3, h4⟩ := h1.put Tryz.underlying9 Tryz.underlying65 (by rw [h2.len]; exact hl) (k := nm) hn v
  have hs := h.turned h4
  exact ⟨w', e, ⟨_, h3, (RelS.put h2 hv).mono fun _ _ _ _ h => ⟨h.1, h.2.soft hs⟩⟩, turned_fr h4, hs⟩
theorem IsSm.made (w : World) : IsSm (w.alloc (.map #[] 0)) w.heap.size [] := ⟨[], MapS.made w, .nil⟩
end
end Go.Proofs.YtohfckkgmijlnaaGreatDoor
