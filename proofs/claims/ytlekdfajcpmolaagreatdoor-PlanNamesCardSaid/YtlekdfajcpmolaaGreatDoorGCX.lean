/- The walk of terrazzoref08.Do, whole. What may be may be behind any op: the plain law. No program is named. What object.Do and the reference's Do leave, opened; what stays under any op. No law is named. -/
import Derived.Test.YtlekdfajcpmolaaGreatDoorGCV
import Derived.Test.YtlekdfajcpmolaaGreatDoorGCW
import Derived.Test.YtlekdfajcpmolaaGreatDoorGCO
import Derived.Test.YtlekdfajcpmolaaGreatDoorGCQ
import Derived.Test.YtlekdfajcpmolaaGreatDoorGCR
namespace Go.Proofs.YtlekdfajcpmolaaGreatDoor
open Go.RowKit Go.WideShapes

end Go.Proofs.YtlekdfajcpmolaaGreatDoor
namespace Go.Proofs.YtlekdfajcpmolaaGreatDoor
open Go.RowKit

/-- names rise, each is right, each value is short enough: as pairs -/
theorem fine_iff (ks : List KyD) : Fine ks ↔ (∀ k ∈ ks, nameB k.name = true ∧ k.value.length ≤ 2048) ∧ ks.Pairwise fun a b => ltS a.name b.name = true := by
  constructor
  · intro h
    refine ⟨fun k hk => ?_, ?_⟩
    · obtain ⟨i, hi, rfl⟩ := List.getElem_of_mem hk
      exact h.key i _ (List.getElem?_eq_getElem hi)
    · rw [List.pairwise_iff_getElem]
      intro i j hi hj hij
      exact h.up i j _ _ hij (List.getElem?_eq_getElem hi) (List.getElem?_eq_getElem hj)
  · rintro ⟨h1, h2⟩
    rw [List.pairwise_iff_getElem] at h2
    refine ⟨fun i k hk => h1 k (List.mem_of_getElem? hk), fun i j a b hij ha hb => ?_⟩
    obtain ⟨hi, rfl⟩ := List.getElem?_eq_some_iff.1 ha
    obtain ⟨hj, rfl⟩ := List.getElem?_eq_some_iff.1 hb
    exact h2 i j hi hj hij
theorem tw_all {α : Type} (q : α → Bool) : ∀ (l : List α), ∀ x ∈ l.takeWhile q, q x = true
  | [], x, h => by simp at h
  | y :: l, x, h => by
    rw [List.takeWhile_cons] at h
    split at h
    · rename_i hy
      rcases List.mem_cons.1 h with rfl | h
      · exact hy
      · exact tw_all q l x h
    · simp at h
theorem dw_ge {ks : List KyD} {nm : ByteArray} (hp : ks.Pairwise fun a b => ltS a.name b.name = true) : ∀ k ∈ ks.dropWhile (fun k => ltS k.name nm), ltS k.name nm = false := by
  induction ks with
  | nil => intro k hk; simp at hk
  | cons a t ih =>
    rw [List.pairwise_cons] at hp
    intro k hk
    rw [List.dropWhile_cons] at hk
    split at hk
    · exact ih hp.2 k hk
    · rename_i ha
      have ha : ltS a.name nm = false := by simpa using ha
      rcases List.mem_cons.1 hk with rfl | hk
      · exact ha
      · cases h : ltS k.name nm with
        | false => rfl
        | true => rw [ltS_trans (hp.1 k hk) h] at ha; cases ha
theorem fine_put {ks : List KyD} {nm : ByteArray} {v : List UInt8} (hf : Fine ks) (hn : nameB nm = true) (hv : v.length ≤ 2048) : Fine (putK ks nm v) := by
  rw [fine_iff] at hf ⊢
  obtain ⟨h1, h2⟩ := hf
  have htw : ∀ k ∈ ks.takeWhile (fun k => ltS k.name nm), ltS k.name nm = true := fun k hk => tw_all (fun k : KyD => ltS k.name nm) ks k hk
  have hsubT : ∀ k ∈ ks.takeWhile (fun k => ltS k.name nm), k ∈ ks := fun k hk => (List.takeWhile_sublist _).subset hk
  have hsubD : ∀ k ∈ ks.dropWhile (fun k => ltS k.name nm), k ∈ ks := fun k hk => (List.dropWhile_sublist _).subset hk
  have hgt : ∀ b ∈ (ks.dropWhile fun k => ltS k.name nm).filter (fun k => !decide (k.name = nm)), ltS nm b.name = true := by
    intro b hb
    obtain ⟨hb1, hb2⟩ := List.mem_filter.1 hb
    have hge := dw_ge h2 b hb1
    cases hl : ltS nm b.name with
    | true => rfl
    | false =>
      have := ltS_tri hge hl
      simp [this] at hb2
  unfold putK
  refine ⟨fun k hk => ?_, ?_⟩
  · rcases List.mem_append.1 hk with hk | hk
    · exact h1 k (hsubT k hk)
    · rcases List.mem_cons.1 hk with rfl | hk
      · exact ⟨hn, hv⟩
      · exact h1 k (hsubD k (List.mem_filter.1 hk).1)
  · rw [List.pairwise_append]
    refine ⟨h2.sublist (List.takeWhile_sublist _), ?_, ?_⟩
    · rw [List.pairwise_cons]
      exact ⟨fun b hb => hgt b hb, h2.sublist ((List.filter_sublist).trans (List.dropWhile_sublist _))⟩
    · intro a ha b hb
      rcases List.mem_cons.1 hb with rfl | hb
      · exact htw a ha
      · exact ltS_trans (htw a ha) (hgt b hb)
theorem fine_drop {ks : List KyD} {nm : ByteArray} (hf : Fine ks) : Fine (dropK ks nm) := by
  rw [fine_iff] at hf ⊢
  exact ⟨fun k hk => hf.1 k (List.mem_filter.1 hk).1, hf.2.sublist List.filter_sublist⟩
theorem dropK_len {ks : List KyD} {nm : ByteArray} : (dropK ks nm).length ≤ ks.length := List.length_filter_le _ _
theorem write_len {l x : List UInt8} {f : Nat} (hl : l.length ≤ 64) (h : f + x.length ≤ 64) : (writeD l f x).length ≤ 64 := by
  unfold writeD
  simp only [List.length_append, List.length_take, List.length_drop, List.length_replicate]
  omega
theorem zero_len {l : List UInt8} {f m : Nat} (hl : l.length ≤ 64) : (zeroD l f m).length ≤ 64 := by
  unfold zeroD
  simp only [List.length_append, List.length_take, List.length_drop, List.length_replicate]
  omega
theorem keyOp_may {o o2 : ObD} {nm : ByteArray} {v : List UInt8} (hm : mayB o = true) (h : keyOp o nm v = some o2) : mayB o2 = true := by
  obtain ⟨h1, h2, h3, h4, hf⟩ := (mayB_iff o).1 hm
  unfold keyOp at h
  split at h
  · rename_i hc
    simp only [Bool.and_eq_true, decide_eq_true_eq, Bool.or_eq_true] at hc
    obtain ⟨⟨hn, hv⟩, hk⟩ := hc
    cases h
    refine (mayB_iff _).2 ⟨h1, ?_, h3, h4, fine_put hf hn hv⟩
    show (putK o.keys nm v).length ≤ 120
    cases hh : hasK o.keys nm with
    | true =>
      obtain ⟨hp, -, e, -⟩ := putK_old (v := v) hf hh
      rw [e]
      simp
      omega
    | false =>
      have hk : o.keys.length < 120 := by
        rcases hk with hk | hk
        · rw [hh] at hk; cases hk
        · exact hk
      rw [putK_new hh]
      have := posK_le o.keys nm
      simp
      omega
  · cases h
theorem changeB_may {o o2 : ObD} {op : OpD} (hm : mayB o = true) (hc : changeB o op = some o2) : mayB o2 = true := by
  obtain ⟨h1, h2, h3, h4, hf⟩ := (mayB_iff o).1 hm
  have hd : ∀ l : List UInt8, l.length ≤ 64 → mayB { o with data := l } = true := fun l hl => (mayB_iff _).2 ⟨hl, h2, h3, h4, hf⟩
  have hk := dropK_len (nm := op.name) (ks := o.keys)
  unfold changeB at hc
  split at hc
  · split at hc
    · rename_i hs
      obtain rfl := Option.some.inj hc
      simp only [spotB, Bool.and_eq_true, decide_eq_true_eq] at hs
      exact hd _ (write_len h1 (by omega))
    · cases hc
  · split at hc
    · split at hc
      · obtain rfl := Option.some.inj hc
        exact hd _ (zero_len h1)
      · cases hc
    · split at hc
      · split at hc
        · obtain rfl := Option.some.inj hc
          exact hd _ (by rw [List.length_take]; omega)
        · cases hc
      · split at hc
        · split at hc
          · obtain rfl := Option.some.inj hc
            exact hd _ (by omega)
          · cases hc
        · split at hc
          · exact keyOp_may hm hc
          · split at hc
            · obtain rfl := Option.some.inj hc
              exact (mayB_iff _).2 ⟨h1, Nat.le_trans hk h2, h3, h4, fine_drop hf⟩
            · split at hc
              · split at hc
                · obtain rfl := Option.some.inj hc; exact hm
                · exact keyOp_may hm hc
              · split at hc
                · split at hc
                  · rename_i hs
                    obtain rfl := Option.some.inj hc
                    exact (mayB_iff _).2 ⟨h1, h2, hs.1, hs.2, hf⟩
                  · cases hc
                · split at hc
                  · split at hc
                    · rename_i hs
                      obtain rfl := Option.some.inj hc
                      exact hd _ hs
                    · cases hc
                  · obtain rfl := Option.some.inj hc; exact hm
end Go.Proofs.YtlekdfajcpmolaaGreatDoor
namespace Go.Proofs.YtlekdfajcpmolaaGreatDoor
open Go.RowKit Go.WideShapes

theorem DoOut.ways2 {x : DoR} {w w' : World} {e : Ending} (h : DoOut x w e w') : ∃ a c u q, e = .returned (.tuple #[.agg #[.slice a x.o.data.length c, .slice u x.o.keys.length q, .int .i64 x.o.seq], .bool x.there, .bool x.on, .int .i64 x.e]) ∧
    Own8 w.heap.size w' (.slice a x.o.data.length c) (.slice u x.o.keys.length q) x.o ∧ Below w.heap.size w w' := by
  obtain ⟨dv, kv, rfl, hv, hb⟩ := h
  obtain ⟨⟨a, c, rfl⟩, u, q, rfl⟩ := own8_shape hv
  exact ⟨_, _, _, _, rfl, hv, hb⟩
theorem DoOut.ways {x : DoR} {w w' : World} {e : Ending} (h : DoOut x w e w') : ∃ a c u q, e = .returned (.tuple #[.agg #[.slice a x.o.data.length c, .slice u x.o.keys.length q, .int .i64 x.o.seq], .bool x.there, .bool x.on, .int .i64 x.e]) ∧
    ObV (fun b => w.heap.size ≤ b) w' (.agg #[.slice a x.o.data.length c, .slice u x.o.keys.length q, .int .i64 x.o.seq]) x.o ∧ Below w.heap.size w w' := by
  obtain ⟨a, c, u, q, rfl, hv, hb⟩ := h.ways2
  exact ⟨_, _, _, _, rfl, hv.obv, hb⟩
theorem DoRR.ways {x : DoR} {w w' : World} {e : Ending} (h : DoRR x w e w') : ∃ a c u q, e = .returned (.tuple #[.agg #[.slice a x.o.data.length c, .slice u x.o.keys.length q, .int .i64 x.o.seq], .bool x.there, .bool x.on, .int .i64 x.e]) ∧
    ObV (fun _ => True) w' (.agg #[.slice a x.o.data.length c, .slice u x.o.keys.length q, .int .i64 x.o.seq]) x.o ∧ Below w.heap.size w w' := by
  obtain ⟨dv, kv, rfl, hv, hb⟩ := h
  obtain ⟨d, k, e, hd, hk⟩ := id hv
  simp at e
  obtain ⟨rfl, rfl⟩ := e
  obtain ⟨a, c, rfl⟩ := hd.shape
  obtain ⟨u, q, rfl⟩ := hk.shape
  exact ⟨_, _, _, _, rfl, hv, hb⟩
/-- what a step of a script leaves -/
structure StayR (o : ObD) (th : Bool) (op : OpD) (x : DoR) : Prop where
  no : x.e ≠ 0 → x.there = false ∧ x.on = false ∧ x.o = ObD.none
  lo : x.e = 0 → op.kind ≤ 4 → x.there = th ∧ x.o = o
  hi : x.e = 0 → 4 < op.kind → x.on = true
  nn : x.e = 0 → x.there = false → x.o = ObD.none
  may : x.e = 0 → mayB x.o = true
theorem stay_of {o : ObD} {th : Bool} {op : OpD} (hm : mayB o = true) (hth : th = false → o = ObD.none) : StayR o th op (doB o th op) := by
  by_cases hk : 1 ≤ op.kind ∧ op.kind ≤ 14
  · rw [doB_good hm hk.1 hk.2]
    have ho : (if th then o else ObD.none) = o := by
      cases th
      · exact (hth rfl).symm
      · rfl
    rw [ho]
    by_cases hg : (guardB o th op).1 = 0
    · cases hc : changeB o op with
      | none =>
        rw [doG_n hg hc]
        exact ⟨fun _ => ⟨rfl, rfl, rfl⟩, fun h => absurd h (by decide), fun h => absurd h (by decide), fun _ _ => rfl, fun _ => mayB_none⟩
      | some o2 =>
        rw [doG_s hg hc]
        refine ⟨fun h => absurd rfl h, fun _ h4 => ?_, fun _ h4 => ?_, fun _ h => ?_, fun _ => ?_⟩
        · have e := changeB_lo (o := o) hk.1 h4
          rw [hc] at e
          obtain rfl := Option.some.inj e
          refine ⟨thereB_lo h4, ?_⟩
          show (if thereB th op.kind = true then o2 else ObD.none) = o2
          rw [thereB_lo h4]
          exact ho
        · rw [guardB_hi (by omega)]
        · show (if thereB th op.kind = true then o2 else ObD.none) = ObD.none
          have h : thereB th op.kind = false := h
          rw [h]
          rfl
        · show mayB (if thereB th op.kind = true then o2 else ObD.none) = true
          split
          · exact changeB_may hm hc
          · exact mayB_none
    · rw [doG_g hg]
      exact ⟨fun _ => ⟨rfl, rfl, rfl⟩, fun h => absurd h hg, fun h => absurd h hg, fun _ _ => rfl, fun _ => mayB_none⟩
  · rw [doB_bad (by
      by_cases h1 : 1 ≤ op.kind
      · exact .inr (.inr fun h2 => hk ⟨h1, h2⟩)
      · exact .inr (.inl h1))]
    exact ⟨fun _ => ⟨rfl, rfl, rfl⟩, fun h => absurd h (by decide), fun h => absurd h (by decide), fun _ _ => rfl, fun _ => mayB_none⟩
end Go.Proofs.YtlekdfajcpmolaaGreatDoor
