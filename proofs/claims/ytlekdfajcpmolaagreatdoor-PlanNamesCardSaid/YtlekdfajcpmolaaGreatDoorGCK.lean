/- The objects' spans of a span, plainly: the code's pieces put together by object and sorted; the document's, byte by byte. No program is named. Which objects an image of a size may have: those that have a byte. Plainly. -/
import Derived.Test.YtlekdfajcpmolaaGreatDoorGCB
namespace Go.Proofs.YtlekdfajcpmolaaGreatDoor

theorem sorted_ext {α : Type} (key : α → Int) : ∀ (l1 l2 : List α), l1.Pairwise (fun x y => key x < key y) → l2.Pairwise (fun x y => key x < key y) → (∀ x, x ∈ l1 ↔ x ∈ l2) → l1 = l2
  | [], [], _, _, _ => rfl
  | [], y :: l, _, _, h => by have := (h y).2 (by simp); simp at this
  | x :: l, [], _, _, h => by have := (h x).1 (by simp); simp at this
  | x :: l1, y :: l2, h1, h2, h => by
    have p1 := List.pairwise_cons.1 h1
    have p2 := List.pairwise_cons.1 h2
    have e : x = y := by
      rcases List.mem_cons.1 ((h x).1 (by simp)) with e | e
      · exact e
      · rcases List.mem_cons.1 ((h y).2 (by simp)) with e' | e'
        · exact e'.symm
        · have a := p1.1 y e'
          have b := p2.1 x e
          omega
    subst e
    congr 1
    refine sorted_ext key l1 l2 p1.2 p2.2 fun z => ⟨fun hz => ?_, fun hz => ?_⟩
    · rcases List.mem_cons.1 ((h z).1 (by simp [hz])) with e | e
      · subst e; have := p1.1 z hz; omega
      · exact e
    · rcases List.mem_cons.1 ((h z).2 (by simp [hz])) with e | e
      · subst e; have := p2.1 z hz; omega
      · exact e

structure PtD where
  ob : Int
  off : Int
  n : Int
  pcs : List Pc
def obP (ps : List Pc) (ob : Int) : List Pc := ps.filter fun p => decide (p.ob = ob)
def ptOf (ps : List Pc) (ob : Int) : PtD := ⟨ob, ((obP ps ob).map Pc.off).headD 0, ((obP ps ob).map Pc.len).sum, obP ps ob⟩
/-- a piece put to the others of its object -/
def addPt (l : List PtD) (p : Pc) : List PtD := match l.findIdx? (fun x => decide (x.ob = p.ob)) with
  | none => l ++ [⟨p.ob, p.off, p.len, [p]⟩]
  | some k => l.set k ⟨(l.getD k ⟨0, 0, 0, []⟩).ob, (l.getD k ⟨0, 0, 0, []⟩).off, (l.getD k ⟨0, 0, 0, []⟩).n + p.len, (l.getD k ⟨0, 0, 0, []⟩).pcs ++ [p]⟩
structure Grp (ps : List Pc) (l : List PtD) : Prop where
  mk ::
  ne : (l.map PtD.ob).Nodup
  is : ∀ x ∈ l, x = ptOf ps x.ob ∧ ∃ p ∈ ps, p.ob = x.ob
  all : ∀ p ∈ ps, ∃ x ∈ l, x.ob = p.ob
theorem Grp.nil : Grp [] [] := ⟨by simp, fun x h => by simp at h, fun x h => by simp at h⟩
theorem obP_other {ps : List Pc} {p : Pc} {ob : Int} (h : p.ob ≠ ob) : obP (ps ++ [p]) ob = obP ps ob := by
  unfold obP
  rw [List.filter_append]
  simp [h]
theorem obP_same (ps : List Pc) (p : Pc) : obP (ps ++ [p]) p.ob = obP ps p.ob ++ [p] := by
  unfold obP
  rw [List.filter_append]
  simp
theorem Grp.add {ps : List Pc} {l : List PtD} (h : Grp ps l) (p : Pc) : Grp (ps ++ [p]) (addPt l p) := by
  unfold addPt
  cases hk : l.findIdx? (fun x => decide (x.ob = p.ob)) with
  | none =>
    have hn : ∀ x ∈ l, x.ob ≠ p.ob := fun x hx => by
      have := List.findIdx?_eq_none_iff.1 hk x hx
      simpa using this
    have he : obP ps p.ob = [] := by
      refine List.filter_eq_nil_iff.2 fun q hq => ?_
      obtain ⟨x, hx, e⟩ := h.all q hq
      have := hn x hx
      simp
      omega
    refine ⟨?_, fun x hx => ?_, fun q hq => ?_⟩
    · rw [List.map_append, List.nodup_append]
      refine ⟨h.ne, by simp, ?_⟩
      intro a ha b hb
      obtain ⟨x, hx, rfl⟩ := List.mem_map.1 ha
      simp at hb
      subst hb
      exact hn x hx
    · rcases List.mem_append.1 hx with hx | hx
      · obtain ⟨h1, q, hq, h2⟩ := h.is x hx
        have := hn x hx
        refine ⟨?_, q, by simp [hq], h2⟩
        rw [h1]
        unfold ptOf
        rw [obP_other (by simp only; omega)]
      · simp at hx
        subst hx
        refine ⟨?_, p, by simp, rfl⟩
        unfold ptOf
        simp only
        rw [obP_same, he]
        simp
    · rcases List.mem_append.1 hq with hq | hq
      · obtain ⟨x, hx, e⟩ := h.all q hq
        exact ⟨x, by simp [hx], e⟩
      · simp at hq
        subst hq
        exact ⟨⟨q.ob, q.off, q.len, [q]⟩, by simp, rfl⟩
  | some k =>
    obtain ⟨hkl, hkp, -⟩ := List.findIdx?_eq_some_iff_getElem.1 hk
    have hkp : l[k].ob = p.ob := by simpa using hkp
    have hg : l.getD k ⟨0, 0, 0, []⟩ = l[k] := by simp [List.getD_eq_getElem?_getD, hkl]
    simp only [hg]
    obtain ⟨x1, x2⟩ := h.is l[k] (List.getElem_mem hkl)
    have hne : obP ps p.ob ≠ [] := by
      obtain ⟨q, hq, e⟩ := x2
      intro e2
      have := List.filter_eq_nil_iff.1 e2 q hq
      simp at this
      omega
    have hmap : (l.set k ⟨l[k].ob, l[k].off, l[k].n + p.len, l[k].pcs ++ [p]⟩).map PtD.ob = l.map PtD.ob := by
      rw [List.map_set]
      apply List.ext_getElem?
      intro i
      rw [List.getElem?_set]
      split
      · rename_i e
        subst e
        simp [hkl]
      · rfl
    have hnew : (⟨l[k].ob, l[k].off, l[k].n + p.len, l[k].pcs ++ [p]⟩ : PtD) = ptOf (ps ++ [p]) p.ob := by
      rw [x1]
      unfold ptOf
      simp only [hkp]
      rw [obP_same]
      obtain ⟨q, r, e⟩ := List.exists_cons_of_ne_nil hne
      rw [e]
      simp
      omega
    refine ⟨by rw [hmap]; exact h.ne, fun x hx => ?_, fun q hq => ?_⟩
    · obtain ⟨i, hi⟩ := List.mem_iff_getElem?.1 hx
      by_cases e : k = i
      · subst e
        rw [List.getElem?_set_self hkl] at hi
        cases hi
        exact ⟨by rw [hnew]; rfl, p, by simp, hkp.symm⟩
      · rw [List.getElem?_set_ne e] at hi
        have hx' := List.mem_iff_getElem?.2 ⟨i, hi⟩
        obtain ⟨y1, q, hq, y2⟩ := h.is x hx'
        obtain ⟨hil, hie⟩ := List.getElem?_eq_some_iff.1 hi
        have hxo : p.ob ≠ x.ob := by
          intro e2
          have n := List.pairwise_iff_getElem.1 h.ne
          rcases Nat.lt_or_gt_of_ne e with h3 | h3
          · exact n k i (by simpa using hkl) (by simpa using hil) h3 (by rw [List.getElem_map, List.getElem_map, hie]; omega)
          · exact n i k (by simpa using hil) (by simpa using hkl) h3 (by rw [List.getElem_map, List.getElem_map, hie]; omega)
        refine ⟨?_, q, by simp [hq], y2⟩
        rw [y1]
        unfold ptOf
        rw [obP_other (by exact hxo)]
    · rcases List.mem_append.1 hq with hq | hq
      · obtain ⟨x, hx, e⟩ := h.all q hq
        have : x.ob ∈ (l.set k ⟨l[k].ob, l[k].off, l[k].n + p.len, l[k].pcs ++ [p]⟩).map PtD.ob := by rw [hmap]; exact List.mem_map_of_mem hx
        obtain ⟨y, hy, e2⟩ := List.mem_map.1 this
        exact ⟨y, hy, by omega⟩
      · simp at hq
        subst hq
        have : q.ob ∈ (l.set k ⟨l[k].ob, l[k].off, l[k].n + q.len, l[k].pcs ++ [q]⟩).map PtD.ob := by rw [hmap, ← hkp]; exact List.mem_map_of_mem (List.getElem_mem hkl)
        obtain ⟨y, hy, e2⟩ := List.mem_map.1 this
        exact ⟨y, hy, e2⟩
theorem grp_take (ps : List Pc) : ∀ k, k ≤ ps.length → Grp (ps.take k) ((ps.take k).foldl addPt [])
  | 0, _ => by simpa using Grp.nil
  | k + 1, h => by
    rw [List.take_succ_eq_append_getElem (by omega), List.foldl_append]
    exact (grp_take ps k (by omega)).add _
theorem grp_is (ps : List Pc) : Grp ps (ps.foldl addPt []) := by
  have := grp_take ps ps.length (Nat.le_refl _)
  rwa [List.take_length] at this
/-- the parts of some pieces, rising -/
def partsC (ps : List Pc) : List PtD := ((List.range 512).filter fun o => ps.any fun p => decide (p.ob = (o : Nat))).map fun o => ptOf ps (o : Nat)
theorem partsC_up (ps : List Pc) : (partsC ps).Pairwise fun x y => x.ob < y.ob := by
  unfold partsC
  rw [List.pairwise_map]
  refine (List.Pairwise.filter _ List.pairwise_lt_range).imp fun {a b} h => ?_
  show ((a : Nat) : Int) < (b : Nat)
  omega
theorem partsC_mem {ps : List Pc} (hb : ∀ p ∈ ps, 0 ≤ p.ob ∧ p.ob < 512) (x : PtD) : x ∈ partsC ps ↔ x = ptOf ps x.ob ∧ ∃ p ∈ ps, p.ob = x.ob := by
  unfold partsC
  rw [List.mem_map]
  constructor
  · rintro ⟨o, ho, rfl⟩
    rw [List.mem_filter, List.any_eq_true] at ho
    obtain ⟨-, p, hp, e⟩ := ho
    exact ⟨rfl, p, hp, (by simpa using e : p.ob = (o : Nat))⟩
  · rintro ⟨e, p, hp, h⟩
    have := hb p hp
    refine ⟨x.ob.toNat, ?_, ?_⟩
    · rw [List.mem_filter, List.any_eq_true, List.mem_range]
      exact ⟨by omega, p, hp, by simp; omega⟩
    · rw [show ((x.ob.toNat : Nat) : Int) = x.ob by omega]
      exact e.symm
theorem grp_sorted {ps : List Pc} {l l' : List PtD} (h : Grp ps l) (hb : ∀ p ∈ ps, 0 ≤ p.ob ∧ p.ob < 512) (hp : l'.Perm l) (hs : l'.Pairwise fun x y => x.ob ≤ y.ob) : l' = partsC ps := by
  refine sorted_ext PtD.ob _ _ ?_ (partsC_up ps) fun x => ?_
  · have n : (l'.map PtD.ob).Nodup := ((hp.map _).nodup_iff).2 h.ne
    have n' : l'.Pairwise fun x y => x.ob ≠ y.ob := List.pairwise_map.1 n
    exact (hs.and n').imp fun {a b} h => by have h1 := h.1; have h2 := h.2; omega
  · rw [hp.mem_iff, partsC_mem hb]
    refine ⟨h.is x, fun ⟨e, p, hp, h2⟩ => ?_⟩
    obtain ⟨y, hy, e2⟩ := h.all p hp
    have := (h.is y hy).1
    rw [e, ← h2, ← e2, ← this]
    exact hy

/-! the document's -/
def atP (u c o off : Int) (n : Nat) (ob : Int) : List Nat := (List.range n).filter fun k => decide (plO u c o (off + (k : Nat)) = ob)
structure PrD where
  ob : Int
  off : Int
  at_ : List Nat
def prOf (u c o off : Int) (n : Nat) (ob : Int) : PrD := ⟨ob, plK u c o (off + (((atP u c o off n ob).headD 0 : Nat) : Int)), atP u c o off n ob⟩
def partsR (u c o off : Int) (n : Nat) : List PrD := ((List.range 512).filter fun (k : Nat) => !(atP u c o off n (k : Nat)).isEmpty).map fun (k : Nat) => prOf u c o off n (k : Nat)
/-- what a piece is -/
structure PcGood (u c o off : Int) (n : Nat) (p : Pc) : Prop where
  mk ::
  fr : 0 ≤ p.fr
  len : 1 ≤ p.len
  end_ : p.fr + p.len ≤ n
  is : ∀ d, 0 ≤ d → d < p.len → plO u c o (off + p.fr + d) = p.ob ∧ plK u c o (off + p.fr + d) = p.off + d
theorem PcGood.up {u c o off : Int} {n m : Nat} {p : Pc} (h : PcGood u c o off n p) (hm : n ≤ m) : PcGood u c o off m p := ⟨h.fr, h.len, by have := h.end_; omega, h.is⟩
theorem pcs_good (u c o off : Int) : ∀ i : Nat, ∀ p ∈ pcs u c o off i, PcGood u c o off i p
  | 0, p, h => by simp [pcs] at h
  | i + 1, p, h => by
    have ih := pcs_good u c o off i
    have hs : pcs u c o off (i + 1) = joinP (pcs u c o off i) ⟨plO u c o (off + (i : Nat)), plK u c o (off + (i : Nat)), 1, (i : Nat)⟩ := rfl
    have hnew : PcGood u c o off (i + 1) ⟨plO u c o (off + (i : Nat)), plK u c o (off + (i : Nat)), 1, (i : Nat)⟩ := ⟨by simp only; omega, by simp only; omega, by simp only; omega, fun d h0 h1 => by
      simp only at h1
      obtain rfl : d = 0 := by omega
      simp only [Int.add_zero, and_self]⟩
    rcases snoc_cases (pcs u c o off i) with e | ⟨a, q, e⟩
    · rw [hs, e, joinP_nil] at h
      simp at h
      subst h
      exact hnew
    · have hq := ih q (by rw [e]; simp)
      have he := ((posP_pcs u c o off i).2 a q e).1
      by_cases hit : q.ob = plO u c o (off + (i : Nat)) ∧ q.off + q.len = plK u c o (off + (i : Nat))
      · rw [hs, e, joinP_hit a q _ hit.1 hit.2] at h
        rcases List.mem_append.1 h with h | h
        · exact (ih p (by rw [e]; simp [h])).up (by omega)
        · simp at h
          subst h
          refine ⟨hq.fr, by have := hq.len; simp only; omega, by simp only; omega, fun d h0 h1 => ?_⟩
          simp only at h1 ⊢
          by_cases hd : d < q.len
          · exact hq.is d h0 hd
          · obtain rfl : d = q.len := by omega
            rw [Int.add_assoc, he, hit.1, hit.2]
            exact ⟨rfl, rfl⟩
      · rw [hs, e, joinP_miss a q _ hit, ← e] at h
        rcases List.mem_append.1 h with h | h
        · exact (ih p h).up (by omega)
        · simp at h
          subst h
          exact hnew
theorem posP_is (u c o off : Int) (n : Nat) (ob : Int) : (obP (pcs u c o off n) ob).flatMap (fun p => List.range' p.fr.toNat p.len.toNat) = atP u c o off n ob := (posP_pcs u c o off n).1 ob
theorem sum_len : ∀ (l : List Pc), (∀ p ∈ l, 1 ≤ p.len) → (l.map Pc.len).sum = ((l.flatMap fun p => List.range' p.fr.toNat p.len.toNat).length : Nat)
  | [], _ => rfl
  | p :: l, h => by
    have := h p (by simp)
    rw [List.map_cons, List.sum_cons, List.flatMap_cons, List.length_append, sum_len l fun q hq => h q (by simp [hq]), List.length_range']
    omega
theorem obP_empty (u c o off : Int) (n : Nat) (ob : Int) : obP (pcs u c o off n) ob = [] ↔ atP u c o off n ob = [] := by
  rw [← posP_is]
  constructor
  · intro e; rw [e]; rfl
  · intro e
    cases hq : obP (pcs u c o off n) ob with
    | nil => rfl
    | cons p l =>
      rw [hq] at e
      have hp : p ∈ obP (pcs u c o off n) ob := by rw [hq]; simp
      have := (pcs_good u c o off n p ((List.mem_filter.1 hp).1)).len
      have := congrArg List.length e
      rw [List.flatMap_cons, List.length_append, List.length_range'] at this
      simp at this
      omega
/-- a part is what the document says -/
theorem pt_link (u c o off : Int) (n : Nat) (ob : Int) (h : atP u c o off n ob ≠ []) : (ptOf (pcs u c o off n) ob).off = (prOf u c o off n ob).off ∧ (ptOf (pcs u c o off n) ob).n = ((atP u c o off n ob).length : Nat) := by
  have hg : ∀ p ∈ obP (pcs u c o off n) ob, PcGood u c o off n p := fun p hp => pcs_good u c o off n p ((List.mem_filter.1 hp).1)
  refine ⟨?_, ?_⟩
  · unfold ptOf prOf
    simp only
    rw [← posP_is]
    cases hq : obP (pcs u c o off n) ob with
    | nil => exact absurd ((obP_empty u c o off n ob).1 hq) h
    | cons p l =>
      have hp := hg p (by rw [hq]; simp)
      have h1 := hp.len
      have h2 := hp.fr
      have h3 := (hp.is 0 (by omega) (by omega)).2
      obtain ⟨m, hm⟩ : ∃ m, p.len.toNat = m + 1 := ⟨p.len.toNat - 1, by omega⟩
      rw [List.flatMap_cons, hm, List.range'_succ, List.map_cons]
      simp only [List.cons_append, List.headD_cons]
      rw [show ((p.fr.toNat : Nat) : Int) = p.fr by omega]
      simpa using h3.symm
  · show ((obP (pcs u c o off n) ob).map Pc.len).sum = _
    rw [sum_len _ fun p hp => (hg p hp).len, posP_is]
theorem partsC_is (u c o off : Int) (n : Nat) : partsC (pcs u c o off n) = (partsR u c o off n).map fun y => ptOf (pcs u c o off n) y.ob := by
  unfold partsC partsR
  rw [List.map_map]
  have e : ((List.range 512).filter fun (o' : Nat) => (pcs u c o off n).any fun p => decide (p.ob = (o' : Nat))) = (List.range 512).filter fun (k : Nat) => !(atP u c o off n (k : Nat)).isEmpty := by
    refine List.filter_congr fun k _ => ?_
    rw [Bool.eq_iff_iff]
    simp only [List.any_eq_true, decide_eq_true_eq, Bool.not_eq_true', List.isEmpty_eq_false_iff]
    rw [ne_eq, ← obP_empty]
    constructor
    · rintro ⟨p, hp, e⟩ h2
      have := List.filter_eq_nil_iff.1 h2 p hp
      simp [e] at this
    · intro h2
      obtain ⟨p, l, e⟩ := List.exists_cons_of_ne_nil h2
      have hp : p ∈ obP (pcs u c o off n) (k : Nat) := by rw [e]; simp
      exact ⟨p, (List.mem_filter.1 hp).1, by simpa using (List.mem_filter.1 hp).2⟩
  rw [e]
  rfl
section
variable {u c o off : Int}
theorem atP_mem (n : Nat) (ob : Int) (k : Nat) : k ∈ atP u c o off n ob ↔ k < n ∧ plO u c o (off + (k : Nat)) = ob := by simp [atP]
end
end Go.Proofs.YtlekdfajcpmolaaGreatDoor
namespace Go.Proofs.YtlekdfajcpmolaaGreatDoor

section
variable {u c o : Int}
theorem bk0_is (ob : Int) : bk u c o ob 0 = (ob + ob / c * ((o / u - 1) * c)) * u := by
  have e := Int.mul_ediv_add_emod ob c
  unfold bk
  rw [Int.zero_ediv, Int.zero_emod, Int.add_zero, Int.add_zero]
  congr 1
  have : ob / c * ((o / u - 1) * c) = ob / c * (o / u) * c - c * (ob / c) := by
    rw [Int.sub_mul, Int.mul_sub, Int.mul_assoc, Int.one_mul, Int.mul_comm c (ob / c)]
  omega
theorem bk0_mono (H : Lay u c o) {a b : Int} (hab : a ≤ b) : bk u c o a 0 ≤ bk u c o b 0 := by
  rw [bk0_is a, bk0_is b]
  have h1 : a / c ≤ b / c := Int.ediv_le_ediv (by have := H.c1; omega) hab
  have hq : 0 ≤ (o / u - 1) * c := Int.mul_nonneg (by have := H.e1; omega) (by have := H.c1; omega)
  have h2 : a / c * ((o / u - 1) * c) ≤ b / c * ((o / u - 1) * c) := Int.mul_le_mul_of_nonneg_right h1 hq
  exact Int.mul_le_mul_of_nonneg_right (by omega) (by have := H.u1; omega)
theorem obF_max (H : Lay u c o) : ∀ n : Nat, (∀ i : Nat, i < n → plO u c o i < obF u c o n) ∧ (obF u c o n = 0 ∨ ∃ i : Nat, i < n ∧ obF u c o n = plO u c o i + 1)
  | 0 => ⟨fun i h => by omega, .inl (obF_zero H)⟩
  | n + 1 => by
    obtain ⟨h1, h2⟩ := obF_max H n
    have hs := obF_succ H (s := (n : Nat)) (by omega)
    have e : obF u c o ((n + 1 : Nat) : Int) = max (obF u c o n) (plO u c o n + 1) := by rw [← hs]; congr 1
    refine ⟨fun i hi => ?_, ?_⟩
    · rw [e]
      by_cases h : i < n
      · have := h1 i h
        omega
      · obtain rfl : i = n := by omega
        omega
    · rw [e]
      by_cases h : obF u c o n ≤ plO u c o n + 1
      · exact .inr ⟨n, by omega, by omega⟩
      · rcases h2 with h2 | ⟨i, hi, h2⟩
        · have := plO_nonneg (u := u) (c := c) (o := o) H (off := (n : Nat)) (by omega)
          omega
        · exact .inr ⟨i, by omega, by omega⟩
/-- an object has a byte of an image just where the image may have it -/
theorem room_objs (H : Lay u c o) {ob r : Int} {s : Nat} (h0 : 0 ≤ ob) (hP : Parts u c o ob s o r) : 0 < r ↔ ob < obF u c o s := by
  have ho : 0 < o := by have := H.u1; have := H.uo; omega
  have hk := hP.2.2 0 (by omega) ho
  rw [hk]
  obtain ⟨m1, m2⟩ := obF_max H s
  have hb0 := bk_nonneg H h0 (k := 0) (by omega)
  constructor
  · intro h
    have hp := (pl_bk H h0 (k := 0) (by omega) ho).1
    have := m1 (bk u c o ob 0).toNat (by omega)
    rw [show (((bk u c o ob 0).toNat : Nat) : Int) = bk u c o ob 0 by omega, hp] at this
    exact this
  · intro h
    rcases m2 with m2 | ⟨i, hi, m2⟩
    · omega
    · have e1 : ob ≤ plO u c o i := by omega
      have e2 := bk0_mono H e1
      have e3 := bk_le H (ob := plO u c o i) (k := 0) (k' := plK u c o i) (by omega) (plK_range H).1
      rw [bk_pl H] at e3
      omega
end
end Go.Proofs.YtlekdfajcpmolaaGreatDoor
