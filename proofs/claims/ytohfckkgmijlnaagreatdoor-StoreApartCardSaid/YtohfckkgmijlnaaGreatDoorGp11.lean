/- Law 11, plainly: the names of a store; what one transaction leaves of the other objects. No program is named. -/
import Derived.Test.YtohfckkgmijlnaaGreatDoorPU
namespace Go.Proofs.YtohfckkgmijlnaaGreatDoor
open Go.RowKit

/-- all names -/
def allN (l : List (ByteArray × ObD)) : List ByteArray := l.map (·.1)
theorem namesP_all (l : List (ByteArray × ObD)) : namesP ⟨#[]⟩ l = allN l := by
  unfold namesP allN
  refine List.filter_eq_self.2 fun n _ => ?_
  simp [preS, Lib.hasPrefix]
theorem namesP_filter (f : ByteArray) (l : List (ByteArray × ObD)) : namesP f l = (allN l).filter fun n => preS f n := rfl
theorem filter_at {α : Type} (p : α → Bool) (l : List α) (i : Nat) (h : i < l.length) (hp : p l[i] = true) : (l.filter p)[((l.take i).filter p).length]? = some l[i] := by
  have h2 : l.filter p = (l.take i).filter p ++ (l[i] :: (l.drop (i + 1)).filter p) := by
    conv => lhs; rw [← List.take_append_drop i l, List.filter_append, List.drop_eq_getElem_cons h]
    rw [List.filter_cons, if_pos hp]
  rw [h2, List.getElem?_append_right (Nat.le_refl _)]
  simp
theorem filter_take_le {α : Type} (p : α → Bool) (l : List α) (i : Nat) : ((l.take i).filter p).length ≤ (l.filter p).length :=
  List.Sublist.length_le ((List.take_sublist i l).filter p)
theorem filter_take_succ {α : Type} (p : α → Bool) (l : List α) (i : Nat) (h : i < l.length) : ((l.take (i + 1)).filter p).length = ((l.take i).filter p).length + (if p l[i] then 1 else 0) := by
  rw [List.take_succ_eq_append_getElem h, List.filter_append, List.length_append]
  congr 1
  simp only [List.filter_cons, List.filter_nil]
  split <;> simp
/-- names rise -/
theorem allN_up {l : List (ByteArray × ObD)} (h : UpS l) {i : Nat} (h1 : i + 1 < (allN l).length) : ltS ((allN l)[i]'(by omega)) (allN l)[i + 1] = true := by
  have h2 : i + 1 < l.length := by simpa [allN] using h1
  have := List.pairwise_iff_getElem.1 h i (i + 1) (by omega) h2 (by omega)
  rw [lessS_lt] at this
  simpa [allN] using this
theorem ltS_leq {a b : ByteArray} (h : ltS a b = true) : (Op.bytesLess b.toList a.toList || b.toList == a.toList) = false := by
  have h1 : ltS b a = false := by
    cases h2 : ltS b a with
    | false => rfl
    | true => have := ltS_trans h h2; rw [ltS_irrefl] at this; cases this
  have h2 : (b.toList == a.toList) = false := by
    simp only [beq_eq_false_iff_ne, ne_eq]
    intro e
    have := ba_ext e
    subst this
    rw [ltS_irrefl] at h
    cases h
  have h1' : Op.bytesLess b.toList a.toList = false := h1
  rw [h1', h2]
  rfl
theorem is_of_mem {s : StD} {n : ByteArray} (h : n ∈ allN s.l) : s.is n = true := by
  obtain ⟨p, hp, rfl⟩ := List.mem_map.1 h
  exact getS_some.2 ⟨p, hp, rfl⟩
theorem mem_of_is {s : StD} {n : ByteArray} (h : s.is n = true) : n ∈ allN s.l := by
  obtain ⟨p, hp, rfl⟩ := getS_some.1 h
  exact List.mem_map.2 ⟨p, hp, rfl⟩
/-- what is put under a name that is there leaves the names -/
theorem names_put {β : Type} {k : ByteArray} {v : β} : ∀ {l : List (ByteArray × β)}, UpS l → (getS k l).isSome = true → (putS k v l).map (·.1) = l.map (·.1) := by
  intro l
  unfold putS
  induction l with
  | nil => intro _ h; cases h
  | cons q r ih =>
    intro h hi
    have hq := List.pairwise_cons.1 h
    by_cases e : q.1 = k
    · have hr : ∀ p ∈ r, lessS k p.1 = true := fun p hp => by rw [← e]; exact hq.1 p hp
      have h1 : delS k (q :: r) = r := by
        unfold delS
        simp only [List.filter_cons, e, decide_true, Bool.not_true, if_false, Bool.false_eq_true]
        exact List.filter_eq_self.2 fun p hp => by
          have := lessS_ne (hr p hp)
          simp; exact fun h => this h.symm
      rw [h1]
      cases r with
      | nil => simp [insS, e]
      | cons p r => simp [insS, hr p (by simp), e]
    · have hd : delS k (q :: r) = q :: delS k r := by simp [delS, e]
      have hi2 : (getS k r).isSome = true := by
        obtain ⟨p, hp, hpk⟩ := getS_some.1 hi
        rcases List.mem_cons.1 hp with rfl | hp
        · exact absurd hpk e
        · exact getS_some.2 ⟨p, hp, hpk⟩
      obtain ⟨p, hp, hpk⟩ := getS_some.1 hi2
      have h1 : lessS q.1 k = true := by rw [← hpk]; exact hq.1 p hp
      have h2 : lessS k q.1 = false := by
        cases h2 : lessS k q.1 with
        | false => rfl
        | true => have := lessS_trans h1 h2; rw [lessS_irrefl] at this; cases this
      rw [hd]
      simp only [insS, h2, if_false, Bool.false_eq_true, List.map_cons]
      rw [ih hq.2 hi2]
theorem nm_of_is {s : StD} {n : ByteArray} (hok : StOk s) (h : s.is n = true) : nameB n = true := by
  obtain ⟨p, hp, rfl⟩ := getS_some.1 h
  exact hok.nm p hp
/-- what is there can be written still -/
theorem st_again {s : StD} {nm : ByteArray} {b : List UInt8} (hok : StOk s) (hi : s.is nm = true) (hb : b.length ≤ 64) :
    (stDo s ⟨nm, opW b⟩).2 = 0 ∧ allN (stDo s ⟨nm, opW b⟩).1.l = allN s.l := by
  have h := txDo_wr (th := s.is nm) (nm_of_is hok hi) (hok.obj nm) hb
  have h3 := stDo_put (s := s) (t := ⟨nm, opW b⟩) (by rw [show (⟨nm, opW b⟩ : TxD).obj = nm from rfl, h]) (by rw [show (⟨nm, opW b⟩ : TxD).obj = nm from rfl, h]) (fun h => by
    have := h.1
    rw [show (⟨nm, opW b⟩ : TxD).obj = nm from rfl, hi] at this
    cases this)
  rw [h3]
  exact ⟨rfl, names_put hok.up hi⟩
/-- where it is full nothing new is written -/
theorem st_fresh {s : StD} {nm : ByteArray} {b : List UInt8} (hok : StOk s) (hn : nameB nm = true) (hi : s.is nm = false) (hb : b.length ≤ 64) :
    (stDo s ⟨nm, opW b⟩).2 = if s.l.length < s.room then 0 else 110 := by
  by_cases hl : s.l.length < s.room
  · rw [st_anew hok hn hi hl hb, if_pos hl]
  · have h := txDo_wr (th := s.is nm) hn (hok.obj nm) hb
    rw [if_neg hl, stDo_full (t := ⟨nm, opW b⟩) (by rw [show (⟨nm, opW b⟩ : TxD).obj = nm from rfl, h]) (by rw [show (⟨nm, opW b⟩ : TxD).obj = nm from rfl, h]) hi (by omega)]
/-- one that is refused changes nothing -/
theorem st_no {s : StD} {t : TxD} (h : (stDo s t).2 ≠ 0) : (stDo s t).1 = s := by
  unfold stDo at *
  simp only at *
  repeat' split
  all_goals first | rfl | (exfalso; simp_all)
/-- one transaction leaves the other objects -/
theorem st_other {s : StD} (hok : StOk s) (t : TxD) {n : ByteArray} (h : n ≠ t.obj) : (stDo s t).1.obj n = s.obj n ∧ (stDo s t).1.is n = s.is n := by
  have key : getS n (stDo s t).1.l = getS n s.l := by
    unfold stDo
    simp only
    repeat' split
    · rfl
    · show getS n (delS t.obj s.l) = _
      rw [getS_del, if_neg h]
    · rfl
    · show getS n (putS t.obj _ s.l) = _
      rw [getS_put hok.up, if_neg h]
  unfold StD.obj StD.is
  rw [key]
  exact ⟨rfl, rfl⟩
theorem st_names {s : StD} {t : TxD} {n : ByteArray} (h : n ∈ allN (stDo s t).1.l) : n ∈ allN s.l ∨ n = t.obj ∧ (stDo s t).2 = 0 := by
  unfold allN at *
  obtain ⟨p, hp, rfl⟩ := List.mem_map.1 h
  unfold stDo at *
  simp only at *
  repeat' split at hp
  all_goals simp only [*, if_true, if_false, ne_eq, not_false_eq_true] at *
  · exact .inl (List.mem_map.2 ⟨p, hp, rfl⟩)
  · exact .inl (List.mem_map.2 ⟨p, (delS_mem.1 hp).1, rfl⟩)
  · exact .inl (List.mem_map.2 ⟨p, hp, rfl⟩)
  · rcases putS_mem.1 hp with rfl | ⟨hp, _⟩
    · exact .inr ⟨rfl, by simp_all⟩
    · exact .inl (List.mem_map.2 ⟨p, hp, rfl⟩)
/-- the first transaction on a store with room -/
theorem st_first {r : Nat} (hr : 0 < r) (t : TxD) :
    (stDo ⟨r, []⟩ t).2 = (txDo ObD.none false t).e ∧ (stDo ⟨r, []⟩ t).1.obj t.obj = (txDo ObD.none false t).o ∧ (stDo ⟨r, []⟩ t).1.is t.obj = ((txDo ObD.none false t).there && decide ((txDo ObD.none false t).e = 0)) := by
  have e1 : (⟨r, []⟩ : StD).obj t.obj = ObD.none := rfl
  have e2 : (⟨r, []⟩ : StD).is t.obj = false := rfl
  have hnn : (txDo ObD.none false t).e ≠ 0 → (txDo ObD.none false t).o = ObD.none := by
    intro h
    unfold txDo at *
    split at h
    · split at h
      · rename_i h1 h2
        have := runT_no _ _ _ h
        rw [if_pos h1, if_pos h2, this]
        rfl
      · rename_i h1 h2
        rw [if_pos h1, if_neg h2]
        rfl
    · rename_i h1
      rw [if_neg h1]
      rfl
  have hth : (txDo ObD.none false t).e = 0 → (txDo ObD.none false t).there = false → (txDo ObD.none false t).o = ObD.none := by
    intro h h2
    unfold txDo at *
    split at h
    · split at h
      · rename_i h3 h4
        rw [if_pos h3, if_pos h4] at h2 ⊢
        exact (runT_may _ _ _ mayB_none (fun _ => rfl) h).2 h2
      · rename_i h3 h4
        rw [if_pos h3, if_neg h4]
        rfl
    · rename_i h1
      rw [if_neg h1]
      rfl
  generalize hX : txDo ObD.none false t = X at *
  obtain ⟨xo, xt, xe⟩ := X
  simp only at hnn hth
  have hx : txDo ((⟨r, []⟩ : StD).obj t.obj) ((⟨r, []⟩ : StD).is t.obj) t = ⟨xo, xt, xe⟩ := by rw [e1, e2]; exact hX
  by_cases he : xe = 0
  · subst he
    cases xt with
    | false =>
      rw [stDo_gone (by rw [hx]) (by rw [hx])]
      refine ⟨rfl, ?_, ?_⟩
      · rw [hth rfl rfl]; rfl
      · rfl
    | true =>
      rw [stDo_put (by rw [hx]) (by rw [hx]) (fun h => by have := h.2; simp at this; omega), hx]
      have hup : UpS ([] : List (ByteArray × ObD)) := List.Pairwise.nil
      refine ⟨rfl, ?_, ?_⟩
      · show (getS t.obj (putS t.obj xo [])).getD ObD.none = xo
        rw [getS_put hup, if_pos rfl]; rfl
      · show (getS t.obj (putS t.obj xo [])).isSome = _
        rw [getS_put hup, if_pos rfl]; rfl
  · rw [stDo_bad (by rw [hx]; exact he), hx]
    refine ⟨rfl, ?_, ?_⟩
    · rw [hnn he]; rfl
    · simp [he]; rfl
end Go.Proofs.YtohfckkgmijlnaaGreatDoor
