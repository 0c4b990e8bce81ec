/- Plain: what a journal holds that was filled. Plain: what a journal holds that was filled. Plain: a step of filling a journal. Plain: what a filled journal is, and what is loaded of it. -/
import Derived.Test.YtfeonfihlleoeaaDoorGAZ
import Derived.Test.YtfeonfihlleoeaaDoorRefL8
namespace Go.Proofs.YtfeonfihlleoeaaDoor

set_option maxRecDepth 1000000 in
theorem enK_lt : ∀ a b : Fin 48, ltS (enK ((a.val : Int) + 1)) (enK ((b.val : Int) + 1)) = decide (a.val < b.val) := of_decide_eq_true (by kernel_rfl)
set_option maxRecDepth 1000000 in
theorem enK_nm : ∀ a : Fin 48, nameB (enK ((a.val : Int) + 1)) = true := of_decide_eq_true (by kernel_rfl)
set_option maxRecDepth 1000000 in
theorem jrn0_nm : nameB (jrnS 0) = true := of_decide_eq_true (by kernel_rfl)
theorem enK_lt' {a b : Nat} (ha : a < 48) (hb : b < 48) : ltS (enK ((a : Int) + 1)) (enK ((b : Int) + 1)) = decide (a < b) := enK_lt ⟨a, ha⟩ ⟨b, hb⟩
theorem enK_ne {a b : Nat} (ha : a < 48) (hb : b < 48) : (enK ((a : Int) + 1) = enK ((b : Int) + 1)) ↔ a = b := by
  constructor
  · intro e
    have h1 := enK_lt' ha hb
    have h2 := enK_lt' hb ha
    rw [e, ltS_irrefl] at h1
    rw [← e, ltS_irrefl] at h2
    have h1 := of_decide_eq_false h1.symm
    have h2 := of_decide_eq_false h2.symm
    omega
  · rintro rfl; rfl
end Go.Proofs.YtfeonfihlleoeaaDoor
namespace Go.Proofs.YtfeonfihlleoeaaDoor

theorem twAll {p : KyD → Bool} : ∀ l : List KyD, (∀ k ∈ l, p k = true) → l.takeWhile p = l ∧ l.dropWhile p = []
  | [], _ => ⟨rfl, rfl⟩
  | k :: l, h => by
    have h1 := h k (by simp)
    have := twAll l fun x hx => h x (by simp [hx])
    simp [List.takeWhile, List.dropWhile, h1, this.1, this.2]
/-- the key of an entry -/
def kyE (l : List EnD) (j : Nat) : KyD := ⟨enK ((j : Int) + 1), pkE (sqE j (l.getD j EnD.none))⟩
def kysE (l : List EnD) (a n : Nat) : List KyD := (List.range' a n).map (kyE l)
theorem kysE_get (l : List EnD) (a n i : Nat) : (kysE l a n)[i]? = if i < n then some (kyE l (a + i)) else none := by
  unfold kysE
  rw [List.getElem?_map]
  by_cases h : i < n
  · rw [if_pos h, List.getElem?_eq_getElem (by simpa using h)]
    simp
  · rw [if_neg h, List.getElem?_eq_none (by simpa using h)]
    rfl
theorem kysE_len (l : List EnD) (a n : Nat) : (kysE l a n).length = n := by simp [kysE]
theorem kysE_end (l : List EnD) (a n : Nat) : kysE l a (n + 1) = kysE l a n ++ [kyE l (a + n)] := by simp [kysE, List.range'_concat]
theorem kysE_head (l : List EnD) (a n : Nat) : kysE l a (n + 1) = kyE l a :: kysE l (a + 1) n := by simp [kysE, List.range'_succ]
theorem kysE_mem {l : List EnD} {a n : Nat} {k : KyD} (h : k ∈ kysE l a n) : ∃ j, a ≤ j ∧ j < a + n ∧ k = kyE l j := by
  obtain ⟨j, hj, rfl⟩ := List.mem_map.1 h
  obtain ⟨i, hi, rfl⟩ := List.mem_range'.1 hj
  exact ⟨_, by omega, by omega, rfl⟩
section
variable {l : List EnD}
theorem fineK (hd : ∀ j, (l.getD j EnD.none).data.length ≤ 200) {a n : Nat} (h : a + n ≤ 48) : Fine (kysE l a n) := by
  refine ⟨fun i k hi => ?_, fun i j x y hij hx hy => ?_⟩
  · rw [kysE_get] at hi
    split at hi
    · cases hi
      refine ⟨enK_nm ⟨a + i, by omega⟩, ?_⟩
      have := pkE_len (sqE (a + i) (l.getD (a + i) EnD.none))
      have h2 : (sqE (a + i) (l.getD (a + i) EnD.none)).data.length ≤ 200 := hd (a + i)
      show (pkE _).length ≤ 2048
      omega
    · cases hi
  · rw [kysE_get] at hx hy
    split at hx
    · split at hy
      · cases hx
        cases hy
        have := enK_lt' (a := a + i) (b := a + j) (by omega) (by omega)
        exact this.trans (decide_eq_true (by omega))
      · cases hy
    · cases hx
theorem mayK (hd : ∀ j, (l.getD j EnD.none).data.length ≤ 200) {a n s : Nat} (h : a + n ≤ 48) (hs : s ≤ 1000) : mayB ⟨[], kysE l a n, (s : Int)⟩ = true :=
  (mayB_iff _).2 ⟨Nat.zero_le _, by rw [kysE_len]; omega, by show (0 : Int) ≤ s; omega, by show (s : Int) ≤ 1099511627776; omega, fineK hd h⟩
theorem putK_end {a n : Nat} (h : a + n < 48) : putK (kysE l a n) (enK ((a + n : Nat) + 1)) (pkE (sqE (a + n) (l.getD (a + n) EnD.none))) = kysE l a (n + 1) := by
  have hall : ∀ k ∈ kysE l a n, (fun k : KyD => ltS k.name (enK ((a + n : Nat) + 1))) k = true := fun k hk => by
    obtain ⟨j, h1, h2, rfl⟩ := kysE_mem hk
    exact (enK_lt' (a := j) (b := a + n) (by omega) h).trans (decide_eq_true h2)
  unfold putK
  rw [kysE_end]
  have h1 : (kysE l a n).takeWhile (fun k : KyD => ltS k.name (enK ((a + n : Nat) + 1))) = kysE l a n := (twAll _ hall).1
  have h2 : (kysE l a n).dropWhile (fun k : KyD => ltS k.name (enK ((a + n : Nat) + 1))) = [] := (twAll _ hall).2
  rw [h1, h2]
  rfl
theorem dropK_head {a n : Nat} (h : a + n < 48) : dropK (kysE l a (n + 1)) (enK ((a : Nat) + 1)) = kysE l (a + 1) n := by
  unfold dropK
  rw [kysE_head, List.filter_cons_of_neg (by simp [kyE])]
  refine List.filter_eq_self.2 fun k hk => ?_
  obtain ⟨j, h1, h2, rfl⟩ := kysE_mem hk
  have := (enK_ne (a := j) (b := a) (by omega) (by omega))
  simp only [Bool.not_eq_true', decide_eq_false_iff_not]
  show ¬ enK ((j : Int) + 1) = _
  rw [this]
  omega
end
end Go.Proofs.YtfeonfihlleoeaaDoor
namespace Go.Proofs.YtfeonfihlleoeaaDoor

section
variable {O : ObD} {th : Bool}
theorem appL_le (e : EnD) : (appL e).length ≤ 4 := by
  unfold appL
  split <;> simp
theorem th_is (hn : th = false → O = ObD.none) : (if th then O else ObD.none) = O := by
  cases th with
  | true => rfl
  | false => exact (hn rfl).symm
theorem do_below (hm : mayB O = true) (hn : th = false → O = ObD.none) {n : Int} (h : O.seq < n) : doB O th ⟨4, 0, n, ⟨#[]⟩, []⟩ = ⟨O, th, true, 0⟩ := by
  rw [doB_good hm (by simp) (by simp), th_is hn]
  have := doG_lo (o := O) (th := th) (op := ⟨4, 0, n, ⟨#[]⟩, []⟩) (gb := true) (by simp) (by simp) (by simp [guardB, h])
  rw [this, th_is hn]
theorem do_key (hm : mayB O = true) (hn : th = false → O = ObD.none) {nm : ByteArray} {v : List UInt8} (h1 : nameB nm = true) (h2 : v.length ≤ 2048) (h3 : O.keys.length < 120) : doB O th ⟨9, 0, 0, nm, v⟩ = ⟨{ O with keys := putK O.keys nm v }, true, true, 0⟩ := by
  rw [doB_good hm (by simp) (by simp), th_is hn]
  have := doG_some (o := O) (th := th) (op := ⟨9, 0, 0, nm, v⟩) (o2 := { O with keys := putK O.keys nm v }) (by simp) (by simp [changeB, keyOp, h1, h2, h3])
  rw [this]
  simp [thereB]
theorem do_drop (hm : mayB O = true) {nm : ByteArray} : doB O true ⟨10, 0, 0, nm, []⟩ = ⟨{ O with keys := dropK O.keys nm }, true, true, 0⟩ := by
  rw [doB_good hm (by simp) (by simp)]
  have := doG_some (o := O) (th := true) (op := ⟨10, 0, 0, nm, []⟩) (o2 := { O with keys := dropK O.keys nm }) (by simp) (by simp [changeB])
  rw [if_pos rfl, this]
  simp [thereB]
theorem do_seq (hm : mayB O = true) {n : Int} (h1 : 0 ≤ n) (h2 : n ≤ 1099511627776) : doB O true ⟨12, 0, n, ⟨#[]⟩, []⟩ = ⟨{ O with seq := n }, true, true, 0⟩ := by
  rw [doB_good hm (by simp) (by simp)]
  have := doG_some (o := O) (th := true) (op := ⟨12, 0, n, ⟨#[]⟩, []⟩) (o2 := { O with seq := n }) (by simp) (by simp [changeB, h1, h2])
  rw [if_pos rfl, this]
  simp [thereB]
end
/-- the object behind k entries -/
def obK (l : List EnD) (k : Nat) : ObD := ⟨[], kysE l (k - 8) (min k 8), (k : Int)⟩
section
variable {l : List EnD}
theorem tx_ok (hd : ∀ j, (l.getD j EnD.none).data.length ≤ 200) {k : Nat} (hk : k < 40) (hm : mayE (sqE k (l.getD k EnD.none)) = true) : txE (appT 0 (sqE k (l.getD k EnD.none))) = 0 := by
  have hp := pkE_len (sqE k (l.getD k EnD.none))
  have h2 : (sqE k (l.getD k EnD.none)).data.length ≤ 200 := hd k
  have hs : (sqE k (l.getD k EnD.none)).seq = (k : Int) + 1 := rfl
  have hnm : ∀ j : Nat, j < 48 → ((enK ((j : Int) + 1)).size : Int) ≤ 12 := fun j hj => by
    have := enK_nm ⟨j, hj⟩
    unfold nameB at this
    simp only [Bool.and_eq_true, decide_eq_true_eq] at this
    have h := this.1.2
    (try simp only at h)
    omega
  have ha : appT 0 (sqE k (l.getD k EnD.none)) = ⟨jrnS 0, appL (sqE k (l.getD k EnD.none))⟩ := by unfold appT; rw [if_pos hm]
  have hops : ∀ op ∈ appL (sqE k (l.getD k EnD.none)), opP op := by
    intro op ho
    unfold appL at ho
    simp only [List.mem_append, List.mem_cons, List.not_mem_nil, or_false] at ho
    rcases ho with ((rfl | rfl) | ho) | rfl
    · exact ⟨by simp, by simp, by simp, by simp, by rw [hs]; show (0 : Int) ≤ (k : Int) + 1; omega, by rw [hs]; show (k : Int) + 1 ≤ 1099511627776; omega, by show ((0 : Nat) : Int) ≤ 12; omega, by show ((0 : Nat) : Int) ≤ 2048; omega⟩
    · refine ⟨by simp, by simp, by simp, by simp, by simp, by simp, ?_, ?_⟩
      · rw [hs]; exact hnm k (by omega)
      · show (((pkE (sqE k (l.getD k EnD.none))).length : Nat) : Int) ≤ 2048
        omega
    · split at ho
      · rename_i h8
        rw [hs] at h8
        cases List.mem_singleton.1 ho
        refine ⟨by simp, by simp, by simp, by simp, by simp, by simp, ?_, by show ((0 : Nat) : Int) ≤ 2048; omega⟩
        rw [hs, show (k : Int) + 1 - 8 = ((k - 8 : Nat) : Int) + 1 by omega]
        exact hnm (k - 8) (by omega)
      · cases ho
    · exact ⟨by simp, by simp, by simp, by simp, by rw [hs]; show (0 : Int) ≤ (k : Int) + 1; omega, by rw [hs]; show (k : Int) + 1 ≤ 1099511627776; omega, by show ((0 : Nat) : Int) ≤ 12; omega, by show ((0 : Nat) : Int) ≤ 2048; omega⟩
  have hlen := (appL_le (sqE k (l.getD k EnD.none)))
  rw [ha]
  unfold txE
  rw [if_neg (by show ¬ 12 < (appL _).length; omega), if_pos]
  simp only [Bool.and_eq_true]
  exact ⟨jrn0_nm, List.all_eq_true.2 fun op ho => decide_eq_true (hops op ho)⟩
theorem step_fil (hd : ∀ j, (l.getD j EnD.none).data.length ≤ 200) {k : Nat} (hk : k < 40) (hm : mayE (sqE k (l.getD k EnD.none)) = true) :
    txDo (obK l k) (decide (0 < k)) (appT 0 (sqE k (l.getD k EnD.none))) = ⟨obK l (k + 1), true, 0⟩ := by
  have hn : decide (0 < k) = false → obK l k = ObD.none := fun h => by
    have : k = 0 := by simpa using h
    subst this
    rfl
  have hm0 : mayB (obK l k) = true := mayK hd (by omega) (by omega)
  have ha : appT 0 (sqE k (l.getD k EnD.none)) = ⟨jrnS 0, appL (sqE k (l.getD k EnD.none))⟩ := by unfold appT; rw [if_pos hm]
  have hp := pkE_len (sqE k (l.getD k EnD.none))
  have h2 : (sqE k (l.getD k EnD.none)).data.length ≤ 200 := hd k
  unfold txDo
  rw [if_pos (tx_ok hd hk hm), if_pos hm0, th_is hn, ha]
  have hs : (sqE k (l.getD k EnD.none)).seq = (k : Int) + 1 := rfl
  have o1 := do_below (n := (k : Int) + 1) hm0 hn (show (k : Int) < (k : Int) + 1 by omega)
  have hkl : (obK l k).keys.length < 120 := by show (kysE l (k - 8) (min k 8)).length < 120; rw [kysE_len]; omega
  have o2 := do_key (nm := enK ((k : Int) + 1)) (v := pkE (sqE k (l.getD k EnD.none))) hm0 hn (enK_nm ⟨k, by omega⟩) (by omega) hkl
  have hput : putK (obK l k).keys (enK ((k : Int) + 1)) (pkE (sqE k (l.getD k EnD.none))) = kysE l (k - 8) (min k 8 + 1) := by
    have e : k - 8 + min k 8 = k := by omega
    have := putK_end (l := l) (a := k - 8) (n := min k 8) (by omega)
    rw [e] at this
    exact this
  rw [hput] at o2
  have hm2 : mayB ⟨[], kysE l (k - 8) (min k 8 + 1), (k : Int)⟩ = true := mayK hd (by omega) (by omega)
  unfold appL
  rw [hs]
  by_cases h8 : 8 < k + 1
  · have h8' : (8 : Int) < (k : Int) + 1 := by omega
    rw [if_pos h8']
    have e8 : min k 8 = 8 := by omega
    have e9 : min (k + 1) 8 = 8 := by omega
    have e7 : k + 1 - 8 = k - 8 + 1 := by omega
    have hdr : dropK (kysE l (k - 8) (min k 8 + 1)) (enK ((k : Int) + 1 - 8)) = kysE l (k - 8 + 1) 8 := by
      rw [e8, show (k : Int) + 1 - 8 = ((k - 8 : Nat) : Int) + 1 by omega]
      exact dropK_head (by omega)
    have o3 := do_drop (nm := enK ((k : Int) + 1 - 8)) hm2
    simp only at o3
    rw [hdr] at o3
    have hm3 : mayB ⟨[], kysE l (k - 8 + 1) 8, (k : Int)⟩ = true := mayK hd (by omega) (by omega)
    have o4 := do_seq (n := (k : Int) + 1) hm3 (by omega) (by omega)
    show runT (obK l k) (decide (0 < k)) [⟨4, 0, (k : Int) + 1, ⟨#[]⟩, []⟩, ⟨9, 0, 0, enK ((k : Int) + 1), pkE (sqE k (l.getD k EnD.none))⟩, ⟨10, 0, 0, enK ((k : Int) + 1 - 8), []⟩, ⟨12, 0, (k : Int) + 1, ⟨#[]⟩, []⟩] = _
    rw [runT_go (by rw [o1]) (by rw [o1]), o1, runT_go (by rw [o2]) (by rw [o2]), o2]
    rw [show ({ obK l k with keys := kysE l (k - 8) (min k 8 + 1) } : ObD) = ⟨[], kysE l (k - 8) (min k 8 + 1), (k : Int)⟩ from rfl]
    rw [runT_go (by rw [o3]) (by rw [o3]), o3, runT_go (by rw [o4]) (by rw [o4]), o4, runT_nil]
    unfold obK
    rw [e9, e7]
    simp
  · have h8' : ¬ (8 : Int) < (k : Int) + 1 := by omega
    rw [if_neg h8']
    have e8 : min k 8 + 1 = k + 1 := by omega
    have e9 : min (k + 1) 8 = k + 1 := by omega
    have e7 : k + 1 - 8 = k - 8 := by omega
    have o4 := do_seq (n := (k : Int) + 1) hm2 (by omega) (by omega)
    show runT (obK l k) (decide (0 < k)) [⟨4, 0, (k : Int) + 1, ⟨#[]⟩, []⟩, ⟨9, 0, 0, enK ((k : Int) + 1), pkE (sqE k (l.getD k EnD.none))⟩, ⟨12, 0, (k : Int) + 1, ⟨#[]⟩, []⟩] = _
    rw [runT_go (by rw [o1]) (by rw [o1]), o1, runT_go (by rw [o2]) (by rw [o2]), o2]
    rw [show ({ obK l k with keys := kysE l (k - 8) (min k 8 + 1) } : ObD) = ⟨[], kysE l (k - 8) (min k 8 + 1), (k : Int)⟩ from rfl]
    rw [runT_go (by rw [o4]) (by rw [o4]), o4, runT_nil]
    unfold obK
    rw [e9, e7, e8]
    simp
end
end Go.Proofs.YtfeonfihlleoeaaDoor
namespace Go.Proofs.YtfeonfihlleoeaaDoor

/-- entries that fill a journal -/
structure FilL (l : List EnD) : Prop where
  mk ::
  len : l.length ≤ 30
  dat : ∀ j, (l.getD j EnD.none).data.length ≤ 200
  may : ∀ k, k < l.length → mayE (sqE k (l.getD k EnD.none)) = true
section
variable {l : List EnD}
theorem fil_is (h : FilL l) : ∀ k, k ≤ l.length → filO l k = (obK l k, decide (0 < k)) := by
  intro k
  induction k with
  | zero => intro _; rfl
  | succ k ih =>
    intro hk
    have hl := h.len
    have e := ih (by omega)
    have hs := step_fil h.dat (k := k) (by omega) (h.may k (by omega))
    show ((txDo (filO l k).1 (filO l k).2 (appT 0 (sqE k (l.getD k EnD.none)))).o, (txDo (filO l k).1 (filO l k).2 (appT 0 (sqE k (l.getD k EnD.none)))).there) = _
    rw [e, hs]
    simp
theorem filH_of (h : FilL l) : FilH l where
  len := by have := h.len; omega
  may := h.may
  ok := fun k hk => by
    have hl := h.len
    rw [fil_is h k (by omega), step_fil h.dat (by omega) (h.may k hk)]
  keys := fun k hk => by
    rw [fil_is h k hk]
    show (kysE l (k - 8) (min k 8)).length ≤ 1000
    rw [kysE_len]
    omega
  dat := fun k _ => by have := h.dat k; omega
theorem fil_end (h : FilL l) : (filO l l.length).1 = obK l l.length := by rw [fil_is h _ (Nat.le_refl _)]
theorem getK {j : Nat} (hj : j < 48) : ∀ m a, a + m ≤ 48 → getD (kysE l a m) (enK ((j : Int) + 1)) = if a ≤ j ∧ j < a + m then some (pkE (sqE j (l.getD j EnD.none))) else none := by
  intro m
  induction m with
  | zero =>
    intro a _
    rw [if_neg (by omega)]
    rfl
  | succ m ih =>
    intro a ha
    rw [kysE_head]
    have hne := enK_ne (a := a) (b := j) (by omega) hj
    by_cases e : a = j
    · subst e
      rw [if_pos (by omega)]
      simp [getD, kyE]
    · have h1 : getD (kyE l a :: kysE l (a + 1) m) (enK ((j : Int) + 1)) = getD (kysE l (a + 1) m) (enK ((j : Int) + 1)) := by
        unfold getD
        rw [List.find?_cons_of_neg (by
          show ¬ decide (enK ((a : Int) + 1) = _) = true
          rw [decide_eq_true_eq, hne]
          exact e)]
      rw [h1, ih (a + 1) (by omega)]
      by_cases h2 : a + 1 ≤ j ∧ j < a + 1 + m
      · rw [if_pos h2, if_pos (by omega)]
      · rw [if_neg h2, if_neg (by omega)]
theorem ents_go (h : FilL l) : ∀ f j, l.length - 8 ≤ j → l.length - j ≤ f → j < 48 → entsFrom (obK l l.length) f ((j : Int) + 1) = (List.range' j (l.length - j)).map (fun i => clE (sqE i (l.getD i EnD.none))) := by
  have hl := h.len
  have hk : ∀ j, l.length - 8 ≤ j → j < 48 → getD (obK l l.length).keys (enK ((j : Int) + 1)) = if j < l.length then some (pkE (sqE j (l.getD j EnD.none))) else none := fun j h1 h2 => by
    show getD (kysE l (l.length - 8) (min l.length 8)) _ = _
    rw [getK h2 _ _ (by omega)]
    by_cases h3 : j < l.length
    · rw [if_pos h3, if_pos (by omega)]
    · rw [if_neg h3, if_neg (by omega)]
  intro f
  induction f with
  | zero =>
    intro j h1 h2 h3
    rw [show l.length - j = 0 by omega]
    rfl
  | succ f ih =>
    intro j h1 h2 h3
    by_cases hj : j < l.length
    · have hg := hk j h1 h3
      rw [if_pos hj] at hg
      have hu := un_pkE (h.may j hj)
      rw [entsFrom_yes hg (by rw [hu]; exact ⟨rfl, rfl⟩), hu, show ((j : Int) + 1) + 1 = ((j + 1 : Nat) : Int) + 1 by omega, ih (j + 1) (by omega) (by omega) (by omega), show l.length - j = (l.length - (j + 1)) + 1 by omega, List.range'_succ]
      rfl
    · have hg := hk j h1 h3
      rw [if_neg hj] at hg
      rw [entsFrom_no hg, show l.length - j = 0 by omega]
      rfl
theorem load_is (h : FilL l) {j : Nat} (h1 : l.length - 8 ≤ j) (h2 : j < 48) : loadL (obK l l.length) j = (List.range' j (l.length - j)).map (fun i => clE (sqE i (l.getD i EnD.none))) := by
  unfold loadL
  rw [if_neg (by omega)]
  exact ents_go h 8 j h1 (by omega) h2
end
end Go.Proofs.YtfeonfihlleoeaaDoor
