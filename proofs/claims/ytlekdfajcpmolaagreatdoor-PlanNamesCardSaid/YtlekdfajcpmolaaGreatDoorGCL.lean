/- Rows of an image's parts in memory: each part's pieces are a row of their own. No function is named. Laws of the parts' row in memory. No function is named. The walks of plan.parts' first closure, of slices.IndexFunc at it. The walk of plan.parts. The sorting of plan.parts: slices.SortFunc at its parts. slices.SortFunc at plan.parts' row. -/
import Derived.Test.YtlekdfajcpmolaaGreatDoorGCK
import Derived.Test.YtlekdfajcpmolaaGreatDoorGAD
import Derived.Test.YtlekdfajcpmolaaGreatDoorGCF
import Derived.Test.YtlekdfajcpmolaaGreatDoorGCI
import Derived.Test.YtlekdfajcpmolaaGreatDoorGCB
import Derived.Deep.RegionLaw
import Derived.Test.YtlekdfajcpmolaaGreatDoorLaidQ
import Derived.Test.YtlekdfajcpmolaaGreatDoorGAC
namespace Go.Proofs.YtlekdfajcpmolaaGreatDoor
open Go.RowKit Go.WideShapes

/-- a part as it lies in a row -/
structure PvD where
  ob : Int
  off : Int
  n : Int
  v : Value
def PvD.cells (x : PvD) : List Value := [.int .i64 x.ob, .int .i64 x.off, .int .i64 x.n, x.v]
def Enc.pv : Enc PvD where
  size := 4
  rd := fun _ _ cs x => cs = x.cells ∧ x.v.oneCell' = true
  len := fun ⟨h, _⟩ => by rw [h]; rfl
  one := fun ⟨h, hv⟩ u hu => by
    rw [h] at hu
    simp [PvD.cells] at hu
    rcases hu with rfl | rfl | rfl | rfl
    all_goals first | rfl | exact hv
  mono := fun h _ => h
  weak := fun h _ => h
def Enc.pc : Enc Pc where
  size := 4
  rd := fun _ _ cs x => cs = x.cells
  len := fun h => by rw [h]; rfl
  one := fun h u hu => by
    rw [h] at hu
    simp [Pc.cells] at hu
    rcases hu with rfl | rfl | rfl | rfl <;> rfl
  mono := fun h _ => h
  weak := fun h _ => h
/-- a part, whole -/
def Enc.pt : Enc PtD where
  size := 4
  rd := fun A w cs x => ∃ v, cs = [.int .i64 x.ob, .int .i64 x.off, .int .i64 x.n, v] ∧ SlE Enc.pc A w v x.pcs
  len := fun ⟨v, h, _⟩ => by rw [h]; rfl
  one := fun ⟨v, h, hv⟩ u hu => by
    rw [h] at hu
    simp at hu
    rcases hu with rfl | rfl | rfl | rfl
    all_goals first | rfl | (obtain ⟨a, c, rfl⟩ := hv.shape; rfl)
  mono := fun ⟨v, h, hv⟩ hs => ⟨v, h, hv.mono hs⟩
  weak := fun ⟨v, h, hv⟩ hs => ⟨v, h, hv.weak hs⟩
abbrev NoB : Nat → Prop := fun _ => False
abbrev PcRow (base : Nat) (w : World) (v : Value) (l : List Pc) : Prop := EnRow Enc.pc 162 NoB base w v l
abbrev PvRow (base : Nat) (w : World) (v : Value) (l : List PvD) : Prop := EnRow Enc.pv 155 NoB base w v l
/-- the parts' pieces, apart from each other -/
structure PcsOf (base : Nat) (w : World) (pv : List PvD) (l : List PtD) : Prop where
  mk ::
  len : pv.length = l.length
  at_ : ∀ (i : Nat) x y, pv[i]? = some x → l[i]? = some y → x.ob = y.ob ∧ x.off = y.off ∧ x.n = y.n ∧ PcRow base w x.v y.pcs
  apart : ∀ (i j : Nat) x y, i ≠ j → pv[i]? = some x → pv[j]? = some y → x.v.ownBlock = none ∨ x.v.ownBlock ≠ y.v.ownBlock
structure PtsI (base : Nat) (w : World) (out : Value) (l : List PtD) : Prop where
  mk ::
  ex : ∃ pv : List PvD, PvRow base w out pv ∧ PcsOf base w pv l
theorem PtsI.nil (base : Nat) (w : World) : PtsI base w (.slice none 0 0) [] := ⟨⟨[], EnRow.nil _ _ _ _ _, rfl, fun i x y h => by simp at h, fun i j x y _ h => by simp at h⟩⟩
theorem EnRow.lt {α : Type} {E : Enc α} {t : TypeId} {A : Nat → Prop} {base : Nat} {w : World} {v : Value} {l : List α} (h : EnRow E t A base w v l) : ∀ g, v.ownBlock = some g → base ≤ g ∧ g < w.heap.size := by
  obtain ⟨cs, h1, h2, h3⟩ := h.ex
  exact fun g hg => h3.lt g hg
/-- where its own block stands, a row of data that lead nowhere stands -/
theorem EnRow.keepN {α : Type} {E : Enc α} {t : TypeId} {base : Nat} {w w' : World} {v : Value} {l : List α} (h : EnRow E t NoB base w v l) (hsz : w.heap.size ≤ w'.heap.size) (hb : ∀ g, v.ownBlock = some g → w'.heap[g]? = w.heap[g]?) : EnRow E t NoB base w' v l := by
  obtain ⟨cs, h1, h2, h3⟩ := h.ex
  refine ⟨⟨cs, h1, fun i x c hi hc => E.mono (h2 i x c hi hc) ⟨hsz, fun b hb _ => hb.elim⟩, h3.1, h3.2.imp id ?_⟩⟩
  rintro ⟨g, cap, cur, rfl, h4, h5, h6⟩
  exact ⟨g, cap, cur, rfl, h4, (hb g rfl).trans h5, h6⟩
theorem EnRow.ne_of {α β : Type} {E : Enc α} {F : Enc β} {t u : TypeId} {A B : Nat → Prop} {base base' : Nat} {w : World} {v v' : Value} {l : List α} {m : List β} (h : EnRow E t A base w v l) (k : EnRow F u B base' w v' m) (hne : t ≠ u) : v.ownBlock = none ∨ v.ownBlock ≠ v'.ownBlock := by
  obtain ⟨cs, h1, h2, h3⟩ := h.ex
  obtain ⟨ds, k1, k2, k3⟩ := k.ex
  exact own_ne h3 k3 hne
theorem PtsI.ext {base : Nat} {w w' : World} {out : Value} {l : List PtD} (h : PtsI base w out l) (hb : Below w.heap.size w w') : PtsI base w' out l := by
  obtain ⟨pv, h1, h2, h3, h4⟩ := h.ex
  exact ⟨⟨pv, h1.ext hb, h2, fun i x y hx hy => ⟨(h3 i x y hx hy).1, (h3 i x y hx hy).2.1, (h3 i x y hx hy).2.2.1, (h3 i x y hx hy).2.2.2.ext hb⟩, h4⟩⟩
theorem PtsI.shape {base : Nat} {w : World} {out : Value} {l : List PtD} (h : PtsI base w out l) : ∃ a c, out = .slice a l.length c := by
  obtain ⟨pv, h1, h2, -⟩ := h.ex
  obtain ⟨a, c, e⟩ := h1.shape
  exact ⟨a, c, by rw [e, h2]⟩

/-! a piece is put to its part, in two steps -/
def preP (l : List PtD) (p : Pc) : List PtD := match l.findIdx? (fun x => decide (x.ob = p.ob)) with
  | none => l ++ [⟨p.ob, p.off, 0, []⟩]
  | some _ => l
def idxP (l : List PtD) (p : Pc) : Nat := match l.findIdx? (fun x => decide (x.ob = p.ob)) with
  | none => l.length
  | some k => k
def updP (l : List PtD) (k : Nat) (p : Pc) : List PtD := l.set k ⟨(l.getD k ⟨0, 0, 0, []⟩).ob, (l.getD k ⟨0, 0, 0, []⟩).off, (l.getD k ⟨0, 0, 0, []⟩).n + p.len, (l.getD k ⟨0, 0, 0, []⟩).pcs ++ [p]⟩
theorem addPt_two (l : List PtD) (p : Pc) : addPt l p = updP (preP l p) (idxP l p) p := by
  unfold addPt preP idxP updP
  cases hk : l.findIdx? (fun x => decide (x.ob = p.ob)) with
  | none =>
    simp only
    have e : (l ++ [(⟨p.ob, p.off, 0, []⟩ : PtD)]).getD l.length ⟨0, 0, 0, []⟩ = ⟨p.ob, p.off, 0, []⟩ := by simp [List.getD_eq_getElem?_getD]
    rw [e, List.set_append_right _ _ (Nat.le_refl _)]
    simp
  | some k => rfl
theorem preP_len (l : List PtD) (p : Pc) : (preP l p).length ≤ l.length + 1 := by
  unfold preP
  split
  · simp
  · omega
end Go.Proofs.YtlekdfajcpmolaaGreatDoor
namespace Go.Proofs.YtlekdfajcpmolaaGreatDoor
open Go.RowKit Go.WideShapes

theorem pvflat_set {s : Nat} (u : Value) {j : Nat} (hj : j < s) : ∀ (cs : List (List Value)) (k : Nat) (c : List Value), (∀ d ∈ cs, d.length = s) → cs[k]? = some c → (cs.set k (c.set j u)).flatten = cs.flatten.set (k * s + j) u
  | [], k, c, _, h => by simp at h
  | d :: cs, 0, c, hs, h => by
    simp at h
    subst h
    have := hs d (by simp)
    rw [List.set_cons_zero, List.flatten_cons, List.flatten_cons, Nat.zero_mul, Nat.zero_add, List.set_append_left _ _ (by omega)]
  | d :: cs, k + 1, c, hs, h => by
    have hd := hs d (by simp)
    have ih := pvflat_set u hj cs k c (fun d hd => hs d (by simp [hd])) (by simpa using h)
    rw [List.set_cons_succ, List.flatten_cons, List.flatten_cons, ih, List.set_append_right _ _ (by rw [Nat.add_mul]; omega)]
    congr 2
    rw [Nat.add_mul]
    omega
/-- a cell of a row of parts is written -/
theorem PvRow.set {base g n c : Nat} {w : World} {pv : List PvD} (h : PvRow base w (.slice (some ⟨g, 0, none⟩) n c) pv) {k j : Nat} {x y : PvD} {u : Value} (hk : pv[k]? = some x) (hj : j < 4) (hy : y.cells = x.cells.set j u) (ho : y.v.oneCell' = true) :
    PvRow base (w.setCell ⟨g, k * 4 + j, none⟩ u) (.slice (some ⟨g, 0, none⟩) n c) (pv.set k y) := by
  obtain ⟨cs, h1, h2, h3, h4⟩ := h.ex
  have hkl := (List.getElem?_eq_some_iff.1 hk).1
  have e : cs[k]? = some x.cells := by
    have := (h2 k x (cs[k]'(by omega)) hk (by simp [h1, hkl])).1
    rw [List.getElem?_eq_getElem (by omega), this]
  have hlen : ∀ d ∈ cs, d.length = 4 := fun d hd => by
    obtain ⟨i, hi, rfl⟩ := List.getElem_of_mem hd
    have := (h2 i pv[i] cs[i] (by simp) (by simp [hi])).1
    rw [this]
    rfl
  have hf := pvflat_set u hj cs k x.cells hlen e
  refine ⟨⟨cs.set k y.cells, by simp [h1], fun i z d hi hd => ?_, ?_⟩⟩
  · by_cases hik : k = i
    · subst hik
      rw [List.getElem?_set_self hkl] at hi
      rw [List.getElem?_set_self (by omega)] at hd
      cases hi
      cases hd
      exact ⟨rfl, ho⟩
    · rw [List.getElem?_set_ne hik] at hi hd
      exact h2 i z d hi hd
  · rw [hy, hf, List.length_set]
    refine ⟨by rw [List.length_set]; exact h3, ?_⟩
    rcases h4 with ⟨e0, _⟩ | ⟨g', cap, cur, e0, k1, k2, k3, k4, k5, k6⟩
    · cases e0
    · simp only [Value.slice.injEq, Option.some.injEq, Addr.mk.injEq] at e0
      obtain ⟨⟨rfl, -⟩, rfl, rfl⟩ := e0
      refine .inr ⟨g, c, cur.setIfInBounds (k * 4 + j) u, rfl, k1, by simp [World.setCell, Array.getElem?_modify, k2], k3, k4, by simpa using k5, ?_⟩
      have k6' := k6
      simp only [Array.toList_setIfInBounds]
      rw [List.take_set, k6']
/-- a part's place in memory -/
structure PtAt (base : Nat) (w : World) (out : Value) (l : List PtD) (k : Nat) (g c : Nat) (pv : List PvD) (x : PvD) : Prop where
  mk ::
  out : out = .slice (some ⟨g, 0, none⟩) l.length c
  row : PvRow base w (.slice (some ⟨g, 0, none⟩) l.length c) pv
  of : PcsOf base w pv l
  at_ : pv[k]? = some x
  lo : base ≤ g
  hi : g < w.heap.size
  cells : ∀ j, j < 4 → w.cell? ⟨g, k * 4 + j, none⟩ = x.cells[j]?
  free : ∀ j, w.frozen? ⟨g, j, none⟩ = false
theorem PtsI.lies {base : Nat} {w : World} {out : Value} {l : List PtD} (h : PtsI base w out l) {k : Nat} (hk : k < l.length) : ∃ g c pv x, PtAt base w out l k g c pv x := by
  obtain ⟨pv, h1, h2⟩ := h.ex
  have hlp := h2.len
  obtain ⟨cs, k1, k2, k3⟩ := h1.ex
  obtain ⟨g, c, rfl, hg, hgs⟩ := k3.form (by omega)
  have hkx : pv[k]? = some (pv[k]'(by omega)) := by simp
  obtain ⟨b, off, cap, ds, e, hb, -, hd, hc⟩ := (h1.sle (A' := fun _ => True) (fun _ _ _ => trivial) fun _ _ => trivial).at hkx
  simp only [Value.slice.injEq, Option.some.injEq, Addr.mk.injEq] at e
  obtain ⟨⟨rfl, rfl, -⟩, -, rfl⟩ := e
  have hfr : ∀ j, w.frozen? ⟨g, j, none⟩ = false := by
    rcases k3.2 with ⟨e0, _⟩ | ⟨g', cap, cur, e0, q1, q2, q3⟩
    · cases e0
    · simp only [Value.slice.injEq, Option.some.injEq, Addr.mk.injEq] at e0
      obtain ⟨⟨rfl, -⟩, -, rfl⟩ := e0
      exact fun j => (blk_cell q2).2
  refine ⟨g, c, pv, pv[k]'(by omega), by rw [hlp], by rw [← hlp]; exact h1, h2, hkx, hg, hgs, fun j hj => ?_, hfr⟩
  have := hc j hj
  rw [Nat.zero_add] at this
  exact this.trans (by rw [hd.1])
theorem PtAt.part {base : Nat} {w : World} {out : Value} {l : List PtD} {k g c : Nat} {pv : List PvD} {x : PvD} (h : PtAt base w out l k g c pv x) {y : PtD} (hy : l[k]? = some y) : x.ob = y.ob ∧ x.off = y.off ∧ x.n = y.n ∧ PcRow base w x.v y.pcs := h.of.at_ k x y h.at_ hy
/-- the parts' pieces lie in other blocks than the parts -/
theorem PtAt.ne {base : Nat} {w : World} {out : Value} {l : List PtD} {k g c : Nat} {pv : List PvD} {x : PvD} (h : PtAt base w out l k g c pv x) {b : Nat} {v : Value} {q : List Pc} (hv : PcRow b w v q) : v.ownBlock ≠ some g := by
  rcases hv.ne_of h.row (by decide) with e | e
  · rw [e]; simp
  · exact e
/-- its length is written -/
theorem PtAt.setN {base : Nat} {w : World} {out : Value} {l : List PtD} {k g c : Nat} {pv : List PvD} {x : PvD} (h : PtAt base w out l k g c pv x) {y : PtD} (hy : l[k]? = some y) (n : Int) : PtsI base (w.setCell ⟨g, k * 4 + 2, none⟩ (.int .i64 n)) out (l.set k ⟨y.ob, y.off, n, y.pcs⟩) := by
  have hkl := (List.getElem?_eq_some_iff.1 hy).1
  have hpl := (List.getElem?_eq_some_iff.1 h.at_).1
  obtain ⟨e1, e2, e3, e4⟩ := h.part hy
  have hv : x.v.oneCell' = true := by obtain ⟨a, d, e⟩ := e4.shape; rw [e]; rfl
  have hr := h.row.set (y := ⟨x.ob, x.off, n, x.v⟩) (u := .int .i64 n) h.at_ (show 2 < 4 by decide) rfl hv
  have hkeep : ∀ {b : Nat} {v : Value} {q : List Pc}, PcRow b w v q → PcRow b (w.setCell ⟨g, k * 4 + 2, none⟩ (.int .i64 n)) v q := fun hq =>
    hq.keepN (by simp [World.setCell]) fun b hb => Below.heap_setCell _ _ _ _ fun e => (h.ne hq) (by rw [hb]; exact congrArg some e)
  refine ⟨⟨_, by rw [h.out]; exact hr, by simp [h.of.len], fun i z d hz hd => ?_, fun i j z d hij hz hd => ?_⟩⟩
  · by_cases hik : k = i
    · subst hik
      rw [List.getElem?_set_self hpl] at hz
      rw [List.getElem?_set_self hkl] at hd
      cases hz
      cases hd
      exact ⟨e1, e2, rfl, hkeep e4⟩
    · rw [List.getElem?_set_ne hik] at hz hd
      obtain ⟨f1, f2, f3, f4⟩ := h.of.at_ i z d hz hd
      exact ⟨f1, f2, f3, hkeep f4⟩
  · have key : ∀ (i : Nat) z, (pv.set k ⟨x.ob, x.off, n, x.v⟩)[i]? = some z → ∃ z', pv[i]? = some z' ∧ z'.v = z.v := fun i z hz => by
      by_cases hik : k = i
      · subst hik
        rw [List.getElem?_set_self hpl] at hz
        cases hz
        exact ⟨x, h.at_, rfl⟩
      · rw [List.getElem?_set_ne hik] at hz
        exact ⟨z, hz, rfl⟩
    obtain ⟨z', hz', ez⟩ := key i z hz
    obtain ⟨d', hd', ed⟩ := key j d hd
    rw [← ez, ← ed]
    exact h.of.apart i j z' d' hij hz' hd'
/-- a piece is put to its row, which is written -/
theorem PtAt.setP {base : Nat} {w w1 : World} {out : Value} {l : List PtD} {k g c : Nat} {pv : List PvD} {x : PvD} (h : PtAt base w out l k g c pv x) {y : PtD} (hy : l[k]? = some y) {ps : List Pc} {g' c' m : Nat}
    (hg : w.grownBy w1 x.v.ownBlock) (hrow : PcRow base w1 (.slice (some ⟨g', 0, none⟩) m c') ps) (hat : x.v.ownBlock = some g' ∨ g' = w.heap.size) :
    PtsI base (w1.setCell ⟨g, k * 4 + 3, none⟩ (.slice (some ⟨g', 0, none⟩) m c')) out (l.set k ⟨y.ob, y.off, y.n, ps⟩) := by
  have hkl := (List.getElem?_eq_some_iff.1 hy).1
  have hpl := (List.getElem?_eq_some_iff.1 h.at_).1
  obtain ⟨e1, e2, e3, e4⟩ := h.part hy
  have hne := h.ne e4
  have hsz := hg.size
  have hgg : g' ≠ g := by
    rcases hat with e | e
    · exact fun e2 => hne (by rw [e, e2])
    · have := h.hi
      omega
  have hr1 : PvRow base w1 (.slice (some ⟨g, 0, none⟩) l.length c) pv := h.row.keepN hsz fun b hb => by
    have e : g = b := Option.some.inj hb
    subst e
    exact hg.block g h.hi fun e => hne e.symm
  have hr := hr1.set (y := ⟨x.ob, x.off, x.n, .slice (some ⟨g', 0, none⟩) m c'⟩) (u := .slice (some ⟨g', 0, none⟩) m c') h.at_ (show 3 < 4 by decide) rfl rfl
  refine ⟨⟨_, by rw [h.out]; exact hr, by simp [h.of.len], fun i z d hz hd => ?_, fun i j z d hij hz hd => ?_⟩⟩
  · by_cases hik : k = i
    · subst hik
      rw [List.getElem?_set_self hpl] at hz
      rw [List.getElem?_set_self hkl] at hd
      cases hz
      cases hd
      exact ⟨e1, e2, e3, hrow.keepN (by simp [World.setCell]) fun b hb => Below.heap_setCell _ _ _ _ fun e => hgg (by rw [← Option.some.inj hb] at e; exact e)⟩
    · rw [List.getElem?_set_ne hik] at hz hd
      obtain ⟨f1, f2, f3, f4⟩ := h.of.at_ i z d hz hd
      have hni := h.ne f4
      refine ⟨f1, f2, f3, f4.keepN (by simpa [World.setCell] using hsz) fun b hb => ?_⟩
      rw [Below.heap_setCell _ _ _ _ (fun e => hni (by rw [hb]; exact congrArg some e))]
      refine hg.block b (f4.lt b hb).2 fun e => ?_
      rcases h.of.apart i k z x (fun e => hik e.symm) hz h.at_ with f | f
      · rw [hb] at f; cases f
      · exact f (by rw [hb, e])
  · have hnew : ∀ (i : Nat) z, k ≠ i → pv[i]? = some z → z.v.ownBlock = none ∨ z.v.ownBlock ≠ some g' := fun i z hik hz => by
      have hil := (List.getElem?_eq_some_iff.1 hz).1
      have hld : i < l.length := by have := h.of.len; omega
      obtain ⟨-, -, -, f4⟩ := h.of.at_ i z (l[i]) hz (by simp [hld])
      rcases hat with e | e
      · rw [← e]
        exact h.of.apart i k z x (fun e => hik e.symm) hz h.at_
      · right
        intro e2
        have := (f4.lt g' e2).2
        omega
    by_cases hik : k = i
    · subst hik
      rw [List.getElem?_set_self hpl] at hz
      rw [List.getElem?_set_ne hij] at hd
      cases hz
      rcases hnew j d hij hd with f | f
      · right
        rw [f]
        simp [Value.ownBlock]
      · right
        exact fun e => f e.symm
    · rw [List.getElem?_set_ne hik] at hz
      by_cases hjk : k = j
      · subst hjk
        rw [List.getElem?_set_self hpl] at hd
        cases hd
        exact hnew i z hik hz
      · rw [List.getElem?_set_ne hjk] at hd
        exact h.of.apart i j z d hij hz hd
/-- a part more -/
theorem PcsOf.push {base : Nat} {w w' : World} {pv : List PvD} {l : List PtD} {out : Value} (h : PcsOf base w pv l) (hp : PvRow base w out pv) (hg : w.grownBy w' out.ownBlock) (ob off : Int) : PcsOf base w' (pv ++ [⟨ob, off, 0, .slice none 0 0⟩]) (l ++ [⟨ob, off, 0, []⟩]) := by
  have hl := h.len
  refine ⟨by simp [hl], fun i z d hz hd => ?_, fun i j z d hij hz hd => ?_⟩
  · by_cases hi : i < pv.length
    · rw [List.getElem?_append_left hi] at hz
      rw [List.getElem?_append_left (by omega)] at hd
      obtain ⟨f1, f2, f3, f4⟩ := h.at_ i z d hz hd
      refine ⟨f1, f2, f3, f4.keepN hg.size fun b hb => hg.block b (f4.lt b hb).2 fun e => ?_⟩
      rcases f4.ne_of hp (by decide) with g | g
      · rw [hb] at g; cases g
      · exact g (by rw [hb, e])
    · have := (List.getElem?_eq_some_iff.1 hz).1
      simp at this
      obtain rfl : i = pv.length := by omega
      rw [List.getElem?_append_right (by omega)] at hz hd
      simp at hz
      rw [hl] at hd
      simp at hd
      subst hz hd
      exact ⟨rfl, rfl, rfl, EnRow.nil _ _ _ _ _⟩
  · by_cases hi : i < pv.length
    · rw [List.getElem?_append_left hi] at hz
      by_cases hj : j < pv.length
      · rw [List.getElem?_append_left hj] at hd
        exact h.apart i j z d hij hz hd
      · have := (List.getElem?_eq_some_iff.1 hd).1
        simp at this
        obtain rfl : j = pv.length := by omega
        rw [List.getElem?_append_right (by omega)] at hd
        simp at hd
        subst hd
        cases hz2 : z.v.ownBlock with
        | none => exact .inl rfl
        | some b => right; simp [Value.ownBlock]
    · have := (List.getElem?_eq_some_iff.1 hz).1
      simp at this
      obtain rfl : i = pv.length := by omega
      rw [List.getElem?_append_right (by omega)] at hz
      simp at hz
      subst hz
      exact .inl rfl
end Go.Proofs.YtlekdfajcpmolaaGreatDoor
namespace Go.Proofs.YtlekdfajcpmolaaGreatDoor
open Go.RowKit Go.WideShapes

theorem Pvs.at {A : Nat → Prop} {w : World} {a : Option Addr} {n c : Nat} {l : List PvD} (h : SlE Enc.pv A w (.slice a n c) l) {i : Nat} (hi : i < l.length) :
    ∃ b off, a = some ⟨b, off, none⟩ ∧ b < w.heap.size ∧ A b ∧ w.cell? ⟨b, off + i * 4, none⟩ = some (.int .i64 l[i].ob) ∧ w.cell? ⟨b, off + i * 4 + 1, none⟩ = some (.int .i64 l[i].off) ∧ w.cell? ⟨b, off + i * 4 + 2, none⟩ = some (.int .i64 l[i].n) ∧ w.cell? ⟨b, off + i * 4 + 3, none⟩ = some l[i].v := by
  obtain ⟨b, off, cap, cs, e, hb, hA, ⟨rfl, hv⟩, hc⟩ := h.at (i := i) (x := l[i]) (by simp [hi])
  simp only [Value.slice.injEq] at e
  obtain ⟨rfl, _, _⟩ := e
  exact ⟨b, off, rfl, hb, hA, hc 0 (by decide), hc 1 (by decide), hc 2 (by decide), hc 3 (by decide)⟩
set_option maxRecDepth 100000 in
theorem part1_any (ob off n o : Int) (a : Option Addr) (m c p : Nat) (w : World) (hw : p < w.heap.size) (hp : w.cell? ⟨p, 0, none⟩ = some (.int .i64 o)) :
    Calls Tryz.prog 151 #[.agg #[.int .i64 ob, .int .i64 off, .int .i64 n, .slice a m c], .pointer (some ⟨p, 0, none⟩)] w fun e w' => e = .returned (.bool (ob == o)) ∧ Below w.heap.size w w' := by
  go_enter Tryz.func151, Tryz.ntmps151
  go_wp2
  go_ret
  exact ⟨rfl, by ((repeat' (first | exact Below.refl _ _ | refine below_drewN ?_ _ | refine Below.drew ?_ | refine Below.alloc ?_ ?_ _ | refine Below.trans ?_ (Below.mono (by assumption) ?_))); all_goals (first | exact Nat.le_refl _ | exact Below.size (by assumption) | omega | (simp; done) | (simp; omega)))⟩
/-- where a part of an object lies -/
def idxV (l : List PvD) (o : Int) : Option Nat := l.findIdx? (fun x => x.ob == o)
theorem idxV_hit {l : List PvD} {o : Int} {k : Nat} (hk : k < l.length) (h : ∀ (j : Nat) (hj : j < l.length), j < k → (l[j].ob == o) = false) (ht : (l[k].ob == o) = true) : idxV l o = some k :=
  List.findIdx?_eq_some_iff_getElem.2 ⟨hk, ht, fun j hj => by simpa using h j (by omega) hj⟩
theorem idxV_miss {l : List PvD} {o : Int} (h : ∀ (j : Nat) (hj : j < l.length), (l[j].ob == o) = false) : idxV l o = none := by
  unfold idxV
  rw [List.findIdx?_eq_none_iff]
  intro x hx
  obtain ⟨j, hj, rfl⟩ := List.getElem_of_mem hx
  exact h j hj
def IdxO (l : List PvD) (o : Int) (w : World) (e : Ending) (w' : World) : Prop := ((∃ k : Nat, idxV l o = some k ∧ k < l.length ∧ e = .returned (.int .i64 k)) ∨ (idxV l o = none ∧ e = .returned (.int .i64 (-1)))) ∧ Below w.heap.size w w'
set_option maxRecDepth 100000 in
set_option maxHeartbeats 1600000 in
theorem idxP_any (A : Nat → Prop) (a : Option Addr) (c : Nat) (l : List PvD) (o : Int) (p : Nat) (w : World) (hw : p < w.heap.size) (hp : w.cell? ⟨p, 0, none⟩ = some (.int .i64 o)) (hv : SlE Enc.pv A w (.slice a l.length c) l) (hl : l.length ≤ 1000000) (hsh : ∀ (i : Nat) (hi : i < l.length), ∃ a n c, l[i].v = .slice a n c) :
    Calls Tryz.prog 150 #[.slice a l.length c, .func (.func 151) #[] #[.pointer (some ⟨p, 0, none⟩)]] w (IdxO l o w) := by
  have HV := Lib.hid hv
  have HP := Lib.hid hp
  have HSH := Lib.hid hsh
  have HIT := Lib.hid (fun k (hk : k < l.length) => idxV_hit (o := o) hk)
  have HMISS := Lib.hid (idxV_miss (l := l) (o := o))
  clear hv hp hsh
  go_enter Tryz.func150, Tryz.ntmps150
  go_wp2
  go_loopw [8] (fun q wr => ∃ k : Nat, k ≤ l.length ∧ q = .int .i64 k ∧ (∀ (j : Nat) (hj : j < l.length), j < k → (l[j].ob == o) = false) ∧ Below w.heap.size w wr) (fun q _ => l.length - (intOf q).toNat)
  case atStart => exact ⟨0, Nat.zero_le _, rfl, fun j hj h => by omega, Below.refl _ _⟩
  case round =>
    rename_i wr
    obtain ⟨k, hk, rfl, hall, hbel⟩ := hrel
    have HA := Lib.hid hall
    have HB := Lib.hid hbel
    clear hall hbel
    by_cases hlt : k < l.length
    · obtain ⟨b, off, rfl, hbl, -, hc0, hc1, hc2, hc3⟩ := Pvs.at (SlE.ext HV.out HB.out) hlt
      have HM := Lib.hid (HIT.out k hlt HA.out)
      have HN : Hid ((l[k].ob == o) = false → ∀ (j : Nat) (hj : j < l.length), j < k + 1 → (l[j].ob == o) = false) := Lib.hid fun hf j hj hjk => by
        rcases Nat.lt_or_ge j k with g | g
        · exact HA.out j hj g
        · obtain rfl : j = k := by omega
          exact hf
      obtain ⟨xa, xn, xc, hxv⟩ := HSH.out k hlt
      generalize l[k] = x at *
      obtain ⟨xo, xf, xl, xv⟩ := x
      simp only at *
      subst hxv
      go_wp2_with fail
      refine (part1_any xo xf xl o xa xn xc p _ (by have := HB.out.size; omega) (cellExt HB.out HP.out)).mono ?_
      rintro e w1 ⟨rfl, hb1⟩
      have HB1 := Lib.hid (HB.out.trans (hb1.mono HB.out.size))
      clear hb1 hc0 hc1 hc2 hc3 HB
      cases hq : xo == o
      · have HF := Lib.hid (HN.out hq)
        clear hq HN HM
        go_wp2
        go_roundw
        case rel => exact ⟨k + 1, by omega, by go_num, HF.out, HB1.out⟩
        case measure => simp [intOf]; omega
      · have HT := Lib.hid (HM.out hq)
        clear hq HN HM
        go_wp2
        go_ret
        exact ⟨.inl ⟨k, HT.out, hlt, rfl⟩, HB1.out⟩
    · obtain rfl : k = l.length := by omega
      have HT := Lib.hid (HMISS.out fun j hj => HA.out j hj hj)
      go_wp2
      go_ret
      exact ⟨.inr ⟨HT.out, rfl⟩, HB.out⟩
end Go.Proofs.YtlekdfajcpmolaaGreatDoor
namespace Go.Proofs.YtlekdfajcpmolaaGreatDoor
open Go.RowKit Go.WideShapes

/-- what the loop of parts keeps of the parts -/
structure PtOk (k : Nat) (l : List PtD) : Prop where
  mk ::
  len : l.length ≤ k
  n : ∀ y ∈ l, 0 ≤ y.n ∧ y.n ≤ 1000 * k
  pcs : ∀ y ∈ l, y.pcs.length ≤ k
theorem PtOk.nil : PtOk 0 [] := ⟨by simp, fun y h => by simp at h, fun y h => by simp at h⟩
theorem PtOk.pre {k : Nat} {l : List PtD} (h : PtOk k l) (p : Pc) : (preP l p).length ≤ k + 1 ∧ ∀ y ∈ preP l p, (0 ≤ y.n ∧ y.n ≤ 1000 * k) ∧ y.pcs.length ≤ k := by
  refine ⟨by have := preP_len l p; have := h.len; omega, fun y hy => ?_⟩
  unfold preP at hy
  split at hy
  · rcases List.mem_append.1 hy with hy | hy
    · exact ⟨h.n y hy, h.pcs y hy⟩
    · rw [List.mem_singleton.1 hy]
      refine ⟨?_, Nat.zero_le _⟩
      show (0 : Int) ≤ 0 ∧ (0 : Int) ≤ 1000 * k
      omega
  · exact ⟨h.n y hy, h.pcs y hy⟩
theorem PtOk.upd {k : Nat} {l : List PtD} (h : ∀ y ∈ l, (0 ≤ y.n ∧ y.n ≤ 1000 * k) ∧ y.pcs.length ≤ k) (hl : l.length ≤ k + 1) (i : Nat) (p : Pc) (h0 : 0 ≤ p.len) (h1 : p.len ≤ 1000) : PtOk (k + 1) (updP l i p) := by
  have key : ∀ y ∈ updP l i p, (0 ≤ y.n ∧ y.n ≤ 1000 * ((k + 1 : Nat) : Int)) ∧ y.pcs.length ≤ k + 1 := fun y hy => by
    unfold updP at hy
    rcases List.mem_or_eq_of_mem_set hy with hy | rfl
    · have := h y hy
      omega
    · simp only
      rw [List.getD_eq_getElem?_getD]
      cases hi : l[i]? with
      | none => simp; omega
      | some y =>
        have := h y (List.mem_of_getElem? hi)
        simp only [Option.getD_some, List.length_append, List.length_singleton]
        omega
  exact ⟨by unfold updP; simpa using hl, fun y hy => (key y hy).1, fun y hy => (key y hy).2⟩
theorem ptOk_fold {ps : List Pc} (hp : ∀ p ∈ ps, 0 ≤ p.len ∧ p.len ≤ 1000) : ∀ k, k ≤ ps.length → PtOk k ((ps.take k).foldl addPt [])
  | 0, _ => by simpa using PtOk.nil
  | k + 1, h => by
    have ih := ptOk_fold hp k (by omega)
    have hk := hp ps[k] (List.getElem_mem _)
    rw [List.take_succ_eq_append_getElem (by omega), List.foldl_append]
    simp only [List.foldl_cons, List.foldl_nil]
    rw [addPt_two]
    exact PtOk.upd (ih.pre _).2 (ih.pre _).1 _ _ hk.1 hk.2
theorem addPt_snoc (l : List Pc) {k : Nat} (hk : k < l.length) : (l.take (k + 1)).foldl addPt [] = addPt ((l.take k).foldl addPt []) l[k] := by
  rw [List.take_succ_eq_append_getElem hk, List.foldl_append]
  rfl
theorem findIdx_map {α β : Type} (f : α → β) (p : β → Bool) : ∀ l : List α, (l.map f).findIdx? p = l.findIdx? (fun x => p (f x))
  | [] => rfl
  | x :: l => by
    rw [List.map_cons, List.findIdx?_cons, List.findIdx?_cons, findIdx_map f p l]
/-- the code's index is the plain one -/
theorem idxV_is {base : Nat} {w : World} {pv : List PvD} {l : List PtD} (h : PcsOf base w pv l) (o : Int) : idxV pv o = l.findIdx? (fun x => decide (x.ob = o)) := by
  have e : pv.map PvD.ob = l.map PtD.ob := by
    apply List.ext_getElem?
    intro i
    rw [List.getElem?_map, List.getElem?_map]
    have hl := h.len
    by_cases hi : i < pv.length
    · rw [List.getElem?_eq_getElem hi, List.getElem?_eq_getElem (by omega)]
      have := (h.at_ i _ _ (List.getElem?_eq_getElem hi) (List.getElem?_eq_getElem (show i < l.length by omega))).1
      simp [this]
    · rw [List.getElem?_eq_none (by omega), List.getElem?_eq_none (by omega)]
      rfl
  have a := findIdx_map PvD.ob (fun x => x == o) pv
  have b := findIdx_map PtD.ob (fun x => x == o) l
  unfold idxV
  rw [← a, e, b]
  rfl
theorem preP_none {l : List PtD} {p : Pc} (h : l.findIdx? (fun x => decide (x.ob = p.ob)) = none) : preP l p = l ++ [⟨p.ob, p.off, 0, []⟩] ∧ idxP l p = l.length := by
  unfold preP idxP
  rw [h]
  exact ⟨rfl, rfl⟩
theorem preP_some {l : List PtD} {p : Pc} {k : Nat} (h : l.findIdx? (fun x => decide (x.ob = p.ob)) = some k) : preP l p = l ∧ idxP l p = k := by
  unfold preP idxP
  rw [h]
  exact ⟨rfl, rfl⟩
theorem pcs_lie {w : World} {a : Option Addr} {n c : Nat} {l : List Pc} (h : Sl w 4 (.slice a n c) l.length (pcCells l)) {k : Nat} (hk : k < l.length) : ∃ b off, a = some ⟨b, off, none⟩ ∧ n = l.length ∧ b < w.heap.size ∧
    w.cell? ⟨b, off + k * 4, none⟩ = some (.int .i64 l[k].ob) ∧ w.cell? ⟨b, off + k * 4 + 1, none⟩ = some (.int .i64 l[k].off) ∧ w.cell? ⟨b, off + k * 4 + 2, none⟩ = some (.int .i64 l[k].len) ∧ w.cell? ⟨b, off + k * 4 + 3, none⟩ = some (.int .i64 l[k].fr) := by
  rcases h.2 with ⟨e, h0⟩ | ⟨b, off, cap, e, hb, -, hc⟩
  · omega
  · simp only [Value.slice.injEq] at e
    obtain ⟨rfl, rfl, rfl⟩ := e
    obtain ⟨c0, c1, c2, c3⟩ := pcCells_at l k hk
    exact ⟨b, off, rfl, rfl, hb, (hc (k * 4) (by omega)).trans c0, (hc (k * 4 + 1) (by omega)).trans c1, (hc (k * 4 + 2) (by omega)).trans c2, (hc (k * 4 + 3) (by omega)).trans c3⟩
theorem Tryz.infoPv : (Tryz.prog.info? 155).map (fun i => (i.zero, i.size, i.bytes)) = some (some (.agg #[.int .i64 0, .int .i64 0, .int .i64 0, .slice none 0 0]), 4, 48) := by kernel_rfl
/-- the pieces of a span, few and short -/
theorem PCS_small (u c o off n : Int) : (PCS u c o off n).length ≤ 512 ∧ ∀ p ∈ PCS u c o off n, 0 ≤ p.len ∧ p.len ≤ 1000 := by
  unfold PCS
  split
  · rename_i h
    simp only [Bool.and_eq_true, decide_eq_true_eq] at h
    obtain ⟨⟨⟨h1, -⟩, h3⟩, h4⟩ := h
    refine ⟨Nat.le_trans (length_pcs u c o off n.toNat) (by omega), fun p hp => ?_⟩
    have := pcs_small (lay_of h1) off n.toNat p hp
    omega
  · simp
/-- a box of another type is not the parts' row -/
theorem PtAt.box {base : Nat} {w : World} {out : Value} {l : List PtD} {k g c B : Nat} {pv : List PvD} {x : PvD} {cs : Array Value} (h : PtAt base w out l k g c pv x) (hb : w.heap[B]? = some (.cells cs 162 (0, 0))) : B ≠ g := by
  rintro rfl
  obtain ⟨ds, k1, k2, k3⟩ := h.row.ex
  rcases k3.2 with ⟨e0, _⟩ | ⟨g', cap, cur, e0, q1, q2, q3⟩
  · cases e0
  · simp only [Value.slice.injEq, Option.some.injEq, Addr.mk.injEq] at e0
    obtain ⟨⟨rfl, -⟩, -⟩ := e0
    rw [hb] at q2
    simp at q2
end Go.Proofs.YtlekdfajcpmolaaGreatDoor
namespace Go.Proofs.YtlekdfajcpmolaaGreatDoor
open Go.RowKit Go.WideShapes Go.Sort

/-- a part beside what it says -/
abbrev PvS : Type := { z : PvD × PtD // (0 ≤ z.1.ob ∧ z.1.ob < 1099511627776) ∧ ∃ a n c, z.1.v = .slice a n c }
instance : Inhabited PvS := ⟨⟨(⟨0, 0, 0, .slice none 0 0⟩, ⟨0, 0, 0, []⟩), ⟨by decide, by decide⟩, _, _, _, rfl⟩⟩
def PvS.cells (x : PvS) : List Value := x.1.1.cells
def PvS.cf (x y : PvS) : Int := x.1.1.ob - y.1.1.ob
theorem PvS.lt (x y : PvS) : ltOf PvS.cf x y = decide (x.1.1.ob < y.1.1.ob) := by
  unfold ltOf PvS.cf
  by_cases h : x.1.1.ob < y.1.1.ob
  · rw [decide_eq_true h, decide_eq_true (by omega)]
  · rw [decide_eq_false h, decide_eq_false (by omega)]
theorem PvS.swo : SWO (ltOf PvS.cf) where
  irrefl x := by rw [PvS.lt]; simp
  trans x y z h1 h2 := by rw [PvS.lt] at *; simp at *; omega
  ntrans x y z h1 h2 := by rw [PvS.lt] at *; simp at *; omega
set_option maxRecDepth 100000 in
theorem part2_any (xo xf xn yo yf yn : Int) (xa : Option Addr) (xm xc : Nat) (ya : Option Addr) (ym yc : Nat) (w : World) (h0 : 0 ≤ xo ∧ xo < 1099511627776) (h1 : 0 ≤ yo ∧ yo < 1099511627776) :
    Calls Tryz.prog 153 #[.agg #[.int .i64 xo, .int .i64 xf, .int .i64 xn, .slice xa xm xc], .agg #[.int .i64 yo, .int .i64 yf, .int .i64 yn, .slice ya ym yc]] w fun e w' => e = .returned (.int .i64 (xo - yo)) ∧ ∃ q os, w' = Sort.grow (w.drewN q) os := by
  obtain ⟨a0, a1⟩ := h0
  obtain ⟨b0, b1⟩ := h1
  go_enter Tryz.func153, Tryz.ntmps153
  go_wp2
  go_ret
  exact ⟨rfl, 0, _, by rw [alloc_eq_grow, alloc_eq_grow, grow_grow]; rfl⟩
theorem part2_lays (blk off size : Nat) (w : World) : CmpLays Tryz.prog 153 #[] PvS.cells 4 PvS.cf blk off size w := fun m os dk _ x y => by
  obtain ⟨⟨⟨xo, xf, xn, xv⟩, xp⟩, hx, xa, xm, xc, e⟩ := x
  obtain ⟨⟨⟨yo, yf, yn, yv⟩, yp⟩, hy, ya, ym, yc, e2⟩ := y
  simp only at e e2
  subst e e2
  exact part2_any xo xf xn yo yf yn xa xm xc ya ym yc _ hx hy
theorem below_sorted {α : Type} [Inhabited α] (enc : α → List Value) (k : Nat) (w : World) (base blk off n : Nat) (d : Array α) (os : Array Obj) (hb : base ≤ blk) (hbl : blk < w.heap.size) : Below base w (sortWorldK enc k w blk off n d os) ∧ ∀ b, b < w.heap.size → b ≠ blk → (sortWorldK enc k w blk off n d os).heap[b]? = w.heap[b]? := by
  have key : ∀ b, b < w.heap.size → b ≠ blk → (sortWorldK enc k w blk off n d os).heap[b]? = w.heap[b]? := fun b hl hne => by
    unfold sortWorldK
    rw [heap_grow_old _ _ (by unfold putRowK; rw [size_putRow]; exact hl)]
    unfold putRowK putRow mapBlock
    simp only
    rw [Array.getElem?_modify, if_neg (fun e => hne e.symm)]
    rfl
  refine ⟨⟨rfl, rfl, rfl, by unfold sortWorldK putRowK; simp, fun b hlt => ?_⟩, key⟩
  by_cases hl : b < w.heap.size
  · exact key b hl (by omega)
  · omega
theorem pvFlat (d : List PvS) (i j : Nat) (hi : i < d.length) (hj : j < 4) : (flatK PvS.cells 4 d.toArray)[i * 4 + j]! = (PvS.cells d[i])[j]'(by exact hj) := by
  rw [get_flatK _ _ _ _ (by simp; omega)]
  have e1 : (i * 4 + j) / 4 = i := by omega
  have e2 : (i * 4 + j) % 4 = j := by omega
  rw [e1, e2, getElem!_pos _ i (by simpa using hi), List.getElem_toArray, getElem!_pos _ j (by exact hj)]
/-- a row of parts, beside what they say, out of its cells -/
theorem sle_of_holds {A : Nat → Prop} {w : World} {g cap : Nat} {d : List PvS} (h : HoldsK PvS.cells 4 w g 0 d.toArray) (hg : g < w.heap.size) (hA : A g) (hc : d.length ≤ cap)
    (hd : ∀ z ∈ d, z.1.1.ob = z.1.2.ob ∧ z.1.1.off = z.1.2.off ∧ z.1.1.n = z.1.2.n ∧ SlE Enc.pc A w z.1.1.v z.1.2.pcs) : SlE Enc.pt A w (.slice (some ⟨g, 0, none⟩) d.length cap) (d.map fun z => z.1.2) := by
  have hlen : ∀ c ∈ d.map PvS.cells, c.length = 4 := fun c hc => by
    obtain ⟨z, -, rfl⟩ := List.mem_map.1 hc
    rfl
  have hfl : (d.map PvS.cells).flatten.length = d.length * 4 := by
    rw [List.length_flatten, List.map_map]
    have : (List.length ∘ PvS.cells) = fun _ => 4 := funext fun z => rfl
    rw [this]
    simp [List.map_const']
  refine ⟨⟨d.map PvS.cells, by simp, fun i x c hi hc => ?_, by rw [hfl, List.length_map]; rfl, .inr ⟨g, 0, cap, by simp, by simpa using hc, hA, hg, fun j hj => ?_⟩⟩⟩
  · rw [List.getElem?_map] at hi hc
    cases hz : d[i]? with
    | none => rw [hz] at hi; cases hi
    | some z =>
      rw [hz] at hi hc
      cases hi
      cases hc
      obtain ⟨e1, e2, e3, e4⟩ := hd z (List.mem_of_getElem? hz)
      exact ⟨z.1.1.v, by unfold PvS.cells PvD.cells; rw [e1, e2, e3], e4⟩
  · have hj' : j < d.length * 4 := by rw [List.length_map] at hj; exact hj
    have hi : j / 4 < d.length := by omega
    have hr : j % 4 < 4 := Nat.mod_lt _ (by decide)
    have ej : j / 4 * 4 + j % 4 = j := by omega
    have h1 := (h j (by simpa using hj')).1
    have h2 := pvFlat d (j / 4) (j % 4) hi hr
    have h3 := flat_get (d.map PvS.cells) (j / 4) (by simpa using hi) hlen (j % 4) hr
    rw [ej] at h2 h3
    have e0 : (id (flatK PvS.cells 4 d.toArray)[j]! : Value) = (flatK PvS.cells 4 d.toArray)[j]! := rfl
    rw [h1, e0, h2, h3, List.getElem_map, List.getElem?_eq_getElem (by exact hr)]
end Go.Proofs.YtlekdfajcpmolaaGreatDoor
namespace Go.Proofs.YtlekdfajcpmolaaGreatDoor
open Go.RowKit Go.WideShapes Go.Sort

theorem PvRow.lie {base g n c : Nat} {w : World} {pv : List PvD} (h : PvRow base w (.slice (some ⟨g, 0, none⟩) n c) pv) : base ≤ g ∧ g < w.heap.size ∧ pv.length ≤ c ∧ (∀ (i : Nat) x, pv[i]? = some x → ∀ j, j < 4 → w.cell? ⟨g, i * 4 + j, none⟩ = x.cells[j]?) ∧ ∀ j, w.frozen? ⟨g, j, none⟩ = false := by
  obtain ⟨cs, k1, k2, k3⟩ := h.ex
  rcases k3.2 with ⟨e0, _⟩ | ⟨g', cap, cur, e0, q1, q2, q3, q4⟩
  · cases e0
  · simp only [Value.slice.injEq, Option.some.injEq, Addr.mk.injEq] at e0
    obtain ⟨⟨rfl, -⟩, -, rfl⟩ := e0
    refine ⟨q1, (Array.getElem?_eq_some_iff.1 q2).1, q3, fun i x hx j hj => ?_, fun j => (blk_cell q2).2⟩
    obtain ⟨b, off, cap, ds, e, hb, -, hd, hc⟩ := (h.sle (A' := fun _ => True) (fun _ _ _ => trivial) fun _ _ => trivial).at hx
    simp only [Value.slice.injEq, Option.some.injEq, Addr.mk.injEq] at e
    obtain ⟨⟨rfl, rfl, -⟩, -, rfl⟩ := e
    have := hc j hj
    rw [Nat.zero_add] at this
    exact this.trans (by rw [hd.1])
theorem sle_none {α β : Type} {E : Enc α} {F : Enc β} {A : Nat → Prop} {w : World} {v : Value} (h : SlE E A w v []) : SlE F A w v [] := by
  obtain ⟨cs, h1, h2, h3, h4⟩ := h.ex
  refine ⟨⟨[], rfl, fun i x c hi => by simp at hi, by simp, h4.imp (fun h => ⟨h.1, rfl⟩) ?_⟩⟩
  rintro ⟨b, off, cap, rfl, hc, hA, hl, -⟩
  exact ⟨b, off, cap, rfl, by simp, hA, hl, fun j hj => by simp at hj⟩
/-- the parts beside what they say -/
theorem pvs_zip {base : Nat} {w : World} {pv : List PvD} {l : List PtD} (h : PcsOf base w pv l) (hob : ∀ y ∈ l, 0 ≤ y.ob ∧ y.ob < 512) : ∃ d : List PvS, d.length = l.length ∧ (∀ (i : Nat) z, d[i]? = some z → pv[i]? = some z.1.1 ∧ l[i]? = some z.1.2) ∧ d.map (fun z => z.1.2) = l := by
  have hP : ∀ z ∈ pv.zip l, (0 ≤ z.1.ob ∧ z.1.ob < 1099511627776) ∧ ∃ a n c, z.1.v = .slice a n c := fun z hz => by
    obtain ⟨i, hi, rfl⟩ := List.getElem_of_mem hz
    rw [List.length_zip] at hi
    obtain ⟨e1, -, -, e4⟩ := h.at_ i pv[i] l[i] (by simp) (by simp)
    rw [List.getElem_zip]
    have := hob l[i] (List.getElem_mem _)
    obtain ⟨a, c, e⟩ := e4.shape
    simp only
    exact ⟨by omega, a, _, c, e⟩
  have hl := h.len
  have hlen : ((pv.zip l).pmap (fun z hz => (⟨z, hz⟩ : PvS)) hP).length = l.length := by simp [hl]
  refine ⟨(pv.zip l).pmap (fun z hz => ⟨z, hz⟩) hP, hlen, fun i z hz => ?_, ?_⟩
  · obtain ⟨hi, rfl⟩ := List.getElem?_eq_some_iff.1 hz
    rw [hlen] at hi
    rw [List.getElem_pmap]
    constructor
    · simp
    · simp
  · rw [List.map_pmap]
    apply List.ext_getElem (by simp [hl])
    intro i h1 h2
    rw [List.getElem_pmap]
    simp
set_option maxRecDepth 100000 in
theorem psort_any (base : Nat) (out : Value) (l : List PtD) (w : World) (h : PtsI base w out l) (hob : ∀ y ∈ l, 0 ≤ y.ob ∧ y.ob < 512) (hl : l.length ≤ 1000000) :
    Calls Tryz.prog 152 #[out, .func (.func 153) #[] #[]] w fun e w' => e = .returned (.tuple #[]) ∧ ∃ l' : List PtD, l'.Perm l ∧ (l'.Pairwise fun x y => x.ob ≤ y.ob) ∧ SlE Enc.pt (fun b => base ≤ b) w' out l' ∧ Below base w w' := by
  by_cases h0 : l = []
  · subst h0
    obtain ⟨pv, h1, h2⟩ := h.ex
    obtain rfl : pv = [] := List.eq_nil_of_length_eq_zero h2.len
    obtain ⟨a, c, e⟩ := h1.shape
    have hs := sle_none (F := Enc.pt) (h1.sle (A' := fun b => base ≤ b) (fun _ _ h => h.elim) fun _ h => h)
    subst e
    refine (AnyF.slices_SortFunc_none Tryz.sortP a c (.func (.func 153) #[] #[]) w).mono ?_
    rintro e w' ⟨rfl, rfl⟩
    exact ⟨rfl, [], List.Perm.refl _, List.Pairwise.nil, hs, Below.refl _ _⟩
  · have hpos : 0 < l.length := List.length_pos_iff.2 h0
    obtain ⟨g, c, pv, x, ha⟩ := h.lies hpos
    obtain ⟨hbg, hgs, hcap, hcell, hfr⟩ := ha.row.lie
    have hpl := ha.of.len
    obtain ⟨d, hd, hz, hm⟩ := pvs_zip ha.of hob
    rw [ha.out]
    have hsz : d.toArray.size = l.length := by simpa using hd
    have hH : HoldsK PvS.cells 4 w g 0 d.toArray := fun j hj => by
      have hj' : j < d.length * 4 := by simpa using hj
      have hi : j / 4 < d.length := by omega
      have hr : j % 4 < 4 := Nat.mod_lt _ (by decide)
      have ej : j / 4 * 4 + j % 4 = j := by omega
      have h2 := pvFlat d (j / 4) (j % 4) hi hr
      rw [ej] at h2
      have hc := hcell (j / 4) _ (hz (j / 4) d[j / 4] (by simp)).1 (j % 4) hr
      rw [ej] at hc
      refine ⟨?_, hfr _⟩
      have e0 : (id (flatK PvS.cells 4 d.toArray)[j]! : Value) = (flatK PvS.cells 4 d.toArray)[j]! := rfl
      rw [Nat.zero_add, hc, e0, h2]
      exact List.getElem?_eq_getElem (by exact hr)
    have hcon := AnyQ.slices_SortFunc Tryz.sortP 4 (fun w => by kernel_rfl) (fun w => by kernel_rfl) PvS.cells (fun _ => rfl) (fun z v hv => by
      obtain ⟨⟨⟨xo, xf, xn, xv⟩, xp⟩, hx, xa, xm, xc, e⟩ := z
      simp only at e
      subst e
      simp [PvS.cells, PvD.cells] at hv
      rcases hv with rfl | rfl | rfl | rfl <;> rfl) PvS.cf PvS.swo 153 #[] g 0 c d.toArray w (enters_of Tryz.func153 (by kernel_rfl) rfl) (part2_lays g 0 d.toArray.size w) hH hgs (by rw [hsz]; omega)
    rw [hsz] at hcon
    refine (show Calls Tryz.prog 152 #[.slice (some ⟨g, 0, none⟩) l.length c, .func (.func 153) #[] #[]] w _ from hcon).mono ?_
    rintro e w' ⟨rfl, d', n, os, hp, hs, rfl⟩
    obtain ⟨dl, rfl⟩ : ∃ dl : List PvS, d' = dl.toArray := ⟨d'.toList, by simp⟩
    have hdl : dl.length = l.length := by have := hp.1; simpa [hd] using this
    have hperm : dl.Perm d := by
      have := hp.2.2
      simp only [List.extract_toArray, List.extract_eq_take_drop, List.drop_zero, Nat.sub_zero] at this
      rwa [List.take_of_length_le (by omega), List.take_of_length_le (by omega)] at this
    obtain ⟨hbel, hblk⟩ := below_sorted PvS.cells 4 w base g 0 n dl.toArray os hbg hgs
    refine ⟨rfl, dl.map fun z => z.1.2, ?_, ?_, ?_, hbel⟩
    · rw [← hm]
      exact hperm.map _
    · have hmem : ∀ z ∈ dl, z.1.1.ob = z.1.2.ob := fun z hzm => by
        obtain ⟨i, hi, e⟩ := List.getElem_of_mem (hperm.mem_iff.1 hzm)
        have := hz i z (by rw [List.getElem?_eq_getElem hi, e])
        exact (ha.of.at_ i _ _ this.1 this.2).1
      rw [List.pairwise_map, List.pairwise_iff_getElem]
      intro i j hi hj hij
      have := hs i j (Nat.zero_le _) hij (by omega)
      rw [PvS.lt, getElem!_pos _ i (by simpa using hi), getElem!_pos _ j (by simpa using hj)] at this
      simp only [List.getElem_toArray, decide_eq_false_iff_not] at this
      rw [hmem _ (List.getElem_mem hi), hmem _ (List.getElem_mem hj)] at this
      omega
    · have hHw := holdsK_sortWorldK_c PvS.cells 4 w g 0 d.toArray dl.toArray n os hH hgs (by simp; omega)
      have := sle_of_holds (A := fun b => base ≤ b) (cap := c) hHw (Nat.lt_of_lt_of_le hgs hbel.size) hbg (by omega) fun z hzm => by
        obtain ⟨i, hi, e⟩ := List.getElem_of_mem (hperm.mem_iff.1 hzm)
        have := hz i z (by rw [List.getElem?_eq_getElem hi, e])
        obtain ⟨e1, e2, e3, e4⟩ := ha.of.at_ i _ _ this.1 this.2
        refine ⟨e1, e2, e3, ?_⟩
        have hne := ha.ne e4
        refine EnRow.sle (EnRow.keepN e4 hbel.size fun b hb => hblk b (e4.lt b hb).2 fun e => hne (by rw [hb, e])) (fun _ _ h => h.elim) fun _ h => h
      rwa [hdl] at this
end Go.Proofs.YtlekdfajcpmolaaGreatDoor
