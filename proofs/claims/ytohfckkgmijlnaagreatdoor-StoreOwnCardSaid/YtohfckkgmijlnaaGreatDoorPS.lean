/- Rows of named objects, and rows of names, in memory. No function is named. How the reference lays a row of named objects anew, plainly. No program is named. The walks of terrazzoref11.New, Get, Names, Strings. -/
import Derived.Test.YtohfckkgmijlnaaGreatDoorPO
import Derived.Test.YtohfckkgmijlnaaGreatDoorPL
import Derived.Test.YtohfckkgmijlnaaGreatDoorOpenD
import Derived.Test.YtohfckkgmijlnaaGreatDoorPJ
import Derived.Test.YtohfckkgmijlnaaGreatDoorPB
import Derived.Test.YtohfckkgmijlnaaGreatDoorPC
import Derived.Lib.Strings
import Derived.Deep.QuietTactic
import Derived.BigQuiet
namespace Go.Proofs.YtohfckkgmijlnaaGreatDoor
open Go.RowKit Go.WideShapes

def Enc.named : Enc (ByteArray × ObD) where
  size := 4
  rd := fun A w cs x => ∃ dv kv, cs = [.string x.1, dv, kv, .int .i64 x.2.seq] ∧ RB A w dv x.2.data ∧ SlE Enc.key A w kv x.2.keys
  len := fun ⟨v, k, h, _⟩ => by rw [h]; rfl
  one := fun ⟨v, k, h, hv, hk⟩ u hu => by
    rw [h] at hu
    simp at hu
    rcases hu with rfl | rfl | rfl | rfl
    all_goals first | rfl | exact hv.one | exact hk.one
  mono := fun ⟨v, k, h, hv, hk⟩ hs => ⟨v, k, h, hv.mono hs, hk.mono hs⟩
  weak := fun ⟨v, k, h, hv, hk⟩ hs => ⟨v, k, h, hv.weak hs, hk.weak hs⟩
theorem Named.soft {A : Nat → Prop} {w w' : World} {v : Value} {l : List (ByteArray × ObD)} (h : SlE Enc.named A w v l) (hs : Soft w w') : SlE Enc.named A w' v l := by
  obtain ⟨ks, h1, h2, h3⟩ := h.flat
  refine SlE.of_flat h1 (fun i x c hi hc => ?_) (h3.soft (fun hn => ?_) hs)
  · obtain ⟨v, k, e, hv, hk⟩ := h2 i x c hi hc
    exact ⟨v, k, e, hv.soft hs, Keys.soft hk hs⟩
  · cases ks with
    | nil => exact absurd rfl hn
    | cons c ks =>
      have hl : 0 < l.length := by rw [← h1]; simp
      obtain ⟨v, k, rfl, -⟩ := h2 0 l[0] c (List.getElem?_eq_getElem hl) rfl
      exact ⟨0, _, rfl, .inl ⟨_, rfl⟩⟩
/-- one named object of a row -/
theorem Named.at {A : Nat → Prop} {w : World} {a : Option Addr} {n c : Nat} {l : List (ByteArray × ObD)} (h : SlE Enc.named A w (.slice a n c) l) {i : Nat} (hi : i < l.length) :
    ∃ b off da dc ka kc, a = some ⟨b, off, none⟩ ∧ b < w.heap.size ∧ w.cell? ⟨b, off + i * 4, none⟩ = some (.string (l[i]).1) ∧ w.cell? ⟨b, off + i * 4 + 1, none⟩ = some (.slice da (l[i]).2.data.length dc) ∧ w.cell? ⟨b, off + i * 4 + 2, none⟩ = some (.slice ka (l[i]).2.keys.length kc) ∧
      w.cell? ⟨b, off + i * 4 + 3, none⟩ = some (.int .i64 (l[i]).2.seq) ∧ RB A w (.slice da (l[i]).2.data.length dc) (l[i]).2.data ∧ SlE Enc.key A w (.slice ka (l[i]).2.keys.length kc) (l[i]).2.keys := by
  obtain ⟨b, off, cap, cs, e, hb, hA, ⟨dv, kv, rfl, hd, hk⟩, hc⟩ := h.at (i := i) (x := l[i]) (by simp [hi])
  simp only [Value.slice.injEq] at e
  obtain ⟨rfl, _, _⟩ := e
  obtain ⟨da, dc, rfl⟩ := hd.shape
  obtain ⟨ka, kc, rfl⟩ := hk.shape
  have e0 := hc 0 (by decide)
  have e1 := hc 1 (by decide)
  have e2 := hc 2 (by decide)
  have e3 := hc 3 (by decide)
  simp only [Enc.named, Nat.add_zero, List.getElem?_cons_zero, List.getElem?_cons_succ] at e0 e1 e2 e3
  exact ⟨b, off, da, dc, ka, kc, rfl, hb, e0, by rw [Nat.add_assoc]; exact e1, by rw [Nat.add_assoc]; exact e2, by rw [Nat.add_assoc]; exact e3, hd, hk⟩
/-- one name of a row -/
theorem Strs.at {A : Nat → Prop} {w : World} {a : Option Addr} {n c : Nat} {l : List ByteArray} (h : SlE Enc.str A w (.slice a n c) l) {i : Nat} (hi : i < l.length) :
    ∃ b off, a = some ⟨b, off, none⟩ ∧ b < w.heap.size ∧ w.cell? ⟨b, off + i, none⟩ = some (.string l[i]) ∧ (l[i]).size ≤ Go.maxLen := by
  obtain ⟨b, off, cap, cs, e, hb, hA, ⟨rfl, hs⟩, hc⟩ := h.at (i := i) (x := l[i]) (by simp [hi])
  simp only [Value.slice.injEq] at e
  obtain ⟨rfl, _, _⟩ := e
  have e0 := hc 0 (by decide)
  simp only [Enc.str, Nat.add_zero, Nat.mul_one, List.getElem?_cons_zero] at e0
  exact ⟨b, off, rfl, hb, e0, hs⟩
/-- one transaction of a row -/
theorem Txns.at {A : Nat → Prop} {w : World} {a : Option Addr} {n c : Nat} {l : List TxD} (h : SlE Enc.txn A w (.slice a n c) l) {i : Nat} (hi : i < l.length) :
    ∃ b off oa oc, a = some ⟨b, off, none⟩ ∧ b < w.heap.size ∧ A b ∧ w.cell? ⟨b, off + i * 2, none⟩ = some (.string (l[i]).obj) ∧ w.cell? ⟨b, off + i * 2 + 1, none⟩ = some (.slice oa (l[i]).ops.length oc) ∧ SlE Enc.op A w (.slice oa (l[i]).ops.length oc) (l[i]).ops := by
  obtain ⟨b, off, cap, cs, e, hb, hA, ⟨v, rfl, hv⟩, hc⟩ := h.at (i := i) (x := l[i]) (by simp [hi])
  simp only [Value.slice.injEq] at e
  obtain ⟨rfl, _, _⟩ := e
  obtain ⟨oa, oc, rfl⟩ := hv.shape
  have e0 := hc 0 (by decide)
  have e1 := hc 1 (by decide)
  simp only [Enc.txn, Nat.add_zero, List.getElem?_cons_zero, List.getElem?_cons_succ] at e0 e1
  exact ⟨b, off, oa, oc, rfl, hb, hA, e0, by rw [Nat.add_assoc]; exact e1, hv⟩
end Go.Proofs.YtohfckkgmijlnaaGreatDoor
namespace Go.Proofs.YtohfckkgmijlnaaGreatDoor
open Go.RowKit

theorem bl_before : ∀ (a b : List UInt8), Op.bytesLess a b = bytesBefore a b
  | [], [] => rfl
  | [], _ :: _ => rfl
  | _ :: _, [] => rfl
  | a :: x, b :: y => by simp only [Op.bytesLess, bytesBefore, bl_before x y]
theorem lessS_lt (a b : ByteArray) : lessS a b = ltS a b := by
  unfold lessS ltS
  rw [Lib.toList_data, Lib.toList_data, bl_before]
section
variable {β : Type}
/-- what lies ahead of a name, and what lies behind it -/
def loS (k : ByteArray) (l : List (ByteArray × β)) : List (ByteArray × β) := l.filter fun p => lessS p.1 k
def hiS (k : ByteArray) (l : List (ByteArray × β)) : List (ByteArray × β) := l.filter fun p => lessS k p.1
/-- has one come that isn't ahead? -/
def seenS (k : ByteArray) (l : List (ByteArray × β)) : Bool := l.any fun p => !lessS p.1 k
/-- the row so far -/
def rowS (yes : Bool) (k : ByteArray) (v : β) (l : List (ByteArray × β)) : List (ByteArray × β) := loS k l ++ (if yes && seenS k l then [(k, v)] else []) ++ hiS k l
theorem seen_up {k : ByteArray} {l : List (ByteArray × β)} {q : ByteArray × β} (h : UpS (l ++ [q])) (hs : seenS k l = true) : lessS k q.1 = true := by
  obtain ⟨p, hp, hk⟩ := List.any_eq_true.1 hs
  have hpq := (List.pairwise_append.1 h).2.2 p hp q (by simp)
  by_cases e : p.1 = k
  · rw [← e]; exact hpq
  · rcases lessS_total e with h1 | h1
    · rw [h1] at hk; cases hk
    · exact lessS_trans h1 hpq
theorem hi_nil {k : ByteArray} {l : List (ByteArray × β)} (hs : seenS k l = false) : hiS k l = [] := by
  refine List.filter_eq_nil_iff.2 fun p hp h => ?_
  have := List.any_eq_false.1 hs p hp
  have h2 : lessS p.1 k = true := by simpa using this
  have := lessS_trans h h2
  rw [lessS_irrefl] at this
  cases this
theorem rowS_snoc_lo {yes : Bool} {k : ByteArray} {v : β} {l : List (ByteArray × β)} {q : ByteArray × β} (h : UpS (l ++ [q])) (hq : lessS q.1 k = true) : seenS k l = false ∧ seenS k (l ++ [q]) = false ∧ rowS yes k v (l ++ [q]) = rowS yes k v l ++ [q] := by
  have h1 : seenS k l = false := by
    cases hs : seenS k l with
    | false => rfl
    | true =>
      have := lessS_trans (seen_up h hs) hq
      rw [lessS_irrefl] at this
      cases this
  have h2 : seenS k (l ++ [q]) = false := by
    unfold seenS at h1 ⊢
    rw [List.any_append, h1]
    simp [hq]
  refine ⟨h1, h2, ?_⟩
  unfold rowS
  rw [h1, h2, hi_nil h1, hi_nil h2]
  simp [loS, hq]
theorem rowS_snoc_hi {yes : Bool} {k : ByteArray} {v : β} {l : List (ByteArray × β)} {q : ByteArray × β} (hq : lessS q.1 k = false) :
    seenS k (l ++ [q]) = true ∧ rowS yes k v (l ++ [q]) = (if yes && !seenS k l then rowS yes k v l ++ [(k, v)] else rowS yes k v l) ++ (if q.1 = k then [] else [q]) := by
  have h2 : seenS k (l ++ [q]) = true := by
    unfold seenS
    rw [List.any_append]
    simp [hq]
  refine ⟨h2, ?_⟩
  have hhi : hiS k (l ++ [q]) = hiS k l ++ (if q.1 = k then [] else [q]) := by
    unfold hiS
    rw [List.filter_append]
    congr 1
    by_cases e : q.1 = k
    · simp [e, lessS_irrefl]
    · have : lessS k q.1 = true := by
        rcases lessS_total e with h1 | h1
        · rw [h1] at hq; cases hq
        · exact h1
      simp [this, e]
  have hlo : loS k (l ++ [q]) = loS k l := by simp [loS, hq]
  unfold rowS
  rw [h2, hhi, hlo]
  cases yes with
  | false => simp [List.append_assoc]
  | true =>
    cases hs : seenS k l with
    | true => simp [List.append_assoc]
    | false => simp [hi_nil hs, List.append_assoc]
/-- the row at its end -/
theorem rowS_put {k : ByteArray} {v : β} : ∀ {l : List (ByteArray × β)}, UpS l → (if seenS k l then rowS true k v l else rowS true k v l ++ [(k, v)]) = putS k v l := by
  have key : ∀ {l : List (ByteArray × β)}, UpS l → putS k v l = loS k l ++ [(k, v)] ++ hiS k l := by
    intro l h
    unfold putS
    induction l with
    | nil => rfl
    | cons q r ih =>
      have hq := List.pairwise_cons.1 h
      by_cases e : q.1 = k
      · have hr : ∀ p ∈ r, lessS k p.1 = true := fun p hp => by rw [← e]; exact hq.1 p hp
        have h1 : delS k (q :: r) = r := by
          unfold delS
          simp only [List.filter_cons, e, decide_true, Bool.not_true, if_false, Bool.false_eq_true]
          exact List.filter_eq_self.2 fun p hp => by
            have := lessS_ne (hr p hp)
            simp; exact fun h => this h.symm
        have h2 : loS k (q :: r) = [] := by
          refine List.filter_eq_nil_iff.2 fun p hp hlt => ?_
          rcases List.mem_cons.1 hp with he | hp
          · have h' : lessS p.1 k = true := hlt
            rw [he, e, lessS_irrefl] at h'
            cases h'
          · have := lessS_trans hlt (hr p hp)
            rw [lessS_irrefl] at this
            cases this
        have h3 : hiS k (q :: r) = r := by
          unfold hiS
          simp only [List.filter_cons, e, lessS_irrefl, if_false, Bool.false_eq_true]
          exact List.filter_eq_self.2 fun p hp => hr p hp
        rw [h1, h2, h3]
        cases r with
        | nil => rfl
        | cons p r => simp [insS, hr p (by simp)]
      · have hd : delS k (q :: r) = q :: delS k r := by simp [delS, e]
        rw [hd]
        rcases lessS_total e with h1 | h1
        · have h2 : lessS k q.1 = false := by
            cases h2 : lessS k q.1 with
            | false => rfl
            | true => have := lessS_trans h1 h2; rw [lessS_irrefl] at this; cases this
          simp only [insS, h2, if_false, Bool.false_eq_true]
          rw [ih hq.2]
          simp [loS, hiS, h1, h2]
        · have hr : ∀ p ∈ r, lessS k p.1 = true := fun p hp => lessS_trans h1 (hq.1 p hp)
          have h2 : lessS q.1 k = false := by
            cases h2 : lessS q.1 k with
            | false => rfl
            | true => have := lessS_trans h1 h2; rw [lessS_irrefl] at this; cases this
          have h3 : delS k r = r := List.filter_eq_self.2 fun p hp => by
            have := lessS_ne (hr p hp)
            simp; exact fun h => this h.symm
          have h4 : loS k r = [] := List.filter_eq_nil_iff.2 fun p hp h => by
            have := lessS_trans h (hr p hp)
            rw [lessS_irrefl] at this
            cases this
          have h5 : hiS k r = r := List.filter_eq_self.2 fun p hp => hr p hp
          simp only [insS, h1, if_true, h3]
          have e4 : loS k (q :: r) = [] := by unfold loS at h4 ⊢; simp [h2, h4]
          have e5 : hiS k (q :: r) = q :: r := by unfold hiS at h5 ⊢; simp [h1, h5]
          rw [e4, e5]
          simp
  intro l h
  rw [key h]
  unfold rowS
  cases hs : seenS k l with
  | true => simp
  | false => simp [hi_nil hs]
theorem rowS_del {k : ByteArray} {v : β} {l : List (ByteArray × β)} (h : UpS l) : rowS false k v l = delS k l := by
  unfold rowS delS
  simp only [Bool.false_and, if_false, Bool.false_eq_true, List.append_nil]
  induction l with
  | nil => rfl
  | cons q r ih =>
    have hq := List.pairwise_cons.1 h
    have ih := ih hq.2
    by_cases e : q.1 = k
    · have hr : ∀ p ∈ r, lessS k p.1 = true := fun p hp => by rw [← e]; exact hq.1 p hp
      have h4 : loS k r = [] := List.filter_eq_nil_iff.2 fun p hp h => by
        have := lessS_trans h (hr p hp)
        rw [lessS_irrefl] at this
        cases this
      unfold loS hiS at *
      simp only [List.filter_cons, e, lessS_irrefl, if_false, Bool.false_eq_true, decide_true, Bool.not_true]
      exact ih
    · rcases lessS_total e with h1 | h1
      · have h2 : lessS k q.1 = false := by
          cases h2 : lessS k q.1 with
          | false => rfl
          | true => have := lessS_trans h1 h2; rw [lessS_irrefl] at this; cases this
        unfold loS hiS at *
        simp only [List.filter_cons, h1, h2, if_true, if_false, Bool.false_eq_true, e, decide_false, Bool.not_false, List.cons_append]
        rw [ih]
      · have hr : ∀ p ∈ r, lessS k p.1 = true := fun p hp => lessS_trans h1 (hq.1 p hp)
        have h2 : lessS q.1 k = false := by
          cases h2 : lessS q.1 k with
          | false => rfl
          | true => have := lessS_trans h1 h2; rw [lessS_irrefl] at this; cases this
        have h4 : loS k r = [] := List.filter_eq_nil_iff.2 fun p hp h => by
          have := lessS_trans h (hr p hp)
          rw [lessS_irrefl] at this
          cases this
        unfold loS hiS at *
        simp only [List.filter_cons, h1, h2, if_true, if_false, Bool.false_eq_true, e, decide_false, Bool.not_false, h4, List.nil_append] at ih ⊢
        rw [ih]
end
end Go.Proofs.YtohfckkgmijlnaaGreatDoor
namespace Go.Proofs.YtohfckkgmijlnaaGreatDoor
open Go.RowKit Go.Maps Go.WideShapes
attribute [local go_sem ↓] Go.wp_at_zero Go.wp_at_succ

theorem below3n {B p : Nat} {w w' : World} (h : Below B w w') (hp : B ≤ p) (x y z : Value) : Below B w (((w'.setCell ⟨p, 0, none⟩ x).setCell ⟨p, 1, none⟩ y).setCell ⟨p, 2, none⟩ z) :=
  ((h.setCell (show B ≤ (⟨p, 0, none⟩ : Addr).block from hp) x).setCell (show B ≤ (⟨p, 1, none⟩ : Addr).block from hp) y).setCell (show B ≤ (⟨p, 2, none⟩ : Addr).block from hp) z
theorem results_cell_u1 {P : Program} {fn : Func} {p u : Tmp} {ty : TypeId} (h : fn.results = #[.cell p ty, .tmp u]) (tmps : Array Value) (w : World) (g : Nat) (t : TypeId) (cs : Array Value) (fr : Nat × Nat) (d : TypeDesc)
    (hp : tmps.getD p undef = .pointer (some ⟨g, 0, none⟩)) (hg : w.heap[g]? = some (.cells cs t fr))
    (hu : P.underlying ty = some d) (hd : (match d with | .struct _ | .array _ _ => true | _ => false) = true) (hi : (P.info? ty).map (·.size) = some cs.size) :
    (results fn tmps).run P w = .ok (.tuple #[.agg cs, tmps.getD u undef]) w := by
  have hp' : tmps[p]?.getD undef = .pointer (some ⟨g, 0, none⟩) := by simpa using hp
  rw [results_cell_tmp h]
  simp [hp', asAddr, run_loadVar_row w g t ty cs fr d hg hu hd hi, Result.andThen]
set_option maxRecDepth 100000 in
set_option maxHeartbeats 1600000 in
theorem rnew_any (r : Int) (w : World) : Calls Tryz.prog 11 #[.int .i64 r] w fun e w' => e = .returned (.agg #[.int .i64 (min (max r 0) 300), .slice none 0 0]) ∧ Below w.heap.size w w' := by
  go_enter Tryz.func11, Tryz.ntmps11
  go_wp2
  refine bodyPost_ret (results_cell_row rfl _ _ w.heap.size 28 _ (0, 0) _ rfl (heap_alloc_new _ _) Tryz.underlying28 rfl (by kernel_rfl)) rfl ?_
  exact ⟨rfl, (Below.refl _ _).alloc (Nat.le_refl _) _⟩
/-- none of the first so many has the name -/
def NoneTo (nm : ByteArray) (l : List (ByteArray × ObD)) (k : Nat) : Prop := ∀ j p, j < k → l[j]? = some p → p.1 ≠ nm
theorem NoneTo.succ {nm : ByteArray} {l : List (ByteArray × ObD)} {k : Nat} (h : NoneTo nm l k) (hk : k < l.length) (hne : (l[k]).1 ≠ nm) : NoneTo nm l (k + 1) := by
  intro j p hj hp
  by_cases e : j = k
  · subst e
    rw [List.getElem?_eq_getElem hk] at hp
    cases hp
    exact hne
  · exact h j p (by omega) hp
theorem NoneTo.hit : ∀ {nm : ByteArray} {l : List (ByteArray × ObD)} {k : Nat}, NoneTo nm l k → ∀ (hk : k < l.length), (l[k]).1 = nm → getS nm l = some (l[k]).2
  | nm, q :: r, 0, _, _, h => by
    simp at h
    simp [getS, h]
  | nm, q :: r, k + 1, hn, hk, h => by
    have h0 := hn 0 q (by omega) rfl
    have := NoneTo.hit (nm := nm) (l := r) (k := k) (fun j p hj hp => hn (j + 1) p (by omega) (by simpa using hp)) (by simpa using hk) (by simpa using h)
    unfold getS at this ⊢
    rw [List.find?_cons_of_neg (by simpa using h0), this]
    simp
theorem NoneTo.none {nm : ByteArray} {l : List (ByteArray × ObD)} (h : NoneTo nm l l.length) : getS nm l = none := by
  unfold getS
  rw [Option.map_eq_none_iff, List.find?_eq_none]
  intro p hp
  obtain ⟨j, hj, rfl⟩ := List.getElem_of_mem hp
  simpa using h j _ hj (List.getElem?_eq_getElem hj)
/-- what Get leaves -/
def GetN (A : Nat → Prop) (x : Option ObD) (w : World) (e : Ending) (w' : World) : Prop := ∃ dv kv, e = .returned (.tuple #[.agg #[dv, kv, .int .i64 (x.getD ObD.none).seq], .bool x.isSome]) ∧ ObV A w' (.agg #[dv, kv, .int .i64 (x.getD ObD.none).seq]) (x.getD ObD.none) ∧ Below w.heap.size w w'
theorem boxP3 (a u : Option Addr) (n c m q : Nat) (s : Int) : BoxP #[.slice a n c, .slice u m q, .int .i64 s] := by
  intro x hx
  simp at hx
  rcases hx with rfl | rfl | rfl <;> rintro (⟨s, h⟩ | ⟨s, h⟩) <;> cases h
theorem boxP2 (u : Option Addr) (m q : Nat) (s : Int) : BoxP #[.int .i64 s, .slice u m q] := by
  intro x hx
  simp at hx
  rcases hx with rfl | rfl <;> rintro (⟨s, h⟩ | ⟨s, h⟩) <;> cases h
/-- three cells of a box are written -/
theorem soft3 {w : World} {p : Nat} {a u : Option Addr} {n c m q : Nat} {s : Int} {t : TypeId} (h : w.heap[p]? = some (.cells #[.slice a n c, .slice u m q, .int .i64 s] t (0, 0))) (x y z : Value) :
    Soft w (((w.setCell ⟨p, 0, none⟩ x).setCell ⟨p, 1, none⟩ y).setCell ⟨p, 2, none⟩ z) := by
  refine ⟨by simp [World.setCell], fun b _ => ?_⟩
  by_cases hb : b = p
  · subst hb
    exact .inr fun cs' t' fr' e => by rw [h] at e; cases e; exact boxP3 _ _ _ _ _ _ _
  · exact .inl ((Below.heap_setCell _ _ _ _ hb).trans ((Below.heap_setCell _ _ _ _ hb).trans (Below.heap_setCell _ _ _ _ hb)))
set_option maxRecDepth 100000 in
set_option maxHeartbeats 1600000 in
theorem rsget_any (A : Nat → Prop) (r : Int) (v : Value) (l : List (ByteArray × ObD)) (nm : ByteArray) (w : World) (hv : SlE Enc.named A w v l) (hl : l.length ≤ 100000) :
    Calls Tryz.prog 16 #[.agg #[.int .i64 r, v], .string nm] w (GetN A (getS nm l) w) := by
  obtain ⟨va, vc, rfl⟩ := hv.shape
  have HV := Lib.hid hv
  clear hv
  go_enter Tryz.func16, Tryz.ntmps16
  go_wp2
  obtain ⟨w0, hw0⟩ : ∃ w0, w0 = (w.alloc (.cells #[.int .i64 r, .slice va l.length vc] 28)).alloc (.cells #[.slice none 0 0, .slice none 0 0, .int .i64 0] 41) := ⟨_, rfl⟩
  rw [← hw0]
  have B0 : w0.heap[w.heap.size]? = some (.cells #[.int .i64 r, .slice va l.length vc] 28 (0, 0)) := by rw [hw0]; exact (Below.heap_alloc _ _ _ (by simp)).trans (heap_alloc_new _ _)
  have R0 : w0.heap[w.heap.size + 1]? = some (.cells #[.slice none 0 0, .slice none 0 0, .int .i64 0] 41 (0, 0)) := by rw [hw0]; exact heap_alloc2_new _ _ _
  have hw : Below w.heap.size w w0 := by rw [hw0]; ((repeat' (first | exact Below.refl _ _ | refine below_drewN ?_ _ | refine Below.drew ?_ | refine Below.alloc ?_ ?_ _ | refine Below.trans ?_ (Below.mono (by assumption) ?_))); all_goals (first | exact Nat.le_refl _ | exact Below.size (by assumption) | omega | (simp; done) | (simp; omega)))
  have HV0 := Lib.hid (HV.out.mono (Same.of_ext hw))
  have HW := Lib.hid hw
  obtain ⟨x1, f1⟩ := blk_cell (i := 1) B0
  simp at x1
  obtain ⟨y0, g0⟩ := blk_cell (i := 0) R0
  obtain ⟨y1, g1⟩ := blk_cell (i := 1) R0
  obtain ⟨y2, g2⟩ := blk_cell (i := 2) R0
  simp at y0 y1 y2
  have HR := Lib.hid R0
  have hlt1 : w.heap.size + 1 < w0.heap.size := (Array.getElem?_eq_some_iff.1 R0).1
  clear hw0 hw B0 R0 f1
  go_loop [6] (fun i => ∃ k : Nat, k ≤ l.length ∧ i = .int .i64 k ∧ NoneTo nm l k) (fun i => l.length - (intOf i).toNat)
  case atStart => exact ⟨0, Nat.zero_le _, rfl, fun j p h => by omega⟩
  case round =>
    obtain ⟨k, hk, rfl, hno⟩ := hrel
    have HN := Lib.hid hno
    clear hno
    by_cases hlt : k < l.length
    · obtain ⟨b, off, da, dc, ka, kc, rfl, hb, c0, c1, c2, c3, hd, hkk⟩ := Named.at HV0.out hlt
      have HO : Hid (ObV A w0 (.agg #[.slice da (l[k]).2.data.length dc, .slice ka (l[k]).2.keys.length kc, .int .i64 (l[k]).2.seq]) (l[k]).2) := Lib.hid ⟨_, _, rfl, hd, hkk⟩
      clear hd hkk
      by_cases hx : (l[k]).1 = nm
      · have HX := Lib.hid (HN.out.hit hlt hx)
        have hxe := eqL (l[k]).1 nm
        have hxt : decide ((l[k]).1 = nm) = true := by simp [hx]
        rw [hxt] at hxe
        clear hx hxt
        go_wp2
        refine bodyPost_ret (results_cell_u1 rfl _ _ (w.heap.size + 1) 41 _ (0, 0) _ rfl (set3_blk HR.out) Tryz.underlying41 rfl (by kernel_rfl)) rfl ?_
        show GetN _ _ _ _ _
        rw [HX.out]
        exact ⟨_, _, rfl, HO.out.soft (soft3 HR.out _ _ _), below3n HW.out (show w.heap.size ≤ w.heap.size + 1 by omega) _ _ _⟩
      · have HI := Lib.hid (HN.out.succ hlt hx)
        have hxe := eqL (l[k]).1 nm
        have hxt : decide ((l[k]).1 = nm) = false := by simp [hx]
        rw [hxt] at hxe
        clear hx hxt
        go_wp2
        go_round
        case rel => exact ⟨k + 1, by omega, by go_num, HI.out⟩
        case measure => simp [intOf]; omega
    · obtain rfl : k = l.length := by omega
      have HX := Lib.hid HN.out.none
      go_wp2
      refine bodyPost_ret (results_cell_u1 rfl _ _ (w.heap.size + 1) 41 _ (0, 0) _ rfl (set3_blk HR.out) Tryz.underlying41 rfl (by kernel_rfl)) rfl ?_
      show GetN _ _ _ _ _
      rw [HX.out]
      exact ⟨_, _, rfl, ⟨_, _, rfl, RB.nil _ _, SlE.nil _ _ _⟩, below3n HW.out (show w.heap.size ≤ w.heap.size + 1 by omega) _ _ _⟩
/-- does a text begin so? -/
def preS (f n : ByteArray) : Bool := Lib.hasPrefix n.data.toList f.data.toList
theorem infoStr : (Tryz.prog.info? 9).map (fun i => (i.zero, i.size, i.bytes)) = some (some (.string ByteArray.empty), 1, 16) := by kernel_rfl
/-- how two rows of names compare -/
def eqTs (a b : List ByteArray) (k : Nat) : Prop := ∀ j, j < k → a[j]? = b[j]?
theorem eqTs_all {a b : List ByteArray} (hl : a.length = b.length) (h : eqTs a b a.length) : a = b := by
  apply List.ext_getElem?
  intro i
  by_cases hi : i < a.length
  · exact h i hi
  · rw [List.getElem?_eq_none (by omega), List.getElem?_eq_none (by omega)]
set_option maxRecDepth 100000 in
set_option maxHeartbeats 1600000 in
theorem rstr_any (A B : Nat → Prop) (va vb : Value) (a b : List ByteArray) (w : World) (ha : SlE Enc.str A w va a) (hb : SlE Enc.str B w vb b) (hl : a.length ≤ 100000) (hl2 : b.length ≤ 100000) :
    Calls Tryz.prog 19 #[va, vb] w (Says (decide (a = b)) w) := by
  obtain ⟨aa, ac, rfl⟩ := ha.shape
  obtain ⟨ba, bc, rfl⟩ := hb.shape
  have HA := Lib.hid ha
  have HB := Lib.hid hb
  clear ha hb
  by_cases hn : a.length = b.length
  · have hne : ((a.length : Int) != (b.length : Int)) = false := by simp; omega
    have HN := Lib.hid hn
    clear hn
    go_enter Tryz.func19, Tryz.ntmps19
    go_wp2
    go_loopw [5] (fun i wr => ∃ k : Nat, k ≤ a.length ∧ i = .int .i64 k ∧ eqTs a b k ∧ Below w.heap.size w wr) (fun i _ => a.length - (intOf i).toNat)
    case atStart => exact ⟨0, Nat.zero_le _, rfl, fun j h => by omega, Below.refl _ _⟩
    case round =>
      obtain ⟨k, hk, rfl, hq, hbr⟩ := hrel
      have HQ := Lib.hid hq
      have HBR := Lib.hid hbr
      by_cases hlt : k < a.length
      · obtain ⟨b1, o1, rfl, hb1, c1, -⟩ := Strs.at (HA.out.mono (Same.of_ext hbr)) hlt
        obtain ⟨b2, o2, rfl, hb2, c2, -⟩ := Strs.at (HB.out.mono (Same.of_ext hbr)) (by rw [← HN.out]; exact hlt : k < b.length)
        have hk5 : (0 : Int) ≤ k := by omega
        have hkl : (k : Int) < a.length := by omega
        have hkl2 : (k : Int) < b.length := by have := HN.out; omega
        have hcm := eqL a[k] (b[k]'(by rw [← HN.out]; exact hlt))
        clear hq hbr
        by_cases hx : a[k] = b[k]'(by rw [← HN.out]; exact hlt)
        · have HI : Hid (eqTs a b (k + 1)) := Lib.hid fun j hj => by
            by_cases e : j = k
            · subst e
              rw [List.getElem?_eq_getElem hlt, List.getElem?_eq_getElem (by rw [← HN.out]; exact hlt), hx]
            · exact HQ.out j (by omega)
          have hxt : decide (a[k] = b[k]'(by rw [← HN.out]; exact hlt)) = true := by simp [hx]
          rw [hxt] at hcm
          clear hx hxt
          go_upto_region 6 with fail
          go_quiet (fail)
          go_wp2
          go_roundw
          case rel => exact ⟨k + 1, by omega, by go_num, HI.out, HBR.out.trans (by ((repeat' (first | exact Below.refl _ _ | refine below_drewN ?_ _ | refine Below.drew ?_ | refine Below.alloc ?_ ?_ _ | refine Below.trans ?_ (Below.mono (by assumption) ?_))); all_goals (first | exact Nat.le_refl _ | exact Below.size (by assumption) | omega | (simp; done) | (simp; omega))))⟩
          case measure => simp [intOf]; omega
        · have HI : Hid (decide (a = b) = false) := Lib.hid (decide_eq_false fun h => hx (by subst h; rfl))
          have hxt : decide (a[k] = b[k]'(by rw [← HN.out]; exact hlt)) = false := by simp [hx]
          rw [hxt] at hcm
          clear hx hxt
          go_upto_region 6 with fail
          go_quiet (fail)
          go_wp2
          go_ret
          rw [HI.out]
          exact ⟨rfl, HBR.out.trans (by ((repeat' (first | exact Below.refl _ _ | refine below_drewN ?_ _ | refine Below.drew ?_ | refine Below.alloc ?_ ?_ _ | refine Below.trans ?_ (Below.mono (by assumption) ?_))); all_goals (first | exact Nat.le_refl _ | exact Below.size (by assumption) | omega | (simp; done) | (simp; omega))))⟩
      · obtain rfl : k = a.length := by omega
        have HI : Hid (decide (a = b) = true) := Lib.hid (decide_eq_true (eqTs_all HN.out HQ.out))
        clear hq hbr
        go_wp2
        go_ret
        rw [HI.out]
        exact ⟨rfl, HBR.out⟩
  · have hne : ((a.length : Int) != (b.length : Int)) = true := by simp; omega
    have HI : Hid (decide (a = b) = false) := Lib.hid (decide_eq_false fun h => hn (by rw [h]))
    clear hn
    go_enter Tryz.func19, Tryz.ntmps19
    go_wp2
    go_ret
    rw [HI.out]
    exact ⟨rfl, Below.refl _ _⟩
end Go.Proofs.YtohfckkgmijlnaaGreatDoor
