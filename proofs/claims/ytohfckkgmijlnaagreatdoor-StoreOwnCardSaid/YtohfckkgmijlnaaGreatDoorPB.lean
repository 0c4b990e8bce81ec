/- The walks of object.right and of what asks whether a name may be. Objects and ops, plainly: the order of names, what may be, what is read, what an op does. No program is named. The walk of object.Check, at any object. -/
import Derived.Test.YtohfckkgmijlnaaGreatDoorPA
import Derived.Deep.DeepCutAuto
import Derived.Lib.Bytealg
namespace Go.Proofs.YtohfckkgmijlnaaGreatDoor
open Go.RowKit Go.WideShapes

/-- the signs of a name -/
def nameSigns : List UInt8 := [97, 98, 99, 100, 101, 102, 103, 104, 105, 106, 107, 108, 109, 110, 111, 112, 113, 114, 115, 116, 117, 118, 119, 120, 121, 122, 48, 49, 50, 51, 52, 53, 54, 55, 56, 57, 46]
def nameB (s : ByteArray) : Bool := decide (1 ≤ s.size) && decide (s.size ≤ 12) && decide (Lib.trimS s.data.toList nameSigns = [])
theorem trim_any (s : ByteArray) (w : World) (hs : s.size ≤ 9223372036854775807) :
    Calls Tryz.prog 65 #[.string s, .string ⟨#[97, 98, 99, 100, 101, 102, 103, 104, 105, 106, 107, 108, 109, 110, 111, 112, 113, 114, 115, 116, 117, 118, 119, 120, 121, 122, 48, 49, 50, 51, 52, 53, 54, 55, 56, 57, 46]⟩] w fun e w' => e = .returned (.string ⟨(Lib.trimS s.data.toList nameSigns).toArray⟩) ∧ Below w.heap.size w w' :=
  Any.strings_Trim_laid Tryz.trimL (by kernel_rfl) s _ w hs (by decide) (ascii_of_all (by decide))
set_option maxRecDepth 100000 in
set_option maxHeartbeats 1600000 in
theorem oright_any (s : ByteArray) (w : World) : Calls Tryz.prog 52 #[.string s] w fun e w' => e = .returned (.bool (nameB s)) ∧ Below w.heap.size w w' := by
  by_cases h1 : 1 ≤ s.size
  · by_cases h2 : s.size ≤ 12
    · have h1' : (1 : Int) ≤ s.size := by omega
      have h2' : (s.size : Int) ≤ 12 := by omega
      have HN : Hid (nameB s = decide (Lib.trimS s.data.toList nameSigns = [])) := by show nameB s = _; simp [nameB, h1, h2]
      have hsz : s.size ≤ 9223372036854775807 := by omega
      go_enter Tryz.func52, Tryz.ntmps52
      go_wp2_with fail
      refine (trim_any s _ hsz).mono ?_
      rintro e w1 ⟨rfl, hb1⟩
      have HB := Lib.hid hb1
      clear hb1
      by_cases ht : Lib.trimS s.data.toList nameSigns = []
      · have HT := Lib.hid ht
        rw [ht]
        clear ht
        go_wp2
        go_ret
        exact ⟨by rw [HN.out, HT.out]; rfl, HB.out⟩
      · have HT := Lib.hid ht
        have hd : decide ((⟨(Lib.trimS s.data.toList nameSigns).toArray⟩ : ByteArray) = ⟨#[]⟩) = false := by
          have : ¬ ((⟨(Lib.trimS s.data.toList nameSigns).toArray⟩ : ByteArray) = ⟨#[]⟩) := fun e => ht (by
            have := congrArg (fun b : ByteArray => b.data.toList) e
            simpa using this)
          simpa using this
        clear ht
        generalize Lib.trimS s.data.toList nameSigns = L at *
        go_wp2
        go_ret
        exact ⟨by rw [HN.out]; have := HT.out; simp [this], HB.out⟩
    · have h1' : (1 : Int) ≤ s.size := by omega
      have h2' : ¬ (s.size : Int) ≤ 12 := by omega
      have HN : Hid (nameB s = false) := by show nameB s = _; simp [nameB, h2]
      go_enter Tryz.func52, Tryz.ntmps52
      go_wp2
      go_ret
      exact ⟨by rw [HN.out]; rfl, Below.refl _ _⟩
  · have h1' : ¬ (1 : Int) ≤ s.size := by omega
    have HN : Hid (nameB s = false) := by show nameB s = _; simp [nameB, h1]
    go_enter Tryz.func52, Tryz.ntmps52
    go_wp2
    go_ret
    exact ⟨by rw [HN.out]; rfl, Below.refl _ _⟩
set_option maxRecDepth 100000 in
set_option maxHeartbeats 4000000 in
theorem ocheck_one (s : ByteArray) (b : Nat) (w : World) (h0 : w.cell? ⟨b, 0, none⟩ = some (.string s)) (h1 : w.cell? ⟨b, 1, none⟩ = some (.slice none 0 0)) :
    Calls Tryz.prog 35 #[.agg #[.slice none 0 0, .slice (some ⟨b, 0, none⟩) 1 1, .int .i64 0]] w fun e w' => e = .returned (.int .i64 (if nameB s then 0 else 1)) ∧ Below w.heap.size w w' := by
  have hb := World.block_lt_of_cell? w _ h0
  simp only at hb
  obtain ⟨B, hB⟩ : ∃ B, nameB s = B := ⟨_, rfl⟩
  have HR : Hid (∀ W, Calls Tryz.prog 52 #[.string s] W fun e w' => e = .returned (.bool B) ∧ Below W.heap.size W w') := fun W => by rw [← hB]; exact oright_any s W
  rw [hB]
  clear hB
  go_enter Tryz.func35, Tryz.ntmps35
  go_wp2
  obtain ⟨w0, hw0⟩ : ∃ w0, w0 = w.alloc (.cells #[.slice none 0 0, .slice (some ⟨b, 0, none⟩) 1 1, .int .i64 0] 41) := ⟨_, rfl⟩
  rw [← hw0]
  have hw : Below w.heap.size w w0 := by rw [hw0]; ((repeat' (first | exact Below.refl _ _ | refine below_drewN ?_ _ | refine Below.drew ?_ | refine Below.alloc ?_ ?_ _ | refine Below.trans ?_ (Below.mono (by assumption) ?_))); all_goals (first | exact Nat.le_refl _ | exact Below.size (by assumption) | omega | (simp; done) | (simp; omega)))
  have HW := Lib.hid hw
  have z0 := cellExt hw h0
  have z1 := cellExt hw h1
  clear hw hw0 h0 h1
  go_loopw [3, 29] (fun q3 q29 wr => ∃ k : Nat, k ≤ 1 ∧ q29 = .int .i64 k ∧ ((k = 0 ∧ q3 = .bool true) ∨ (k = 1 ∧ q3 = .bool B)) ∧ Below w0.heap.size w0 wr) (fun _ q29 _ => 1 - (intOf q29).toNat)
  case atStart => exact ⟨0, by omega, rfl, .inl ⟨rfl, rfl⟩, Below.refl _ _⟩
  case round =>
    obtain ⟨k, hk, rfl, hor, hbr⟩ := hrel
    have HBR := Lib.hid hbr
    have y0 := cellExt hbr z0
    have y1 := cellExt hbr z1
    have hsr := hbr.size
    clear hbr z0 z1
    rcases hor with ⟨rfl, rfl⟩ | ⟨rfl, rfl⟩
    · cases B with
      | false =>
        go_upto_region 5 with fail
        obtain ⟨wk, hwk⟩ : ∃ wk, wk = wr.alloc (.cells #[.string s, .slice none 0 0] 62) := ⟨_, rfl⟩
        rw [← hwk]
        have K := heap_alloc_new wr (.cells #[.string s, .slice none 0 0] 62)
        rw [← hwk] at K
        have hbk : Below wr.heap.size wr wk := by rw [hwk]; exact (Below.refl _ _).alloc (Nat.le_refl _) _
        have HBK := Lib.hid (HBR.out.trans (hbk.mono hsr))
        have x0 : ∀ n : After wk, n.w.cell? ⟨wr.heap.size, 0, none⟩ = some (.string s) := after_cell (blk_cell (i := 0) K).1
        have x1 : ∀ n : After wk, n.w.cell? ⟨wr.heap.size, 1, none⟩ = some (.slice none 0 0) := after_cell (blk_cell (i := 1) K).1
        clear hwk K hbk y0 y1
        (refine wp_region_after (by kernel_rfl) (by kernel_rfl) ?_
         repeat (first | go_big_quiet_skip | (go_big_quiet_want; go_big_quiet_op; (first | go_big_quiet_on | (apply Exists.intro; refine ⟨fun _ => ?_, ?_⟩; (focus ((go_at_call 52; exact calls_after (HR.out _)))); go_big_quiet_on))))
         refine wpQuiet_nil ?_
         intro _ hw'
         obtain ⟨nq, hw''⟩ := hw'
         subst hw''
         have hq := nq.h)
        have HQ := Lib.hid hq
        clear hq
        go_wp2
        go_roundw
        case rel => exact ⟨1, by omega, rfl, .inr ⟨rfl, rfl⟩, HBK.out.trans (HQ.out.mono HBK.out.size)⟩
        case measure => simp [intOf]
      | true =>
        go_upto_region 5 with fail
        obtain ⟨wk, hwk⟩ : ∃ wk, wk = wr.alloc (.cells #[.string s, .slice none 0 0] 62) := ⟨_, rfl⟩
        rw [← hwk]
        have K := heap_alloc_new wr (.cells #[.string s, .slice none 0 0] 62)
        rw [← hwk] at K
        have hbk : Below wr.heap.size wr wk := by rw [hwk]; exact (Below.refl _ _).alloc (Nat.le_refl _) _
        have HBK := Lib.hid (HBR.out.trans (hbk.mono hsr))
        have x0 : ∀ n : After wk, n.w.cell? ⟨wr.heap.size, 0, none⟩ = some (.string s) := after_cell (blk_cell (i := 0) K).1
        have x1 : ∀ n : After wk, n.w.cell? ⟨wr.heap.size, 1, none⟩ = some (.slice none 0 0) := after_cell (blk_cell (i := 1) K).1
        clear hwk K hbk y0 y1
        (refine wp_region_after (by kernel_rfl) (by kernel_rfl) ?_
         repeat (first | go_big_quiet_skip | (go_big_quiet_want; go_big_quiet_op; (first | go_big_quiet_on | (apply Exists.intro; refine ⟨fun _ => ?_, ?_⟩; (focus ((go_at_call 52; exact calls_after (HR.out _)))); go_big_quiet_on))))
         refine wpQuiet_nil ?_
         intro _ hw'
         obtain ⟨nq, hw''⟩ := hw'
         subst hw''
         have hq := nq.h)
        have HQ := Lib.hid hq
        clear hq
        go_wp2
        go_roundw
        case rel => exact ⟨1, by omega, rfl, .inr ⟨rfl, rfl⟩, HBK.out.trans (HQ.out.mono HBK.out.size)⟩
        case measure => simp [intOf]
    · cases B with
      | false =>
        go_wp2
        go_ret
        exact ⟨rfl, HW.out.trans (HBR.out.mono HW.out.size)⟩
      | true =>
        go_wp2
        go_ret
        exact ⟨rfl, HW.out.trans (HBR.out.mono HW.out.size)⟩
set_option maxRecDepth 100000 in
set_option maxHeartbeats 1600000 in
theorem named_any (s : ByteArray) (w : World) : Calls Tryz.prog 50 #[.string s] w fun e w' => e = .returned (.bool (nameB s)) ∧ Below w.heap.size w w' := by
  go_enter Tryz.func50, Tryz.ntmps50
  go_wp2_with fail
  refine (ocheck_one s w.heap.size _ (by simp) (by simp)).mono ?_
  rintro e w1 ⟨rfl, hb1⟩
  have HB := Lib.hid (((Below.refl _ w).alloc (Nat.le_refl _) _).trans (hb1.mono (by simp)))
  clear hb1
  cases hn : nameB s with
  | false =>
    have HNB := Lib.hid hn
    simp only
    clear hn
    go_wp2
    go_ret
    exact ⟨by rw [HNB.out]; rfl, HB.out⟩
  | true =>
    have HNB := Lib.hid hn
    simp only
    clear hn
    go_wp2
    go_ret
    exact ⟨by rw [HNB.out]; rfl, HB.out⟩
end Go.Proofs.YtohfckkgmijlnaaGreatDoor
namespace Go.Proofs.YtohfckkgmijlnaaGreatDoor
open Go.RowKit

/-! The order of texts -/
theorem bl_irrefl : ∀ a : List UInt8, Op.bytesLess a a = false
  | [] => rfl
  | a :: l => by simp [Op.bytesLess, bl_irrefl l]
theorem bl_trans : ∀ a b c : List UInt8, Op.bytesLess a b = true → Op.bytesLess b c = true → Op.bytesLess a c = true
  | _, [], _, h, _ => by cases ‹List UInt8› <;> simp [Op.bytesLess] at h
  | _, _ :: _, [], _, h => by simp [Op.bytesLess] at h
  | [], _ :: _, _ :: _, _, _ => rfl
  | a :: x, b :: y, c :: z, h, k => by
    simp only [Op.bytesLess, Bool.or_eq_true, decide_eq_true_eq, Bool.and_eq_true, beq_iff_eq] at h k ⊢
    rcases h with h | ⟨rfl, h⟩
    · rcases k with k | ⟨rfl, k⟩
      · exact .inl (UInt8.lt_trans h k)
      · exact .inl h
    · rcases k with k | ⟨rfl, k⟩
      · exact .inl k
      · exact .inr ⟨rfl, bl_trans _ _ _ h k⟩
theorem bl_tri : ∀ a b : List UInt8, Op.bytesLess a b = false → Op.bytesLess b a = false → a = b
  | [], [], _, _ => rfl
  | [], _ :: _, h, _ => by simp [Op.bytesLess] at h
  | _ :: _, [], _, h => by simp [Op.bytesLess] at h
  | a :: x, b :: y, h, k => by
    simp only [Op.bytesLess, Bool.or_eq_false_iff, decide_eq_false_iff_not, Bool.and_eq_false_iff] at h k
    have e : a = b := UInt8.le_antisymm (UInt8.not_lt.1 k.1) (UInt8.not_lt.1 h.1)
    subst e
    rw [bl_tri x y (by simpa using h.2) (by simpa using k.2)]
theorem cmp_less : ∀ a b : List UInt8, Lib.compareBytes a b = if Op.bytesLess a b = true then -1 else if a = b then 0 else 1
  | [], [] => rfl
  | [], _ :: _ => rfl
  | _ :: _, [] => rfl
  | a :: x, b :: y => by
    rw [Lib.compareBytes]
    by_cases h : a < b
    · simp [Op.bytesLess, h]
    · by_cases k : b < a
      · have : a ≠ b := fun e => by subst e; exact h k
        simp [Op.bytesLess, h, k, this]
      · have e : a = b := UInt8.le_antisymm (UInt8.not_lt.1 k) (UInt8.not_lt.1 h)
        subst e
        rw [if_neg h, if_neg k, cmp_less x y]
        simp [Op.bytesLess, h]
def ltS (a b : ByteArray) : Bool := Op.bytesLess a.toList b.toList
theorem ltS_irrefl (a : ByteArray) : ltS a a = false := bl_irrefl _
theorem ltS_trans {a b c : ByteArray} (h : ltS a b = true) (k : ltS b c = true) : ltS a c = true := bl_trans _ _ _ h k
theorem ba_ext {a b : ByteArray} (h : a.toList = b.toList) : a = b := by
  rw [Lib.toList_data, Lib.toList_data] at h
  exact ByteArray.ext (Array.toList_inj.1 h)
theorem ltS_tri {a b : ByteArray} (h : ltS a b = false) (k : ltS b a = false) : a = b := ba_ext (bl_tri _ _ h k)
def cmpS (a b : ByteArray) : Int := Lib.compareBytes a.data.toList b.data.toList
theorem cmpS_lt (a b : ByteArray) : decide (cmpS a b < 0) = ltS a b := by
  unfold cmpS ltS
  rw [cmp_less, Lib.toList_data, Lib.toList_data]
  cases Op.bytesLess a.data.toList b.data.toList with
  | true => simp
  | false => by_cases h : a.data.toList = b.data.toList <;> simp [h]
theorem cmpS_eq (a b : ByteArray) : decide (cmpS a b = 0) = decide (a = b) := by
  unfold cmpS
  rw [cmp_less]
  by_cases h : a.data.toList = b.data.toList
  · have e : a = b := ByteArray.ext (Array.toList_inj.1 h)
    subst e
    simp [bl_irrefl]
  · have e : a ≠ b := fun e => h (by rw [e])
    cases Op.bytesLess a.data.toList b.data.toList <;> simp [h, e]

/-! What may be -/
def keyB (k : KyD) : Bool := nameB k.name && decide (k.value.length ≤ 2048)
def ordB (ks : List KyD) : Nat → Bool
  | 0 => true
  | i + 1 => match ks[i]?, ks[i + 1]? with
    | some a, some b => ltS a.name b.name
    | _, _ => true
def chkAt (ks : List KyD) (i : Nat) : Bool := match ks[i]? with
  | none => true
  | some k => keyB k && ordB ks i
def chkTo (ks : List KyD) : Nat → Bool
  | 0 => true
  | k + 1 => chkTo ks k && chkAt ks k
def headB (o : ObD) : Bool := decide ((o.data.length : Int) ≤ 64) && decide ((o.keys.length : Int) ≤ 120) && decide (0 ≤ o.seq) && decide (o.seq ≤ 1099511627776)
def mayB (o : ObD) : Bool := headB o && chkTo o.keys o.keys.length

theorem chkTo_at {ks : List KyD} {n : Nat} (h : chkTo ks n = true) : ∀ i, i < n → chkAt ks i = true := by
  induction n with
  | zero => intro i hi; omega
  | succ n ih =>
    intro i hi
    simp only [chkTo, Bool.and_eq_true] at h
    by_cases e : i = n
    · subst e; exact h.2
    · exact ih h.1 i (by omega)
theorem chkTo_of {ks : List KyD} {n : Nat} (h : ∀ i, i < n → chkAt ks i = true) : chkTo ks n = true := by
  induction n with
  | zero => rfl
  | succ n ih => simp [chkTo, ih fun i hi => h i (by omega), h n (by omega)]
/-- what may be: its parts -/
structure Fine (ks : List KyD) : Prop where
  key : ∀ (i : Nat) k, ks[i]? = some k → nameB k.name = true ∧ k.value.length ≤ 2048
  up : ∀ (i j : Nat) a b, i < j → ks[i]? = some a → ks[j]? = some b → ltS a.name b.name = true
theorem fine_of {ks : List KyD} (h : chkTo ks ks.length = true) : Fine ks := by
  have hk : ∀ (i : Nat) k, ks[i]? = some k → keyB k = true ∧ ordB ks i = true := fun i k hi => by
    have h1 := chkTo_at h i (List.getElem?_eq_some_iff.1 hi).1
    simpa [chkAt, hi] using h1
  refine ⟨fun i k hi => by simpa [keyB] using (hk i k hi).1, ?_⟩
  have hs : ∀ (d i : Nat) a b, ks[i]? = some a → ks[i + d + 1]? = some b → ltS a.name b.name = true := by
    intro d
    induction d with
    | zero =>
      intro i a b ha hb
      have := (hk _ b hb).2
      simpa [ordB, ha, hb] using this
    | succ d ih =>
      intro i a b ha hb
      have hlt : i + d + 1 < ks.length := by
        have := (List.getElem?_eq_some_iff.1 hb).1
        omega
      have hc : ks[i + d + 1]? = some ks[i + d + 1] := by simp [hlt]
      have h2 : ltS (ks[i + d + 1]).name b.name = true := by
        have := (hk _ b hb).2
        have e : i + (d + 1) + 1 = (i + d + 1) + 1 := by omega
        rw [e] at hb this
        simpa [ordB, hc, hb] using this
      exact ltS_trans (ih i a _ ha hc) h2
  intro i j a b hij ha hb
  obtain ⟨d, rfl⟩ : ∃ d, j = i + d + 1 := ⟨j - i - 1, by omega⟩
  exact hs d i a b ha hb
theorem fine_to {ks : List KyD} (h : Fine ks) : chkTo ks ks.length = true := by
  refine chkTo_of fun i hi => ?_
  have hi' : ks[i]? = some ks[i] := by simp [hi]
  have h1 := h.key i _ hi'
  simp only [chkAt, hi', Bool.and_eq_true]
  refine ⟨by simp [keyB, h1.1, h1.2], ?_⟩
  cases i with
  | zero => rfl
  | succ i => 
    have ha : ks[i]? = some ks[i] := List.getElem?_eq_getElem (by omega)
    simp only [ordB, ha, hi']
    exact h.up i (i + 1) _ _ (by omega) ha hi'
theorem mayB_iff (o : ObD) : mayB o = true ↔ o.data.length ≤ 64 ∧ o.keys.length ≤ 120 ∧ 0 ≤ o.seq ∧ o.seq ≤ 1099511627776 ∧ Fine o.keys := by
  unfold mayB headB
  simp only [Bool.and_eq_true, decide_eq_true_eq]
  constructor
  · rintro ⟨⟨⟨⟨h1, h2⟩, h3⟩, h4⟩, h5⟩; exact ⟨by omega, by omega, h3, h4, fine_of h5⟩
  · rintro ⟨h1, h2, h3, h4, h5⟩; exact ⟨⟨⟨⟨by omega, by omega⟩, h3⟩, h4⟩, fine_to h5⟩

/-! What is read -/
def getD (ks : List KyD) (nm : ByteArray) : Option (List UInt8) := (ks.find? fun k => decide (k.name = nm)).map (·.value)
def hasK (ks : List KyD) (nm : ByteArray) : Bool := ks.any fun k => decide (k.name = nm)
/-- the key begins as nm does, and is not ahead of it -/
def fromB (nm : ByteArray) (k : KyD) : Bool := !ltS k.name nm && !decide (nm.size = 0) && !decide (k.name.size = 0) && (k.name.data[0]? == nm.data[0]?)
def atD (o : ObD) (nm : ByteArray) : List UInt8 := match o.keys.find? (fromB nm) with
  | some k => k.value
  | none => o.data
def spotB (off n : Int) : Bool := decide (0 ≤ off) && decide (0 ≤ n) && decide (off ≤ 64) && decide (n ≤ 64) && decide (off + n ≤ 64)
/-- n bytes from off on, with noughts behind -/
def padD (d : List UInt8) (off n : Nat) : List UInt8 := (d.drop off).take n ++ List.replicate (n - (d.length - off)) 0
def readD (o : ObD) (off n : Int) : List UInt8 := if spotB off n then padD o.data off.toNat n.toNat else []

/-! What an op does -/
/-- how many keys stand ahead of a name -/
def posK (ks : List KyD) (nm : ByteArray) : Nat := (ks.takeWhile fun k => ltS k.name nm).length
def putK (ks : List KyD) (nm : ByteArray) (v : List UInt8) : List KyD := ks.takeWhile (fun k => ltS k.name nm) ++ ⟨nm, v⟩ :: (ks.dropWhile fun k => ltS k.name nm).filter fun k => !decide (k.name = nm)
def dropK (ks : List KyD) (nm : ByteArray) : List KyD := ks.filter fun k => !decide (k.name = nm)
def writeD (d : List UInt8) (off : Nat) (x : List UInt8) : List UInt8 := (d ++ List.replicate (off + x.length - d.length) 0).take off ++ x ++ d.drop (off + x.length)
def zeroD (d : List UInt8) (off n : Nat) : List UInt8 := d.take off ++ List.replicate (min (off + n) d.length - off) 0 ++ d.drop (off + n)
def keyOp (o : ObD) (nm : ByteArray) (v : List UInt8) : Option ObD := if nameB nm && decide (v.length ≤ 2048) && (hasK o.keys nm || decide (o.keys.length < 120)) then some { o with keys := putK o.keys nm v } else none
def changeB (o : ObD) (op : OpD) : Option ObD :=
  if op.kind = 5 then (if spotB op.off op.data.length then some { o with data := writeD o.data op.off.toNat op.data } else none)
  else if op.kind = 6 then (if spotB op.off op.n then some { o with data := zeroD o.data op.off.toNat op.n.toNat } else none)
  else if op.kind = 7 then (if spotB 0 op.n then some { o with data := o.data.take op.n.toNat } else none)
  else if op.kind = 8 then (if op.data.length ≤ 64 then some { o with data := op.data } else none)
  else if op.kind = 9 then keyOp o op.name op.data
  else if op.kind = 10 then some { o with keys := dropK o.keys op.name }
  else if op.kind = 11 then (if (o.keys.any (fromB op.name)) then some o else keyOp o op.name o.data)
  else if op.kind = 12 then (if 0 ≤ op.n ∧ op.n ≤ 1099511627776 then some { o with seq := op.n } else none)
  else if op.kind = 14 then (if (atD o op.name).length ≤ 64 then some { o with data := atD o op.name } else none)
  else some o
/-- a guard's error (0: none), and whether it goes on -/
def guardB (o : ObD) (th : Bool) (op : OpD) : Int × Bool :=
  if op.kind = 1 then (if th then (0, true) else (90, false))
  else if op.kind = 2 then (if th then (91, false) else (0, true))
  else if op.kind = 3 then (if getD o.keys op.name = some op.data then (0, true) else (92, false))
  else if op.kind = 4 then (0, decide (o.seq < op.n))
  else (0, true)
def thereB (th : Bool) (kind : Int) : Bool := if kind = 5 ∨ kind = 8 ∨ kind = 9 ∨ kind = 11 ∨ kind = 12 then true else if kind = 13 then false else th
structure DoR where
  o : ObD
  there : Bool
  on : Bool
  e : Int
def DoR.no (e : Int) : DoR := ⟨ObD.none, false, false, e⟩
def doB (o : ObD) (th : Bool) (op : OpD) : DoR :=
  if mayB o && decide (1 ≤ op.kind) && decide (op.kind ≤ 14) then
    let o1 := if th then o else ObD.none
    let g := guardB o1 th op
    if g.1 = 0 then
      match changeB o1 op with
      | none => DoR.no 2
      | some o2 => ⟨if thereB th op.kind then o2 else ObD.none, thereB th op.kind, g.2, 0⟩
    else DoR.no g.1
  else DoR.no 1
end Go.Proofs.YtohfckkgmijlnaaGreatDoor
namespace Go.Proofs.YtohfckkgmijlnaaGreatDoor
open Go.RowKit Go.WideShapes

/-- an object as a value -/
def ObV (A : Nat → Prop) (w : World) (v : Value) (o : ObD) : Prop := ∃ dv kv, v = .agg #[dv, kv, .int .i64 o.seq] ∧ RB A w dv o.data ∧ SlE Enc.key A w kv o.keys
theorem ObV.ext {A : Nat → Prop} {w w' : World} {v : Value} {o : ObD} (h : ObV A w v o) (hb : Below w.heap.size w w') : ObV A w' v o := by
  obtain ⟨dv, kv, rfl, hd, hk⟩ := h
  exact ⟨dv, kv, rfl, hd.ext hb, hk.ext hb⟩
theorem chkAt_eq {ks : List KyD} {k : Nat} (hlt : k < ks.length) : chkAt ks k = (keyB ks[k] && ordB ks k) := by simp [chkAt, hlt]
theorem ordB_succ {ks : List KyD} {k : Nat} (hlt : k + 1 < ks.length) : ordB ks (k + 1) = ltS (ks[k]'(by omega)).name ks[k + 1].name := by
  have h0 : ks[k]? = some (ks[k]'(by omega)) := List.getElem?_eq_getElem (by omega)
  have h1 : ks[k + 1]? = some ks[k + 1] := List.getElem?_eq_getElem hlt
  simp [ordB, h0, h1]
theorem head_ways (o : ObD) :
    (headB o = true ∧ (o.data.length : Int) ≤ 64 ∧ (o.keys.length : Int) ≤ 120 ∧ 0 ≤ o.seq ∧ o.seq ≤ 1099511627776) ∨
    (headB o = false ∧ ¬ (o.data.length : Int) ≤ 64) ∨
    (headB o = false ∧ (o.data.length : Int) ≤ 64 ∧ ¬ (o.keys.length : Int) ≤ 120) ∨
    (headB o = false ∧ (o.data.length : Int) ≤ 64 ∧ (o.keys.length : Int) ≤ 120 ∧ ¬ 0 ≤ o.seq) ∨
    (headB o = false ∧ (o.data.length : Int) ≤ 64 ∧ (o.keys.length : Int) ≤ 120 ∧ 0 ≤ o.seq ∧ ¬ o.seq ≤ 1099511627776) := by
  unfold headB
  by_cases h1 : (o.data.length : Int) ≤ 64
  · by_cases h2 : (o.keys.length : Int) ≤ 120
    · by_cases h3 : 0 ≤ o.seq
      · by_cases h4 : o.seq ≤ 1099511627776
        · exact .inl ⟨by simp [h1, h2, h3, h4], h1, h2, h3, h4⟩
        · exact .inr (.inr (.inr (.inr ⟨by simp [h4], h1, h2, h3, h4⟩)))
      · exact .inr (.inr (.inr (.inl ⟨by simp [h3], h1, h2, h3⟩)))
    · exact .inr (.inr (.inl ⟨by simp [h2], h1, h2⟩))
  · exact .inr (.inl ⟨by simp [h1], h1⟩)
def ChkR (c : Bool) (w : World) (e : Ending) (w' : World) : Prop := e = .returned (.int .i64 (if c then 0 else 1)) ∧ Below w.heap.size w w'
/-- the first part's outcome -/
inductive HeadC (d k : Nat) (s : Int) : Bool → Prop
  | yes : (d : Int) ≤ 64 → (k : Int) ≤ 120 → 0 ≤ s → s ≤ 1099511627776 → HeadC d k s true
  | no1 : ¬ (d : Int) ≤ 64 → HeadC d k s false
  | no2 : (d : Int) ≤ 64 → ¬ (k : Int) ≤ 120 → HeadC d k s false
  | no3 : (d : Int) ≤ 64 → (k : Int) ≤ 120 → ¬ 0 ≤ s → HeadC d k s false
  | no4 : (d : Int) ≤ 64 → (k : Int) ≤ 120 → 0 ≤ s → ¬ s ≤ 1099511627776 → HeadC d k s false
theorem headC (o : ObD) : HeadC o.data.length o.keys.length o.seq (headB o) := by
  rcases head_ways o with ⟨h, a, b, c, d⟩ | ⟨h, a⟩ | ⟨h, a, b⟩ | ⟨h, a, b, c⟩ | ⟨h, a, b, c, d⟩ <;> rw [h]
  · exact .yes a b c d
  · exact .no1 a
  · exact .no2 a b
  · exact .no3 a b c
  · exact .no4 a b c d
theorem chk_next {c B x : Bool} {ks : List KyD} {k : Nat} (h : (c && chkTo ks k) = B) (hx : (B && chkAt ks k) = x) : (c && chkTo ks (k + 1)) = x := by
  rw [← hx, ← h, chkTo, Bool.and_assoc]
set_option maxRecDepth 100000 in
set_option maxHeartbeats 16000000 in
theorem check_any' (A : Nat → Prop) (od : List UInt8) (ks : List KyD) (os : Int) (da ka : Option Addr) (dc kc : Nat) (c : Bool) (w : World) (hk : SlE Enc.key A w (.slice ka ks.length kc) ks) (hl : ks.length ≤ 100000) (hc : HeadC od.length ks.length os c) :
    Calls Tryz.prog 35 #[.agg #[.slice da od.length dc, .slice ka ks.length kc, .int .i64 os]] w (ChkR (c && chkTo ks ks.length) w) := by
  have HK := Lib.hid hk
  clear hk
  obtain ⟨c', hc'⟩ : ∃ c', c' = c := ⟨_, rfl⟩
  rw [← hc']
  have HCC := Lib.hid hc'
  clear hc'
  rcases hc with ⟨d1, d2, d3, d4⟩ | ⟨d1⟩ | ⟨d1, d2⟩ | ⟨d1, d2, d3⟩ | ⟨d1, d2, d3, d4⟩
  all_goals
    go_enter Tryz.func35, Tryz.ntmps35
    go_wp2
    obtain ⟨w0, hw0⟩ : ∃ w0, w0 = w.alloc (.cells #[.slice da od.length dc, .slice ka ks.length kc, .int .i64 os] 41) := ⟨_, rfl⟩
    rw [← hw0]
    have hw : Below w.heap.size w w0 := by rw [hw0]; ((repeat' (first | exact Below.refl _ _ | refine below_drewN ?_ _ | refine Below.drew ?_ | refine Below.alloc ?_ ?_ _ | refine Below.trans ?_ (Below.mono (by assumption) ?_))); all_goals (first | exact Nat.le_refl _ | exact Below.size (by assumption) | omega | (simp; done) | (simp; omega)))
    have B0 : w0.heap[w.heap.size]? = some (.cells #[.slice da od.length dc, .slice ka ks.length kc, .int .i64 os] 41 (0, 0)) := by rw [hw0]; exact heap_alloc_new _ _
    have HW := Lib.hid hw
    have HK0 := Lib.hid (HK.out.ext hw)
    have HB0 := Lib.hid B0
    clear hw hw0 B0 HK d1
    go_loopw [3, 29] (fun q3 q29 wr => ∃ k : Nat, k ≤ ks.length ∧ q29 = .int .i64 k ∧ (∃ B, (c' && chkTo ks k) = B ∧ q3 = .bool B) ∧ Below w0.heap.size w0 wr) (fun _ q29 _ => ks.length - (intOf q29).toNat)
    case atStart => exact ⟨0, Nat.zero_le _, rfl, ⟨_, by rw [HCC.out]; rfl, rfl⟩, Below.refl _ _⟩
    case round =>
      obtain ⟨k, hk, rfl, ⟨B, hB, rfl⟩, hbr⟩ := hrel
      have HB := Lib.hid hB
      have HBR := Lib.hid hbr
      have hsr := hbr.size
      have hw0 : w.heap.size < w0.heap.size := (Array.getElem?_eq_some_iff.1 HB0.out).1
      have hwl : w.heap.size < wr.heap.size := by omega
      obtain ⟨x1, f1⟩ := blk_cell (i := 1) ((hbr.block _ hw0).trans HB0.out)
      simp at x1
      clear hB hbr hw0
      by_cases hlt : k < ks.length
      · have HKr := Lib.hid (HK0.out.ext HBR.out)
        obtain ⟨b, off, v, rfl, hb, -, c3, c4, hv⟩ := Keys.at HKr.out hlt
        obtain ⟨va, vc, rfl⟩ := hv.shape
        clear hv
        have HCA : Hid (chkAt ks k = (keyB ks[k] && ordB ks k)) := chkAt_eq hlt
        have hord : Hid (∀ j, k = j + 1 → ∃ pn, ordB ks k = ltS pn (ks[k]).name ∧ wr.cell? ⟨b, off + j * 2, none⟩ = some (.string pn)) := by
          intro j hj
          subst hj
          obtain ⟨b', off', v', e', -, -, c3', -, -⟩ := Keys.at HKr.out (i := j) (by omega)
          simp only [Option.some.injEq, Addr.mk.injEq] at e'
          obtain ⟨rfl, rfl, -⟩ := e'
          exact ⟨_, ordB_succ hlt, c3'⟩
        generalize hky : ks[k] = ky at *
        clear hky
        go_upto_region 5 with fail
        obtain ⟨wk, hwk⟩ : ∃ wk, wk = wr.alloc (.cells #[.string ky.name, .slice va ky.value.length vc] 62) := ⟨_, rfl⟩
        rw [← hwk]
        have K := heap_alloc_new wr (.cells #[.string ky.name, .slice va ky.value.length vc] 62)
        rw [← hwk] at K
        have hbk : Below wr.heap.size wr wk := by rw [hwk]; exact (Below.refl _ _).alloc (Nat.le_refl _) _
        have HBK := Lib.hid (HBR.out.trans (hbk.mono hsr))
        have y0 : ∀ n : After wk, n.w.cell? ⟨wr.heap.size, 0, none⟩ = some (.string ky.name) := after_cell (blk_cell (i := 0) K).1
        have y1 : ∀ n : After wk, n.w.cell? ⟨wr.heap.size, 1, none⟩ = some (.slice va ky.value.length vc) := after_cell (blk_cell (i := 1) K).1
        have y2 : ∀ n : After wk, n.w.cell? ⟨w.heap.size, 1, none⟩ = some (.slice (some ⟨b, off, none⟩) ks.length kc) := after_cell (cellExt hbk x1)
        have hord2 : Hid (∀ j, k = j + 1 → ∃ pn, ordB ks k = ltS pn ky.name ∧ ∀ n : After wk, n.w.cell? ⟨b, off + j * 2, none⟩ = some (.string pn)) := fun j hj => by
          obtain ⟨pn, e1, e2⟩ := hord.out j hj
          exact ⟨pn, e1, after_cell (cellExt hbk e2)⟩
        clear hwk K hbk hord x1 c3 c4
        cases B with
        | false =>
          (refine wp_region_after (by kernel_rfl) (by kernel_rfl) ?_
           repeat (first | go_big_quiet_skip | (go_big_quiet_want; go_big_quiet_op; (first | go_big_quiet_on | (apply Exists.intro; refine ⟨fun _ => ?_, ?_⟩; (focus (fail)); go_big_quiet_on))))
           refine wpQuiet_nil ?_
           intro _ hw'
           obtain ⟨nq, hw''⟩ := hw'
           subst hw''
           have hq := nq.h)
          have HQ := Lib.hid hq
          clear hq
          go_wp2
          go_roundw
          case rel => exact ⟨k + 1, by omega, by go_num, ⟨false, chk_next HB.out (rfl), rfl⟩, HBK.out.trans (HQ.out.mono HBK.out.size)⟩
          case measure => simp [intOf]; omega
        | true =>
          by_cases hn : nameB ky.name = true
          · have HR : Hid (∀ W, Calls Tryz.prog 52 #[.string ky.name] W fun e w' => e = .returned (.bool true) ∧ Below W.heap.size W w') := fun W => by rw [← hn]; exact oright_any _ W
            by_cases hv : (ky.value.length : Int) ≤ 2048
            · have HKB : Hid (keyB ky = true) := by show keyB ky = true; simp only [keyB, hn, Bool.true_and, decide_eq_true_eq]; omega
              clear hn
              rcases Nat.eq_zero_or_pos k with h0 | hp
              · have HO : Hid (ordB ks k = true) := by show ordB ks k = true; rw [h0]; rfl
                have hk0 : ((k : Int) == 0) = true := by simp; omega
                have hk1 : decide (k = 0) = true := by simp; omega
                have hk2 : (k == 0) = true := by simp; omega
                clear h0
                (refine wp_region_after (by kernel_rfl) (by kernel_rfl) ?_
                 repeat (first | go_big_quiet_skip | (go_big_quiet_want; go_big_quiet_op; (first | go_big_quiet_on | (apply Exists.intro; refine ⟨fun _ => ?_, ?_⟩; (focus (go_at_call 52; exact calls_after (HR.out _))); go_big_quiet_on))))
                 refine wpQuiet_nil ?_
                 intro _ hw'
                 obtain ⟨nq, hw''⟩ := hw'
                 subst hw''
                 have hq := nq.h)
                have HQ := Lib.hid hq
                clear hq
                go_wp2
                go_roundw
                case rel => exact ⟨k + 1, by omega, by go_num, ⟨true, chk_next HB.out (by rw [HCA.out, HKB.out, HO.out]; rfl), rfl⟩, HBK.out.trans (HQ.out.mono HBK.out.size)⟩
                case measure => simp [intOf]; omega
              · obtain ⟨j, hj⟩ : ∃ j, k = j + 1 := ⟨k - 1, by omega⟩
                obtain ⟨pn, e1, z0⟩ := hord2.out j hj
                have hk0 : ((k : Int) == 0) = false := by simp; omega
                have hk1 : decide (k = 0) = false := by simp; omega
                have hk2 : (k == 0) = false := by simp; omega
                have hw1 : IntKind.i64.wrap ((k : Int) - 1) = (j : Int) := by rw [IntKind.wrap_i64]; omega
                have hjl : (j : Int) < ks.length := by omega
                cases hlt2 : Op.bytesLess pn.toList ky.name.toList with
                | true =>
                  have HO : Hid (ordB ks k = true) := e1.trans hlt2
                  clear e1 hj hp
                  (refine wp_region_after (by kernel_rfl) (by kernel_rfl) ?_
                   repeat (first | go_big_quiet_skip | (go_big_quiet_want; go_big_quiet_op; (first | go_big_quiet_on | (apply Exists.intro; refine ⟨fun _ => ?_, ?_⟩; (focus (go_at_call 52; exact calls_after (HR.out _))); go_big_quiet_on))))
                   refine wpQuiet_nil ?_
                   intro _ hw'
                   obtain ⟨nq, hw''⟩ := hw'
                   subst hw''
                   have hq := nq.h)
                  have HQ := Lib.hid hq
                  clear hq
                  go_wp2
                  go_roundw
                  case rel => exact ⟨k + 1, by omega, by go_num, ⟨true, chk_next HB.out (by rw [HCA.out, HKB.out, HO.out]; rfl), rfl⟩, HBK.out.trans (HQ.out.mono HBK.out.size)⟩
                  case measure => simp [intOf]; omega
                | false =>
                  have HO : Hid (ordB ks k = false) := e1.trans hlt2
                  clear e1 hj hp
                  (refine wp_region_after (by kernel_rfl) (by kernel_rfl) ?_
                   repeat (first | go_big_quiet_skip | (go_big_quiet_want; go_big_quiet_op; (first | go_big_quiet_on | (apply Exists.intro; refine ⟨fun _ => ?_, ?_⟩; (focus (go_at_call 52; exact calls_after (HR.out _))); go_big_quiet_on))))
                   refine wpQuiet_nil ?_
                   intro _ hw'
                   obtain ⟨nq, hw''⟩ := hw'
                   subst hw''
                   have hq := nq.h)
                  have HQ := Lib.hid hq
                  clear hq
                  go_wp2
                  go_roundw
                  case rel => exact ⟨k + 1, by omega, by go_num, ⟨false, chk_next HB.out (by rw [HCA.out, HKB.out, HO.out]; rfl), rfl⟩, HBK.out.trans (HQ.out.mono HBK.out.size)⟩
                  case measure => simp [intOf]; omega
            · have HKB : Hid (keyB ky = false) := by show keyB ky = false; simp only [keyB, hn, Bool.true_and, decide_eq_false_iff_not]; omega
              clear hn
              (refine wp_region_after (by kernel_rfl) (by kernel_rfl) ?_
               repeat (first | go_big_quiet_skip | (go_big_quiet_want; go_big_quiet_op; (first | go_big_quiet_on | (apply Exists.intro; refine ⟨fun _ => ?_, ?_⟩; (focus (go_at_call 52; exact calls_after (HR.out _))); go_big_quiet_on))))
               refine wpQuiet_nil ?_
               intro _ hw'
               obtain ⟨nq, hw''⟩ := hw'
               subst hw''
               have hq := nq.h)
              have HQ := Lib.hid hq
              clear hq
              go_wp2
              go_roundw
              case rel => exact ⟨k + 1, by omega, by go_num, ⟨false, chk_next HB.out (by rw [HCA.out, HKB.out]; rfl), rfl⟩, HBK.out.trans (HQ.out.mono HBK.out.size)⟩
              case measure => simp [intOf]; omega
          · have hn' : nameB ky.name = false := by simpa using hn
            have HR : Hid (∀ W, Calls Tryz.prog 52 #[.string ky.name] W fun e w' => e = .returned (.bool false) ∧ Below W.heap.size W w') := fun W => by rw [← hn']; exact oright_any _ W
            have HKB : Hid (keyB ky = false) := by show keyB ky = false; simp [keyB, hn']
            clear hn hn'
            (refine wp_region_after (by kernel_rfl) (by kernel_rfl) ?_
             repeat (first | go_big_quiet_skip | (go_big_quiet_want; go_big_quiet_op; (first | go_big_quiet_on | (apply Exists.intro; refine ⟨fun _ => ?_, ?_⟩; (focus (go_at_call 52; exact calls_after (HR.out _))); go_big_quiet_on))))
             refine wpQuiet_nil ?_
             intro _ hw'
             obtain ⟨nq, hw''⟩ := hw'
             subst hw''
             have hq := nq.h)
            have HQ := Lib.hid hq
            clear hq
            go_wp2
            go_roundw
            case rel => exact ⟨k + 1, by omega, by go_num, ⟨false, chk_next HB.out (by rw [HCA.out, HKB.out]; rfl), rfl⟩, HBK.out.trans (HQ.out.mono HBK.out.size)⟩
            case measure => simp [intOf]; omega
      · obtain rfl : k = ks.length := by omega
        cases B with
        | false =>
          go_wp2
          go_ret
          exact ⟨by rw [HB.out]; rfl, HW.out.trans (HBR.out.mono HW.out.size)⟩
        | true =>
          go_wp2
          go_ret
          exact ⟨by rw [HB.out]; rfl, HW.out.trans (HBR.out.mono HW.out.size)⟩
theorem check_any (A : Nat → Prop) (v : Value) (o : ObD) (w : World) (hv : ObV A w v o) (hl : o.keys.length ≤ 100000) :
    Calls Tryz.prog 35 #[v] w (ChkR (mayB o) w) := by
  obtain ⟨dv, kv, rfl, hd, hk⟩ := hv
  obtain ⟨da, dc, rfl⟩ := hd.shape
  obtain ⟨ka, kc, rfl⟩ := hk.shape
  exact check_any' A o.data o.keys o.seq da ka dc kc _ w hk hl (headC o)
end Go.Proofs.YtohfckkgmijlnaaGreatDoor
