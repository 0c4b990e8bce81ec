/- Maps' bytes, plainly. No program is named. The reference's way to take a map of bytes is the code's. No program is named. Heads, plainly. No program is named. How heads lie in memory. No program is named. Heads that a law is handed. The walk of terrazzoref05.Get. The walks of terrazzoref05.Row, May, Set, Fresh, Merge. -/
import Derived.Test.YtlekdfajcpmolaaGreatDoorGAD
import Derived.Test.YtlekdfajcpmolaaGreatDoorGAE
import Derived.Test.YtlekdfajcpmolaaGreatDoorGAC
namespace Go.Proofs.YtlekdfajcpmolaaGreatDoor

def dig4 (c t : Nat) : Nat := c / 4 ^ t % 4
def mCell (r : List Int) (q : Nat) : Nat := (r.getD (4 * q) 0).toNat + 4 * (r.getD (4 * q + 1) 0).toNat + 16 * (r.getD (4 * q + 2) 0).toNat + 64 * (r.getD (4 * q + 3) 0).toNat
def mPackR (r : List Int) : List UInt8 := UInt8.ofNat (r.length / 256) :: UInt8.ofNat (r.length % 256) :: (List.range ((r.length + 3) / 4)).map fun q => UInt8.ofNat (mCell r q)
def mPack (m : List Int) : List UInt8 := mPackR (mRow m)
def mVals (b : List UInt8) (n : Nat) : List Int := (List.range n).map fun i => ((dig4 (b.getD (2 + i / 4) 0).toNat (i % 4) : Nat) : Int)
def mNum (b : List UInt8) : Nat := 256 * (b.getD 0 0).toNat + (b.getD 1 0).toNat
/-- a map of bytes -/
def mUn (b : List UInt8) : Option (List Int) :=
  if b.length < 2 ∨ 512 < mNum b ∨ b.length ≠ 2 + (mNum b + 3) / 4 then none
  else if ((mVals b ((mNum b + 3) / 4 * 4)).drop (mNum b)).any (fun s => decide (s ≠ 0)) || !mMay (mVals b (mNum b)) then none else some (mVals b (mNum b))
theorem mVals_len (b : List UInt8) (n : Nat) : (mVals b n).length = n := by simp [mVals]
theorem mVals_getD (b : List UInt8) (n i : Nat) : (mVals b n).getD i 0 = if i < n then ((dig4 (b.getD (2 + i / 4) 0).toNat (i % 4) : Nat) : Int) else 0 := by
  by_cases h : i < n
  · rw [if_pos h]
    unfold mVals
    rw [List.getD_eq_getElem?_getD, List.getElem?_map, List.getElem?_range h]
    rfl
  · rw [if_neg h, getD_out _ _ (by rw [mVals_len]; omega)]
theorem dig_of (a b c d : Nat) (ha : a < 4) (hb : b < 4) (hc : c < 4) (hd : d < 4) : dig4 (a + 4 * b + 16 * c + 64 * d) 0 = a ∧ dig4 (a + 4 * b + 16 * c + 64 * d) 1 = b ∧ dig4 (a + 4 * b + 16 * c + 64 * d) 2 = c ∧ dig4 (a + 4 * b + 16 * c + 64 * d) 3 = d := by
  unfold dig4
  simp only [Nat.pow_zero, Nat.div_one, Nat.pow_one, show 4 ^ 2 = 16 from rfl, show 4 ^ 3 = 64 from rfl]
  omega
theorem may_getD {r : List Int} (h : ∀ s ∈ r, 0 ≤ s ∧ s ≤ 2) (i : Nat) : 0 ≤ r.getD i 0 ∧ r.getD i 0 ≤ 2 := by
  by_cases hi : i < r.length
  · rw [List.getD_eq_getElem?_getD, List.getElem?_eq_getElem hi]
    exact h _ (List.getElem_mem hi)
  · rw [getD_out _ _ (by omega)]
    omega
theorem mPackR_len (r : List Int) : (mPackR r).length = 2 + (r.length + 3) / 4 := by simp [mPackR]; omega
theorem mPackR_at (r : List Int) (q : Nat) (h : q < (r.length + 3) / 4) : (mPackR r).getD (2 + q) 0 = UInt8.ofNat (mCell r q) := by
  rw [show 2 + q = q + 1 + 1 by omega]
  unfold mPackR
  rw [List.getD_cons_succ, List.getD_cons_succ, List.getD_eq_getElem?_getD, List.getElem?_map, List.getElem?_range h]
  rfl
theorem cell_lt {r : List Int} (h : ∀ s ∈ r, 0 ≤ s ∧ s ≤ 2) (q : Nat) : mCell r q < 256 := by
  have h0 := may_getD h (4 * q)
  have h1 := may_getD h (4 * q + 1)
  have h2 := may_getD h (4 * q + 2)
  have h3 := may_getD h (4 * q + 3)
  unfold mCell
  omega
theorem cell_dig {r : List Int} (h : ∀ s ∈ r, 0 ≤ s ∧ s ≤ 2) (i : Nat) : ((dig4 (mCell r (i / 4)) (i % 4) : Nat) : Int) = r.getD i 0 := by
  have h0 := may_getD h (4 * (i / 4))
  have h1 := may_getD h (4 * (i / 4) + 1)
  have h2 := may_getD h (4 * (i / 4) + 2)
  have h3 := may_getD h (4 * (i / 4) + 3)
  obtain ⟨e0, e1, e2, e3⟩ := dig_of (r.getD (4 * (i / 4)) 0).toNat (r.getD (4 * (i / 4) + 1) 0).toNat (r.getD (4 * (i / 4) + 2) 0).toNat (r.getD (4 * (i / 4) + 3) 0).toNat (by omega) (by omega) (by omega) (by omega)
  have hm : i % 4 = 0 ∨ i % 4 = 1 ∨ i % 4 = 2 ∨ i % 4 = 3 := by omega
  unfold mCell
  rcases hm with h4 | h4 | h4 | h4
  · rw [h4, e0, show i = 4 * (i / 4) by omega]
    simp only [show 4 * (4 * (i / 4) / 4) = 4 * (i / 4) by omega]
    omega
  · rw [h4, e1]
    have : 4 * (i / 4) + 1 = i := by omega
    rw [this] at h1 ⊢
    omega
  · rw [h4, e2]
    have : 4 * (i / 4) + 2 = i := by omega
    rw [this] at h2 ⊢
    omega
  · rw [h4, e3]
    have : 4 * (i / 4) + 3 = i := by omega
    rw [this] at h3 ⊢
    omega
end Go.Proofs.YtlekdfajcpmolaaGreatDoor
namespace Go.Proofs.YtlekdfajcpmolaaGreatDoor

theorem u8_back (n : Nat) (h : n < 256) : (UInt8.ofNat n).toNat = n := by
  rw [UInt8.toNat_ofNat']
  exact Nat.mod_eq_of_lt h
theorem drop_zero {b : List UInt8} {n N : Nat} (h : ((mVals b N).drop n).any (fun s => decide (s ≠ 0)) = false) {i : Nat} (h1 : n ≤ i) (h2 : i < N) : dig4 (b.getD (2 + i / 4) 0).toNat (i % 4) = 0 := by
  have hv := mVals_getD b N i
  rw [if_pos h2] at hv
  have hm : (mVals b N).getD i 0 ∈ (mVals b N).drop n := by
    have hl : i < (mVals b N).length := by rw [mVals_len]; exact h2
    rw [List.getD_eq_getElem?_getD, List.getElem?_eq_getElem hl, Option.getD_some, List.mem_iff_getElem?]
    exact ⟨i - n, by rw [List.getElem?_drop, show n + (i - n) = i by omega, List.getElem?_eq_getElem hl]⟩
  have := List.any_eq_false.1 h _ hm
  simp only [ne_eq, decide_not, Bool.not_eq_true', Bool.not_eq_false, decide_eq_true_eq] at this
  omega
end Go.Proofs.YtlekdfajcpmolaaGreatDoor
namespace Go.Proofs.YtlekdfajcpmolaaGreatDoor

structure SnD where
  id : Int
  size : Int
  map : List Int
structure HeD where
  u : Int
  c : Int
  o : Int
  size : Int
  map : List Int
  snaps : List SnD
  last : Int
  seq : Int
def HeD.none : HeD := ⟨0, 0, 0, 0, [], [], 0, 0⟩
section
variable (okL : Int → Int → Int → Bool) (objs : Int → Int → Int → Int → Int)
/-- may a size and a map be, by a layout? (okL: stripe.Check; objs: stripe.Objects) -/
def sizedH (u c o size : Int) (m : List Int) : Bool := decide (0 ≤ size) && decide (size ≤ 512) && mMay m && decide ((m.length : Int) ≤ objs u c o size)
def snapsH (u c o last : Int) : Int → List SnD → Bool
  | _, [] => true
  | ahead, s :: l => decide (ahead < s.id) && decide (s.id ≤ last) && sizedH objs u c o s.size s.map && snapsH u c o last s.id l
def mayH (h : HeD) : Bool := okL h.u h.c h.o && sizedH objs h.u h.c h.o h.size h.map && decide (h.snaps.length ≤ 4) && decide (0 ≤ h.last ∧ h.last ≤ 100) && decide (0 ≤ h.seq ∧ h.seq ≤ 1099511627776) && snapsH objs h.u h.c h.o h.last 0 h.snaps
end
def blobB (l : List UInt8) : List UInt8 := be 2 l.length ++ l
def snapB (s : SnD) : List UInt8 := be 1 s.id.toNat ++ be 2 s.size.toNat ++ blobB (mPack s.map)
/-- the bytes of a head that may be -/
def headB' (h : HeD) : List UInt8 := be 1 h.u.toNat ++ be 1 h.c.toNat ++ be 1 h.o.toNat ++ be 1 h.last.toNat ++ be 2 h.size.toNat ++ be 6 h.seq.toNat ++ blobB (mPack h.map) ++ be 1 h.snaps.length ++ h.snaps.flatMap snapB
/-- where a snapshot stands (the number of snapshots: nowhere) -/
def findH (l : List SnD) (id : Int) : Nat := l.findIdx fun s => decide (s.id = id)
def newestH (h : HeD) : Int := match h.snaps.getLast? with
  | some s => s.id
  | none => 0
/-- a head with one snapshot more -/
def snapH (h : HeD) : HeD := { h with last := h.last + 1, snaps := h.snaps ++ [⟨h.last + 1, h.size, h.map⟩], map := mFresh h.map }
/-- a head without the snapshot at k -/
def dropH (h : HeD) (k : Nat) : HeD :=
  let gone := (h.snaps.getD k ⟨0, 0, []⟩).map
  let l := h.snaps.eraseIdx k
  if k < l.length then { h with snaps := l.set k { l.getD k ⟨0, 0, []⟩ with map := mMerge gone (l.getD k ⟨0, 0, []⟩).map } } else { h with snaps := l, map := mMerge gone h.map }
end Go.Proofs.YtlekdfajcpmolaaGreatDoor
namespace Go.Proofs.YtlekdfajcpmolaaGreatDoor
open Go.RowKit

theorem SlE.oneI {A : Nat → Prop} {w : World} {v : Value} {l : List Int} (h : IntsA A w v l) : v.oneCell' = true := by
  obtain ⟨a, c, rfl⟩ := h.shape
  rfl
def Enc.snap : Enc SnD where
  size := 3
  rd := fun A w cs x => ∃ v, cs = [.int .i64 x.id, .int .i64 x.size, v] ∧ IntsA A w v x.map
  len := fun ⟨v, h, _⟩ => by rw [h]; rfl
  one := fun ⟨v, h, hv⟩ u hu => by
    rw [h] at hu
    simp at hu
    rcases hu with rfl | rfl | rfl
    all_goals first | rfl | exact SlE.oneI hv
  mono := fun ⟨v, h, hv⟩ hs => ⟨v, h, hv.mono hs⟩
  weak := fun ⟨v, h, hv⟩ hs => ⟨v, h, hv.weak hs⟩
abbrev SnapsA (A : Nat → Prop) (w : World) (v : Value) (l : List SnD) : Prop := SlE Enc.snap A w v l
theorem Snaps.at {A : Nat → Prop} {w : World} {a : Option Addr} {n c : Nat} {l : List SnD} (h : SnapsA A w (.slice a n c) l) {i : Nat} (hi : i < l.length) :
    ∃ b off v, a = some ⟨b, off, none⟩ ∧ b < w.heap.size ∧ A b ∧ w.cell? ⟨b, off + i * 3, none⟩ = some (.int .i64 l[i].id) ∧ w.cell? ⟨b, off + i * 3 + 1, none⟩ = some (.int .i64 l[i].size) ∧ w.cell? ⟨b, off + i * 3 + 2, none⟩ = some v ∧ IntsA A w v l[i].map := by
  obtain ⟨b, off, cap, cs, e, hb, hA, ⟨v, rfl, hv⟩, hc⟩ := h.at (i := i) (x := l[i]) (by simp [hi])
  simp only [Value.slice.injEq] at e
  obtain ⟨rfl, _, _⟩ := e
  exact ⟨b, off, v, rfl, hb, hA, hc 0 (by decide), hc 1 (by decide), hc 2 (by decide), hv⟩
/-- a head as a value -/
def hdV (h : HeD) (mv sv : Value) : Value := .agg #[.int .i64 h.u, .int .i64 h.c, .int .i64 h.o, .int .i64 h.size, mv, sv, .int .i64 h.last, .int .i64 h.seq]
def hdC (h : HeD) (mv sv : Value) : List Value := [.int .i64 h.u, .int .i64 h.c, .int .i64 h.o, .int .i64 h.size, mv, sv, .int .i64 h.last, .int .i64 h.seq]
def HeV (A : Nat → Prop) (w : World) (v : Value) (h : HeD) : Prop := ∃ mv sv, v = hdV h mv sv ∧ IntsA A w mv h.map ∧ SnapsA A w sv h.snaps
/-- few snapshots, short maps -/
structure HeD.okl (h : HeD) : Prop where
  mk ::
  map : h.map.length ≤ 100000
  snaps : h.snaps.length ≤ 100000
  maps : ∀ s ∈ h.snaps, s.map.length ≤ 100000
theorem HeV.ext {A : Nat → Prop} {w w' : World} {v : Value} {h : HeD} (hv : HeV A w v h) (hb : Below w.heap.size w w') : HeV A w' v h := by
  obtain ⟨m, s, e, h1, h2⟩ := hv
  exact ⟨m, s, e, SlE.ext h1 hb, SlE.ext h2 hb⟩
theorem HeV.weak {A A' : Nat → Prop} {w : World} {v : Value} {h : HeD} (hv : HeV A w v h) (hA : ∀ b, b < w.heap.size → A b → A' b) : HeV A' w v h := by
  obtain ⟨m, s, e, h1, h2⟩ := hv
  exact ⟨m, s, e, SlE.weak h1 hA, SlE.weak h2 hA⟩
theorem HeV.mono {A : Nat → Prop} {w w' : World} {v : Value} {h : HeD} (hv : HeV A w v h) (hs : Same A w w') : HeV A w' v h := by
  obtain ⟨m, s, e, h1, h2⟩ := hv
  exact ⟨m, s, e, SlE.mono h1 hs, SlE.mono h2 hs⟩
theorem HeV.none (A : Nat → Prop) (w : World) : HeV A w (hdV HeD.none (.slice none 0 0) (.slice none 0 0)) HeD.none := ⟨_, _, rfl, SlE.nil _ _ _, SlE.nil _ _ _⟩
end Go.Proofs.YtlekdfajcpmolaaGreatDoor
namespace Go.Proofs.YtlekdfajcpmolaaGreatDoor
open Go.ChangeShapes Go.WideShapes Go.ChangeAt Go.RowKit Go.Deep Go.Joins

instance SnD.some : Inhabited SnD := ⟨⟨0, 0, []⟩⟩
theorem opn_ints : Opn 24 (Enc.slice (Enc.int .i64)) := opn_slice Tryz.underlying24 (by kernel_rfl) (by decide) opn_i
set_option maxRecDepth 100000 in
theorem opn_snap : Opn 102 Enc.snap := by
  refine ⟨by kernel_rfl, fun H enc w n cs y h => ?_⟩
  obtain ⟨xs, m, _, rfl, hl, hlen, hf⟩ := DataW.trod_struct Tryz.underlying102 h
  obtain ⟨c0, c1, c2, rfl⟩ := list3' (hl.trans (show Tryz.prog.cellsOf 102 = 3 by kernel_rfl))
  obtain ⟨y0, y1, y2, rfl⟩ := list3' (l := xs) hlen
  obtain ⟨x0, e0⟩ := opn_cut (y := y0) opn_i (k := 0) rfl (hf 0 _ rfl)
  obtain ⟨x1, e1⟩ := opn_cut (y := y1) opn_i (k := 1) rfl (hf 1 _ rfl)
  obtain ⟨x2, v, e2, r2⟩ := opn_cut (y := y2) opn_ints (k := 2) rfl (hf 2 _ rfl)
  simp [Enc.int, Enc.slice] at e0 e1 e2
  subst e0 e1 e2
  exact ⟨⟨x0, x1, x2⟩, _, rfl, r2⟩
theorem opn_snaps : Opn 25 (Enc.slice Enc.snap) := opn_slice Tryz.underlying25 (by kernel_rfl) (by decide) opn_snap
def Enc.ly : Enc (Int × Int × Int) where
  size := 3
  rd := fun _ _ cs x => cs = [.int .i64 x.1, .int .i64 x.2.1, .int .i64 x.2.2]
  len := fun h => by rw [h]; rfl
  one := fun h u hu => by rw [h] at hu; simp at hu; rcases hu with rfl | rfl | rfl <;> rfl
  mono := fun h _ => h
  weak := fun h _ => h
set_option maxRecDepth 100000 in
theorem opn_ly : Opn 23 Enc.ly := by
  refine ⟨by kernel_rfl, fun H enc w n cs y h => ?_⟩
  obtain ⟨xs, m, _, rfl, hl, hlen, hf⟩ := DataW.trod_struct Tryz.underlying23 h
  obtain ⟨c0, c1, c2, rfl⟩ := list3' (hl.trans (show Tryz.prog.cellsOf 23 = 3 by kernel_rfl))
  obtain ⟨y0, y1, y2, rfl⟩ := list3' (l := xs) hlen
  obtain ⟨x0, e0⟩ := opn_cut (y := y0) opn_i (k := 0) rfl (hf 0 _ rfl)
  obtain ⟨x1, e1⟩ := opn_cut (y := y1) opn_i (k := 1) rfl (hf 1 _ rfl)
  obtain ⟨x2, e2⟩ := opn_cut (y := y2) opn_i (k := 2) rfl (hf 2 _ rfl)
  simp [Enc.int] at e0 e1 e2
  subst e0 e1 e2
  exact ⟨⟨x0, x1, x2⟩, rfl⟩
theorem list6' {α : Type} {l : List α} (h : l.length = 6) : ∃ a b c d e f, l = [a, b, c, d, e, f] := by
  match l, h with
  | [a, b, c, d, e, f], _ => exact ⟨a, b, c, d, e, f, rfl⟩
section
variable {H : Type} {enc : TypeId × Value → H} {W : World} {base : Nat} {v : Value} {d : DataW H} {p : List MemPlace}
set_option maxRecDepth 100000 in
theorem open_hd (hv : Value.okWide Tryz.prog W .any base 27 v) (h : DataW.Trod enc Tryz.prog W 0 (fun _ => true) true 27 v d p) : ∃ q, HeV (Hp W) W v q := by
  obtain ⟨cs, rfl, _⟩ := okWide_struct Tryz.underlying27 hv
  obtain ⟨fuel, hf⟩ := h
  obtain ⟨xs, m, _, _, hl, hlen, hf⟩ := DataW.trod_struct Tryz.underlying27 hf
  obtain ⟨c0, c1, c2, c3, c4, c5, c6, c7, hcs⟩ := list8' (hl.trans (show Tryz.prog.cellsOf 27 = 8 by kernel_rfl))
  obtain ⟨y0, y1, y2, y3, y4, y5, rfl⟩ := list6' (l := xs) hlen
  obtain ⟨x0, e0⟩ := opn_cut (y := y0) opn_ly (k := 0) rfl (hf 0 _ rfl)
  obtain ⟨x1, e1⟩ := opn_cut (y := y1) opn_i (k := 3) rfl (hf 1 _ rfl)
  obtain ⟨x2, v2, e2, r2⟩ := opn_cut (y := y2) opn_ints (k := 4) rfl (hf 2 _ rfl)
  obtain ⟨x3, v3, e3, r3⟩ := opn_cut (y := y3) opn_snaps (k := 5) rfl (hf 3 _ rfl)
  obtain ⟨x4, e4⟩ := opn_cut (y := y4) opn_i (k := 6) rfl (hf 4 _ rfl)
  obtain ⟨x5, e5⟩ := opn_cut (y := y5) opn_i (k := 7) rfl (hf 5 _ rfl)
  rw [hcs] at e0 e1 e2 e3 e4 e5
  simp [Enc.int, Enc.slice, Enc.ly] at e0 e1 e2 e3 e4 e5
  obtain ⟨e0, e6, e7⟩ := e0
  subst e0 e1 e2 e3 e4 e5 e6 e7
  refine ⟨⟨x0.1, x0.2.1, x0.2.2, x1, x2, x3, x4, x5⟩, _, _, ?_, r2, r3⟩
  rw [agg_of_list (cs := cs) (l := [.int .i64 x0.1, .int .i64 x0.2.1, .int .i64 x0.2.2, .int .i64 x1, c4, c5, .int .i64 x4, .int .i64 x5]) (by simpa [Value.cells] using hcs)]
  rfl
end
end Go.Proofs.YtlekdfajcpmolaaGreatDoor
namespace Go.Proofs.YtlekdfajcpmolaaGreatDoor
open Go.RowKit Go.WideShapes

set_option maxRecDepth 100000 in
theorem rmget_any (A : Nat → Prop) (a : Option Addr) (c : Nat) (m : List Int) (i : Int) (w : World) (hv : SlE (Enc.int .i64) A w (.slice a m.length c) m) : Calls Tryz.prog 119 #[.slice a m.length c, .int .i64 i] w fun e w' => e = .returned (.int .i64 (mGet m i)) ∧ w = w' := by
  have HV := Lib.hid hv
  clear hv
  by_cases h0 : i < 0
  · have HX : Hid (mGet m i = 0) := Lib.hid (by unfold mGet; rw [if_neg (by omega)])
    go_enter Tryz.func119, Tryz.ntmps119
    go_wp2
    all_goals
      go_ret
      exact ⟨by rw [HX.out]; rfl, rfl⟩
  · have h0' : 0 ≤ i := by omega
    by_cases h1 : min (m.length : Int) 512 ≤ i
    · have HX : Hid (mGet m i = 0) := Lib.hid (by
        obtain ⟨k, rfl⟩ : ∃ k : Nat, i = k := ⟨i.toNat, by omega⟩
        exact mGet_out m k (by omega))
      clear h0
      go_enter Tryz.func119, Tryz.ntmps119
      go_wp2
      all_goals
        go_ret
        exact ⟨by rw [HX.out]; rfl, rfl⟩
    · obtain ⟨k, rfl⟩ : ∃ k : Nat, i = k := ⟨i.toNat, by omega⟩
      have hk : k < m.length := by omega
      obtain ⟨b, off, rfl, hb, -, hc⟩ := Ints.at HV.out hk
      have hkl : (k : Int) < m.length := by omega
      have HX : Hid (mGet m (k : Nat) = if 0 ≤ m.getD k 0 ∧ m.getD k 0 ≤ 2 then m.getD k 0 else 0) := Lib.hid (by
        unfold mGet
        rw [if_pos (by omega)]
        simp only [Int.toNat_natCast, List.getElem?_eq_getElem hk, List.getD_eq_getElem?_getD, Option.getD_some])
      obtain ⟨x, hx⟩ : ∃ x, x = m.getD k 0 := ⟨_, rfl⟩
      rw [← hx] at hc HX
      clear hx h0
      by_cases hr : 0 ≤ x ∧ x ≤ 2
      · rw [if_pos hr] at HX
        obtain ⟨hr1, hr2⟩ := hr
        go_enter Tryz.func119, Tryz.ntmps119
        go_wp2
        all_goals
          go_ret
          exact ⟨by rw [HX.out]; rfl, rfl⟩
      · rw [if_neg hr] at HX
        have hr3 : x < 0 ∨ (0 ≤ x ∧ 2 < x) := by omega
        clear hr
        rcases hr3 with hr3 | ⟨hr3, hr4⟩
        all_goals
          go_enter Tryz.func119, Tryz.ntmps119
          go_wp2
          all_goals
            go_ret
            exact ⟨by rw [HX.out]; rfl, rfl⟩
end Go.Proofs.YtlekdfajcpmolaaGreatDoor
namespace Go.Proofs.YtlekdfajcpmolaaGreatDoor
open Go.RowKit Go.WideShapes

theorem take_all (m : List Int) (k : Nat) (h : k < min m.length 512) : (mAll m).take (k + 1) = (mAll m).take k ++ [mGet m (k : Nat)] := by
  have e := mAll_get m k h
  obtain ⟨h1, h2⟩ := List.getElem?_eq_some_iff.1 e
  rw [List.take_succ_eq_append_getElem h1, h2]
theorem topN_succ (m : List Int) (k : Nat) : topN (mAll m) (k + 1) = if mGet m (k : Nat) = 0 then topN (mAll m) k else k + 1 := by
  rw [← mAll_getD]
  rfl
set_option maxRecDepth 100000 in
set_option maxHeartbeats 1600000 in
theorem rrow_any (A : Nat → Prop) (a : Option Addr) (c : Nat) (m : List Int) (w : World) (hv : IntsA A w (.slice a m.length c) m) (hl : m.length ≤ 1000000) : Calls Tryz.prog 127 #[.slice a m.length c] w (NewOI w (mRow m)) := by
  obtain ⟨i0, hi, hz0, hz1, hz2⟩ := info_parts infoI19
  have HV := Lib.hid hv
  clear hv
  go_enter Tryz.func127, Tryz.ntmps127
  go_wp2
  go_loop [3, 4] (fun n i => ∃ k : Nat, k ≤ min m.length 512 ∧ i = .int .i64 k ∧ n = .int .i64 (topN (mAll m) k : Nat)) (fun _ i => 512 - (intOf i).toNat)
  case atStart => exact ⟨0, Nat.zero_le _, rfl, rfl⟩
  case round =>
    obtain ⟨k, hk, rfl, rfl⟩ := hrel
    by_cases hlt : k < min m.length 512
    · have hk1 : (k : Int) < m.length := by omega
      have hk2 : (k : Int) < 512 := by omega
      have HS := Lib.hid (topN_succ m k)
      obtain ⟨x, hx⟩ : ∃ x, mGet m (k : Nat) = x := ⟨_, rfl⟩
      have HX := Lib.hid hx
      rw [hx] at HS
      clear hx
      cases hz : (x != 0)
      · have HS2 : Hid (topN (mAll m) (k + 1) = topN (mAll m) k) := Lib.hid (by rw [HS.out, if_pos (by simpa using hz)])
        go_wp2_with fail
        refine (rmget_any A a c m k _ HV.out).mono ?_
        rintro e w1 ⟨rfl, rfl⟩
        rw [HX.out]
        go_wp2
        go_round
        case rel => exact ⟨k + 1, by omega, by go_num, by rw [HS2.out]⟩
        case measure => simp [intOf]; omega
      · have HS2 : Hid (topN (mAll m) (k + 1) = k + 1) := Lib.hid (by rw [HS.out, if_neg (by simpa using hz)])
        go_wp2_with fail
        refine (rmget_any A a c m k _ HV.out).mono ?_
        rintro e w1 ⟨rfl, rfl⟩
        rw [HX.out]
        go_wp2
        go_round
        case rel => exact ⟨k + 1, by omega, by go_num, by rw [HS2.out]; go_num⟩
        case measure => simp [intOf]; omega
    · have HN : Hid (topN (mAll m) k = topN (mAll m) (mAll m).length) := Lib.hid (by rw [mAll_len]; congr 1; omega)
      have hN : topN (mAll m) k ≤ min m.length 512 := by have := topN_le (mAll m) k; omega
      have HR : Hid (mRow m = (mAll m).take (topN (mAll m) k)) := Lib.hid (by rw [HN.out]; rfl)
      generalize topN (mAll m) k = N at *
      have hge : (m.length : Int) ≤ k ∨ ((k : Int) < m.length ∧ (512 : Int) ≤ k) := by omega
      clear hlt
      rcases hge with hge | ⟨hge, hge2⟩
      all_goals
        go_wp2
        go_loopw [5, 6] (fun q i wr => ∃ k2 : Nat, k2 ≤ N ∧ i = .int .i64 k2 ∧ OI w.heap.size wr q ((mAll m).take k2) ∧ Below w.heap.size w wr) (fun _ i _ => N - (intOf i).toNat)
        case atStart => exact ⟨0, Nat.zero_le _, rfl, by simpa using OI.nil _ _, Below.refl _ _⟩
        case round =>
          obtain ⟨k2, hk2, rfl, ho, hb⟩ := hrel
          have HO := Lib.hid ho
          have HB := Lib.hid hb
          have hs := hb.size
          clear ho hb
          by_cases h2 : k2 < N
          · have HT := Lib.hid (take_all m k2 (by omega))
            have hln : ((mAll m).take k2).length ≤ 1000 := by rw [List.length_take, mAll_len]; omega
            have HLN := Lib.hid hln
            clear hln
            go_wp2_with fail
            refine (rmget_any A a c m k2 _ (HV.out.ext HB.out)).mono ?_
            rintro e w1 ⟨rfl, rfl⟩
            go_wp2_with (first | (at_builtin; refine wpList_pushI _ rfl _ _ rfl w.heap.size _ ((mAll m).take k2) rfl HO.out _ _ (mGet m (k2 : Nat)) rfl rfl (by have := HLN.out; omega) hs ?_; intro v2 w2 ho2 hb2) | go_in)
            have HO2 := Lib.hid ho2
            have HB2 := Lib.hid hb2
            clear ho2 hb2
            go_wp2
            go_roundw
            case rel => exact ⟨k2 + 1, by omega, by go_num, by rw [HT.out]; exact HO2.out, HB.out.trans HB2.out⟩
            case measure => simp [intOf]; omega
          · obtain rfl : k2 = N := by omega
            go_wp2
            go_ret
            exact ⟨_, rfl, by rw [HR.out]; exact HO.out, HB.out⟩
/-! May -/
theorem mMay_no {m : List Int} {k : Nat} (hk : k < m.length) (h : m.getD k 0 < 0 ∨ 2 < m.getD k 0) : mMay m = false := by
  cases hm : mMay m with
  | false => rfl
  | true =>
    have := (may_parts hm).1 (m.getD k 0) (by rw [List.getD_eq_getElem?_getD, List.getElem?_eq_getElem hk]; exact List.getElem_mem hk)
    omega
theorem mMay_is {m : List Int} (h : ∀ k : Nat, k < m.length → 0 ≤ m.getD k 0 ∧ m.getD k 0 ≤ 2) : mMay m = (decide (m.length ≤ 512) && (decide (m.length = 0) || decide (m.getD (m.length - 1) 0 ≠ 0))) := by
  have e : (m.all fun s => decide (0 ≤ s ∧ s ≤ 2)) = true := by
    rw [List.all_eq_true]
    intro s hs
    obtain ⟨k, hk, rfl⟩ := List.getElem_of_mem hs
    have := h k hk
    rw [List.getD_eq_getElem?_getD, List.getElem?_eq_getElem hk] at this
    simpa using this
  unfold mMay
  rw [e, Bool.true_and]
  congr 2
  cases m <;> simp
set_option maxRecDepth 100000 in
set_option maxHeartbeats 1600000 in
theorem rmapMay_any (A : Nat → Prop) (a : Option Addr) (c : Nat) (m : List Int) (w : World) (hv : IntsA A w (.slice a m.length c) m) (hl : m.length ≤ 1000000) : Calls Tryz.prog 123 #[.slice a m.length c] w (fun e w' => e = .returned (.bool (mMay m)) ∧ w = w') := by
  have HV := Lib.hid hv
  clear hv
  go_enter Tryz.func123, Tryz.ntmps123
  go_wp2
  go_loop [3] (fun i => ∃ k : Nat, k ≤ m.length ∧ i = .int .i64 k ∧ (∀ j, j < k → 0 ≤ m.getD j 0 ∧ m.getD j 0 ≤ 2)) (fun i => m.length - (intOf i).toNat)
  case atStart => exact ⟨0, Nat.zero_le _, rfl, fun j hj => by omega⟩
  case round =>
    obtain ⟨k, hk, rfl, hall⟩ := hrel
    have HA := Lib.hid hall
    clear hall
    by_cases hlt : k < m.length
    · obtain ⟨b, off, rfl, hbl, -, hc⟩ := Ints.at HV.out hlt
      have HN := fun h => Lib.hid (mMay_no (m := m) hlt h)
      obtain ⟨x, hx⟩ : ∃ x, m.getD k 0 = x := ⟨_, rfl⟩
      have HX := Lib.hid hx
      rw [hx] at hc HN
      clear hx
      have hki : (k : Int) < m.length := by omega
      by_cases h0 : x < 0
      · have HM := HN (.inl h0)
        clear HN
        go_wp2
        all_goals
          go_ret
          exact ⟨by rw [HM.out]; rfl, rfl⟩
      · by_cases h2 : 2 < x
        · have HM := HN (.inr h2)
          have h0' : 0 ≤ x := by omega
          clear HN
          go_wp2
          all_goals
            go_ret
            exact ⟨by rw [HM.out]; rfl, rfl⟩
        · have h0' : 0 ≤ x := by omega
          have h2' : x ≤ 2 := by omega
          clear HN
          go_wp2
          all_goals
            go_round
            case rel => exact ⟨k + 1, by omega, by go_num, fun j hj => by
              rcases Nat.lt_or_ge j k with g | g
              · exact HA.out j g
              · obtain rfl : j = k := by omega
                rw [HX.out]
                omega⟩
            case measure => simp [intOf]; omega
    · obtain rfl : k = m.length := by omega
      have HM := Lib.hid (mMay_is (m := m) HA.out)
      by_cases h5 : m.length ≤ 512
      · have h5i : (m.length : Int) ≤ 512 := by omega
        by_cases h0 : m.length = 0
        · have HR : Hid (mMay m = true) := Lib.hid (by rw [HM.out]; simp [h0])
          have h0b : ((m.length : Int) == 0) = true := by simp [h0]
          clear h0 hlt
          go_wp2
          go_ret
          exact ⟨by rw [HR.out]; rfl, rfl⟩
        · have h0b : ((m.length : Int) == 0) = false := beq_eq_false_iff_ne.2 (by omega)
          obtain ⟨b, off, rfl, hbl, -, hc⟩ := Ints.at HV.out (i := m.length - 1) (by omega)
          have hw1 : IntKind.i64.wrap ((m.length : Int) - 1) = ((m.length - 1 : Nat) : Int) := by rw [IntKind.wrap_i64]; omega
          have hw2 : (m.length : Int) - 1 = ((m.length - 1 : Nat) : Int) := by omega
          obtain ⟨x, hx⟩ : ∃ x, m.getD (m.length - 1) 0 = x := ⟨_, rfl⟩
          have HR : Hid (mMay m = (x != 0)) := Lib.hid (by
            rw [HM.out, hx]
            by_cases e : x = 0
            · simp [e, h0]
            · simp [e, h5])
          rw [hx] at hc
          clear hx h0 hlt
          have hj1 : ((m.length - 1 : Nat) : Int) < m.length := by omega
          generalize m.length - 1 = j at *
          go_wp2
          go_ret
          exact ⟨by rw [HR.out]; rfl, rfl⟩
      · have h5i : (512 : Int) < m.length := by omega
        have HR : Hid (mMay m = false) := Lib.hid (by rw [HM.out]; simp; omega)
        clear hlt
        go_wp2
        go_ret
        exact ⟨by rw [HR.out]; rfl, rfl⟩
end Go.Proofs.YtlekdfajcpmolaaGreatDoor
