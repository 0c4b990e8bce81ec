/- The walks of object.Get, object.from, object.At: the first key that meets something. The walks of object.from, object.At, object.spot, object.Read. Rows of bytes: their cells; rows made by make; what a copy leaves. The walk of object.Read. The walk of object.Clone: what it hands back is the call's own, part by part. -/
import Derived.Test.YtfeonfihlleoeaaDoorGAC
import Derived.Laws.CopyRow
import Derived.Test.YtfeonfihlleoeaaDoorGAB
import Derived.Laws.CopyOwn
import Derived.Laws.MakeOwn
import Derived.OwnWalk
import Derived.Deep.DrawnRows
import Derived.Laws.OwnMore
namespace Go.Proofs.YtfeonfihlleoeaaDoor
open Go.RowKit Go.WideShapes

theorem eqL (a b : ByteArray) : (a.toList == b.toList) = decide (a = b) := by
  rw [Bool.eq_iff_iff, beq_iff_eq, decide_eq_true_eq]
  exact ⟨ba_ext, fun e => by rw [e]⟩
theorem get1_any (kn nm : ByteArray) (va : Value) (p : Addr) (w : World) (hp : w.cell? p = some (.string nm)) (_h1 : va.oneCell' = true) :
    Calls Tryd.prog 66 #[.agg #[.string kn, va], .pointer (some p)] w fun e w' => e = .returned (.bool (decide (kn = nm))) ∧ Below w.heap.size w w' := by
  have hlt := World.block_lt_of_cell? w p hp
  have hp2 : (w.alloc (.cells #[.string kn, va] 51)).cell? p = some (.string nm) := cellExt ((Below.refl _ w).alloc (Nat.le_refl _) _) hp
  clear hp
  go_enter Tryd.func66, Tryd.ntmps66
  go_wp2
  go_ret
  exact ⟨ret_bool (eqL kn nm), by ((repeat' (first | exact Below.refl _ _ | refine below_drewN ?_ _ | refine Below.drew ?_ | refine Below.alloc ?_ ?_ _ | refine Below.trans ?_ (Below.mono (by assumption) ?_))); all_goals (first | exact Nat.le_refl _ | exact Below.size (by assumption) | omega | (simp; done) | (simp; omega)))⟩
theorem e0 (s : ByteArray) : s.size = 0 ↔ s.toList = [] := by
  rw [Lib.toList_data, ← List.length_eq_zero_iff]
  exact Iff.rfl
theorem b0_at {s : ByteArray} (h : 0 < s.size) : s.data[0]? = some s[0] := Array.getElem?_eq_getElem (xs := s.data) h
theorem fromB_of {nm : ByteArray} {k : KyD} : fromB nm k = (!ltS k.name nm && !decide (nm.size = 0) && !decide (k.name.size = 0) && (k.name.data[0]? == nm.data[0]?)) := rfl
/-! The first place at which something is so -/
def ixN (p : KyD → Bool) (ks : List KyD) : Nat := (ks.takeWhile fun k => !p k).length
def ixR (p : KyD → Bool) (ks : List KyD) : Int := if ixN p ks < ks.length then (ixN p ks : Int) else -1
theorem tw_get {α : Type} (q : α → Bool) : ∀ (l : List α) (i : Nat) x, i < (l.takeWhile q).length → l[i]? = some x → q x = true
  | [], i, x, h, _ => by simp at h
  | y :: l, i, x, h, hx => by
    rw [List.takeWhile_cons] at h
    by_cases hy : q y = true
    · rw [if_pos hy] at h
      cases i with
      | zero => simp at hx; subst hx; exact hy
      | succ i => exact tw_get q l i x (by simpa using h) (by simpa using hx)
    · rw [if_neg hy] at h
      simp at h
theorem tw_stop {α : Type} (q : α → Bool) : ∀ (l : List α) x, l[(l.takeWhile q).length]? = some x → q x = false
  | [], x, h => by simp at h
  | y :: l, x, h => by
    rw [List.takeWhile_cons] at h
    by_cases hy : q y = true
    · rw [if_pos hy] at h
      exact tw_stop q l x (by simpa using h)
    · rw [if_neg hy] at h
      simp at h
      subst h
      simpa using hy
theorem tw_le {α : Type} (q : α → Bool) (l : List α) : (l.takeWhile q).length ≤ l.length := (List.takeWhile_sublist q).length_le
theorem ixN_hit {p : KyD → Bool} {ks : List KyD} {k : Nat} (h : k ≤ ixN p ks) (hlt : k < ks.length) (hx : p ks[k] = true) : ixN p ks = k := by
  rcases Nat.lt_or_ge k (ixN p ks) with h1 | h1
  · have := tw_get _ ks k ks[k] h1 (by simp [hlt])
    simp [hx] at this
  · omega
theorem ixR_hit {p : KyD → Bool} {ks : List KyD} {k : Nat} (h : k ≤ ixN p ks) (hlt : k < ks.length) (hx : p ks[k] = true) : ixR p ks = k := by
  unfold ixR
  rw [ixN_hit h hlt hx, if_pos hlt]
theorem ixN_miss {p : KyD → Bool} {ks : List KyD} {k : Nat} (h : k ≤ ixN p ks) (hlt : k < ks.length) (hx : p ks[k] = false) : k + 1 ≤ ixN p ks := by
  rcases Nat.lt_or_ge k (ixN p ks) with h1 | h1
  · exact h1
  · obtain rfl : k = ixN p ks := by omega
    have := tw_stop (fun k => !p k) ks _ (List.getElem?_eq_getElem hlt)
    have hx : p ks[ixN p ks] = false := hx
    change (!p ks[ixN p ks]) = false at this
    rw [hx] at this
    cases this
theorem ixR_none {p : KyD → Bool} {ks : List KyD} (h : ks.length ≤ ixN p ks) : ixR p ks = -1 := by
  unfold ixR
  rw [if_neg (by omega)]
theorem ix_ways (p : KyD → Bool) (ks : List KyD) : (ixR p ks = -1 ∧ ks.find? p = none) ∨ ∃ k, ∃ h : k < ks.length, ixR p ks = k ∧ ks.find? p = some ks[k] := by
  rcases Nat.lt_or_ge (ixN p ks) ks.length with h | h
  · right
    have h2 := tw_stop (fun k => !p k) ks _ (List.getElem?_eq_getElem h)
    refine ⟨ixN p ks, h, by unfold ixR; rw [if_pos h], ?_⟩
    rw [List.find?_eq_some_iff_getElem]
    refine ⟨by simpa using h2, _, h, rfl, fun j hj => ?_⟩
    exact tw_get (fun k => !p k) ks j _ hj (List.getElem?_eq_getElem (by omega))
  · left
    refine ⟨ixR_none h, List.find?_eq_none.2 fun x hx => ?_⟩
    obtain ⟨i, hi, rfl⟩ := List.getElem_of_mem hx
    have := tw_get (fun k => !p k) ks i _ (Nat.lt_of_lt_of_le hi h) (List.getElem?_eq_getElem hi)
    simpa using this
def IdxR (p : KyD → Bool) (ks : List KyD) (w : World) (e : Ending) (w' : World) : Prop := e = .returned (.int .i64 (ixR p ks)) ∧ Below w.heap.size w w'
def isB (nm : ByteArray) (k : KyD) : Bool := decide (k.name = nm)
set_option maxHeartbeats 1600000 in
theorem idxG_any (A : Nat → Prop) (ks : List KyD) (a : Option Addr) (c : Nat) (nm : ByteArray) (pp : Addr) (w : World) (hk : SlE Enc.key A w (.slice a ks.length c) ks) (hp : w.cell? pp = some (.string nm)) (hl : ks.length ≤ 100000) :
    Calls Tryd.prog 65 #[.slice a ks.length c, .func (.func 66) #[] #[.pointer (some pp)]] w (IdxR (isB nm) ks w) := by
  have HK := Lib.hid hk
  have HP := Lib.hid hp
  clear hk hp
  go_enter Tryd.func65, Tryd.ntmps65
  go_wp2
  go_loopw [8] (fun q wr => ∃ k : Nat, k ≤ ks.length ∧ q = .int .i64 k ∧ k ≤ ixN (isB nm) ks ∧ Below w.heap.size w wr) (fun q _ => ks.length - (intOf q).toNat)
  case atStart => exact ⟨0, Nat.zero_le _, rfl, Nat.zero_le _, Below.refl _ _⟩
  case round =>
    obtain ⟨k, hk, rfl, hix, hbr⟩ := hrel
    have HIX := Lib.hid hix
    have HBR := Lib.hid hbr
    clear hix hbr
    by_cases hlt : k < ks.length
    · obtain ⟨b, off, v, rfl, hb, -, c3, c4, hv⟩ := Keys.at (HK.out.ext HBR.out) hlt
      have hv1 := hv.one
      have HC : Hid (∀ W, Below w.heap.size w W → Calls Tryd.prog 66 #[.agg #[.string (ks[k]).name, v], .pointer (some pp)] W fun e w' => e = .returned (.bool ((isB nm) ks[k])) ∧ Below W.heap.size W w') := fun W hW => get1_any _ _ _ _ _ (cellExt hW HP.out) hv1
      have HV1 := Lib.hid hv1
      clear hv hv1
      by_cases hx : ((isB nm) ks[k]) = true
      · have HR : Hid (ixR (isB nm) ks = k) := ixR_hit HIX.out hlt hx
        rw [hx] at HC
        clear hx
        go_wp2_with fail
        refine (HC.out _ HBR.out).mono ?_
        rintro e w2 ⟨rfl, hb2⟩
        have HB2 := Lib.hid hb2
        clear hb2
        go_wp2
        go_ret
        exact ⟨ret_int HR.out.symm, HBR.out.trans (HB2.out.mono HBR.out.size)⟩
      · have hx' : ((isB nm) ks[k]) = false := by simpa using hx
        have HR : Hid (k + 1 ≤ ixN (isB nm) ks) := ixN_miss HIX.out hlt hx'
        rw [hx'] at HC
        clear hx hx'
        go_wp2_with fail
        refine (HC.out _ HBR.out).mono ?_
        rintro e w2 ⟨rfl, hb2⟩
        have HB2 := Lib.hid hb2
        clear hb2
        go_wp2
        go_roundw
        case rel => exact ⟨k + 1, by omega, by go_num, HR.out, HBR.out.trans (HB2.out.mono HBR.out.size)⟩
        case measure => simp [intOf]; omega
    · obtain rfl : k = ks.length := by omega
      have HR : Hid (ixR (isB nm) ks = -1) := ixR_none HIX.out
      go_wp2
      go_ret
      exact ⟨ret_int HR.out.symm, HBR.out⟩
/-- what a call that hands back new bytes, and whether there are any, leaves -/
structure ObD.okl (o : ObD) : Prop where
  data : o.data.length ≤ 1000000
  keys : o.keys.length ≤ 10000
  vals : ∀ k ∈ o.keys, k.value.length ≤ 1000000
def OptB (w : World) (x : Option (List UInt8)) (e : Ending) (w' : World) : Prop := ∃ v : Value, e = .returned (.tuple #[v, .bool x.isSome]) ∧ OB w.heap.size w' v (x.getD []) ∧ Below w.heap.size w w'
theorem blk_two {w : World} {o1 o2 : Obj} : ((w.alloc o1).alloc o2).heap[w.heap.size]? = some o1 := (Below.heap_alloc _ _ _ (by simp)).trans (heap_alloc_new _ _)
set_option maxRecDepth 100000 in
set_option maxHeartbeats 1600000 in
theorem get_any (A : Nat → Prop) (v : Value) (o : ObD) (nm : ByteArray) (w : World) (hv : ObV A w v o) (hl : o.okl) :
    Calls Tryd.prog 43 #[v, .string nm] w (OptB w (getD o.keys nm)) := by
  obtain ⟨dv, kv, rfl, hd, hk⟩ := hv
  obtain ⟨da, dc, rfl⟩ := hd.shape
  obtain ⟨ka, kc, rfl⟩ := hk.shape
  obtain ⟨od, ks, os⟩ := o
  simp only at *
  have HK := Lib.hid hk
  have HL := Lib.hid hl
  have hl2 := hl.keys
  simp only at hl2
  clear hk hd hl
  go_enter Tryd.func43, Tryd.ntmps43
  go_wp2_with fail
  obtain ⟨w0, hw0⟩ : ∃ w0, w0 = (w.alloc (.cells #[.slice da od.length dc, .slice ka ks.length kc, .int .i64 os] 39)).alloc (.cells #[.string nm] 9) := ⟨_, rfl⟩
  rw [← hw0]
  have hw : Below w.heap.size w w0 := by rw [hw0]; ((repeat' (first | exact Below.refl _ _ | refine below_drewN ?_ _ | refine Below.drew ?_ | refine Below.alloc ?_ ?_ _ | refine Below.trans ?_ (Below.mono (by assumption) ?_))); all_goals (first | exact Nat.le_refl _ | exact Below.size (by assumption) | omega | (simp; done) | (simp; omega)))
  have B0 : w0.heap[w.heap.size]? = some (.cells #[.slice da od.length dc, .slice ka ks.length kc, .int .i64 os] 39 (0, 0)) := by rw [hw0]; exact blk_two
  have B1 : w0.cell? ⟨w.heap.size + 1, 0, none⟩ = some (.string nm) := by rw [hw0]; simp
  have HW := Lib.hid hw
  refine (idxG_any A ks ka kc nm _ w0 (HK.out.ext hw) B1 (by omega)).mono ?_
  rintro e w1 ⟨rfl, hb1⟩
  have h0 : w.heap.size < w0.heap.size := (Array.getElem?_eq_some_iff.1 B0).1
  obtain ⟨x1, f1⟩ := blk_cell (i := 1) ((hb1.block _ h0).trans B0)
  simp at x1
  have hl1 : w.heap.size < w1.heap.size := by have := hb1.size; omega
  have HB1 := Lib.hid (hw.trans (hb1.mono hw.size))
  clear hb1 hw hw0 B0 B1 h0
  rcases ix_ways (isB nm) ks with ⟨e1, e2⟩ | ⟨k, hlt, e1, e2⟩
  · have HG : Hid (getD ks nm = none) := by show (ks.find? (isB nm)).map _ = none; rw [e2]; rfl
    rw [e1]
    clear e1 e2
    go_wp2
    go_ret2
    show OptB w (getD ks nm) _ _
    rw [HG.out]
    exact ⟨_, rfl, OB.nil _ _, HB1.out⟩
  · have HG : Hid (getD ks nm = some (ks[k]).value) := by show (ks.find? (isB nm)).map _ = _; rw [e2]; rfl
    obtain ⟨b, off, u, rfl, hb, -, c3, c4, hu⟩ := Keys.at (HK.out.ext HB1.out) hlt
    obtain ⟨ua, uc, rfl⟩ := hu.shape
    have HU := Lib.hid hu
    have hvl : (ks[k]).value.length ≤ 1000000 := HL.out.vals _ (List.getElem_mem hlt)
    rw [e1]
    clear e1 e2 hu
    generalize ks[k] = ky at *
    go_wp2_with fail
    refine (bclone_any A _ ky.value _ hvl HU.out).mono ?_
    rintro e w2 ⟨v2, rfl, h2, hb2⟩
    have H2 := Lib.hid h2
    have HB2 := Lib.hid hb2
    clear h2 hb2
    go_wp2
    go_ret2
    show OptB w (getD ks nm) _ _
    rw [HG.out]
    exact ⟨v2, rfl, H2.out.base_le HB1.out.size, HB1.out.trans (HB2.out.mono HB1.out.size)⟩
end Go.Proofs.YtfeonfihlleoeaaDoor
namespace Go.Proofs.YtfeonfihlleoeaaDoor
open Go.RowKit Go.WideShapes

end Go.Proofs.YtfeonfihlleoeaaDoor
namespace Go.Proofs.YtfeonfihlleoeaaDoor
open Go.RowKit

/-- where the bytes of a row that has some lie -/
theorem RB.lie {A : Nat → Prop} {w : World} {a : Option Addr} {c : Nat} {l : List UInt8} (h : RB A w (.slice a l.length c) l) (h0 : 0 < l.length) :
    ∃ b off, a = some ⟨b, off, none⟩ ∧ b < w.heap.size ∧ A b ∧ l.length ≤ c ∧ ∀ k, k < l.length → w.cell? ⟨b, off + k, none⟩ = (l.map bv)[k]? := by
  obtain ⟨b, off, rfl, h1, h2, h3, h4⟩ := SlA.at h h0
  exact ⟨b, off, rfl, h1, h2, h3, fun k hk => h4 k (by omega)⟩
theorem RB.capl {A : Nat → Prop} {w : World} {a : Option Addr} {c : Nat} {l : List UInt8} (h : RB A w (.slice a l.length c) l) : l.length ≤ c := by
  rcases h.2 with ⟨⟨a', e⟩, h0⟩ | ⟨b, off, cap, e, hb, hA, hc, _⟩
  · simp only [Value.slice.injEq] at e; omega
  · simp only [Value.slice.injEq] at e; omega
theorem mk_bytes (n : Nat) (hn : n ≤ 1000000) (W : World) : (Instr.makeSlice 22 (.int .i64 (n : Int)) (.int .i64 (n : Int))).run Tryd.prog W = .ok (.slice (some ⟨W.heap.size, 0, none⟩) n n) (W.alloc (.cells (List.replicate n (Value.int .u8 0)).toArray 5)) := by
  obtain ⟨i0, hi, hz0, hz1, hz2⟩ := info_parts infoByte
  have h := run_make (P := Tryd.prog) W 22 5 i0 (.int .u8 0) Tryd.underlying22 hi hz0 .i64 .i64 n n (by omega) (by omega) (by rw [hz2]; omega) (by omega)
  have e : madeCells (Value.int .u8 0).cells n = (List.replicate n (Value.int .u8 0)).toArray := by
    apply Array.ext
    · simp [madeCells]
    · intro i h1 h2
      simp [madeCells, Value.cells, Nat.mod_one]
  rw [h, hz1]
  simp only [Int.toNat_natCast, Nat.mul_one]
  rw [e]
theorem splice0 (n : Nat) (z : Value) (cs : List Value) : splice (List.replicate n z) 0 cs = cs ++ List.replicate (n - cs.length) z := by
  unfold splice
  rw [List.take_zero, List.nil_append, Nat.zero_add, List.drop_replicate]
/-- a block that holds n bytes and no more is a row of the call's own -/
theorem OB.of_blk {base g n c : Nat} {w : World} {l : List UInt8} {t : List Value} (h : w.heap[g]? = some (.cells (l.map bv ++ t).toArray 5 (0, 0))) (hb : base ≤ g) (hn : l.length = n) (hc : n + t.length = c) (hm : c ≤ 1000000) : OB base w (.slice (some ⟨g, 0, none⟩) n c) l := by
  subst hn
  refine ⟨by simp, .inr ⟨g, c, _, rfl, hb, h, by omega, by unfold maxLen; omega, by simp; omega, by simp⟩⟩
end Go.Proofs.YtfeonfihlleoeaaDoor
namespace Go.Proofs.YtfeonfihlleoeaaDoor
open Go.RowKit Go.WideShapes

theorem pad_map (d : List UInt8) (f m : Nat) (h : m ≤ 64) : ((d.drop f).take m).map bv ++ List.replicate (m - (((d.drop f).take m).map bv).length) (Value.int .u8 0) = (padD d f m).map bv := by
  unfold padD
  rw [List.map_append, List.map_replicate]
  congr 2
  simp
  omega
theorem spot_nat {off n : Int} (h : spotB off n = true) : ∃ f m : Nat, off = f ∧ n = m ∧ f + m ≤ 64 := by
  simp only [spotB, Bool.and_eq_true, decide_eq_true_eq] at h
  exact ⟨off.toNat, n.toNat, by omega, by omega, by omega⟩
end Go.Proofs.YtfeonfihlleoeaaDoor
namespace Go.Proofs.YtfeonfihlleoeaaDoor
open Go.RowKit Go.WideShapes

theorem owns_keep {w w' : World} {base size n : Nat} {e : TypeId} {v : Value} {xs : List Value} (h : w.ownsRow base e size v n xs) (hb : ∀ g, v.ownBlock = some g → w'.heap[g]? = w.heap[g]?) : w'.ownsRow base e size v n xs := by
  refine ⟨h.1, h.2.imp id ?_⟩
  rintro ⟨g, cap, cur, rfl, h1, h2, h3⟩
  exact ⟨g, cap, cur, rfl, h1, by rw [hb g rfl]; exact h2, h3⟩
theorem OB.keep {w w' : World} {base : Nat} {v : Value} {l : List UInt8} (h : OB base w v l) (hb : ∀ g, v.ownBlock = some g → w'.heap[g]? = w.heap[g]?) : OB base w' v l := owns_keep h hb
/-- a block of bytes that may be written -/
def U8 (w : World) (b : Nat) : Prop := ∃ cs, w.heap[b]? = some (.cells cs 5 (0, 0))
theorem U8.of_eq {w w' : World} {b : Nat} (h : U8 w b) (e : w'.heap[b]? = w.heap[b]?) : U8 w' b := by
  obtain ⟨cs, h⟩ := h
  exact ⟨cs, e.trans h⟩
theorem OB.rbU {base : Nat} {w : World} {v : Value} {l : List UInt8} (h : OB base w v l) : RB (fun b => base ≤ b ∧ U8 w b) w v l := by
  have h' := h
  refine ⟨h.1, h.2.imp (fun ⟨h1, h2⟩ => ⟨⟨_, h1⟩, h2⟩) ?_⟩
  rintro ⟨g, cap, cur, rfl, hb, hg, hn, -⟩
  refine ⟨g, 0, cap, rfl, (Array.getElem?_eq_some_iff.1 hg).1, ⟨hb, cur, hg⟩, hn, fun j hj => ?_⟩
  have := World.ownsRow.cellAt h' j hj
  simpa using this
/-- cells whose blocks stand as they stood -/
theorem CI.sameU {α : Type} {F : Fb α} {X Y : Nat → Nat → Prop} {w w' : World} {cs : List (List Value)} {l : List α} (h : CI F X w cs l) (hs : ∀ i b, X i b → b < w.heap.size → w'.heap[b]? = w.heap[b]?) (hsz : w.heap.size ≤ w'.heap.size)
    (hY : ∀ i b, i < l.length → b < w.heap.size → X i b → w'.heap[b]? = w.heap[b]? → Y i b) : CI F Y w' cs l :=
  ((h.weak (Y := fun i b => X i b ∧ b < w.heap.size) fun _i _b _ hb h => ⟨h, hb⟩).same fun i => ⟨hsz, fun b h hb => hs i b h.1 hb⟩).weak fun i b hi _ h => hY i b hi h.2 h.1 (hs i b h.1 h.2)
/-- an object of the call's own: its data, its keys' row, its keys' values lie in blocks from base on, each apart from the others -/
structure Own8 (base : Nat) (w : World) (dv kv : Value) (o : ObD) : Prop where
  mk ::
  data : OB base w dv o.data
  ex : ∃ cs, w.ownsRow base 51 2 kv o.keys.length cs.flatten ∧ CI Fb.key (fun _ b => base ≤ b ∧ kv.ownBlock ≠ some b ∧ dv.ownBlock ≠ some b ∧ U8 w b) w cs o.keys
/-- where the parts of a call's own object stand as they stood -/
theorem Own8.keep {base : Nat} {w w' : World} {dv kv : Value} {o : ObD} (h : Own8 base w dv kv o) (hs : Same (fun b => base ≤ b) w w') : Own8 base w' dv kv o := by
  obtain ⟨hd, cs, hk, hc⟩ := h
  exact ⟨hd.keep fun g hg => hs.block g (hd.lt g hg).1 (hd.lt g hg).2, cs, owns_keep hk fun g hg => hs.block g (hk.lt g hg).1 (hk.lt g hg).2, hc.sameU (fun i b h hb => hs.block b h.1 hb) hs.size fun i b _ _ h e => ⟨h.1, h.2.1, h.2.2.1, h.2.2.2.of_eq e⟩⟩
theorem Own8.obv {base : Nat} {w : World} {dv kv : Value} {o : ObD} (h : Own8 base w dv kv o) : ObV (fun b => base ≤ b) w (.agg #[dv, kv, .int .i64 o.seq]) o := by
  obtain ⟨hd, cs, hk, hc⟩ := h
  exact ⟨_, _, rfl, hd.rb, hc.whole (fun i b _ _ hb => hb.1) (SlA.of_owns hk)⟩
theorem CI.nil {α : Type} (F : Fb α) (X : Nat → Nat → Prop) (w : World) : CI F X w [] [] := ⟨rfl, fun i x c hx => by simp at hx⟩
theorem Own8.none (base : Nat) (w : World) : Own8 base w (.slice none 0 0) (.slice none 0 0) ObD.none := ⟨OB.nil _ _, [], World.ownsRow_nil _ _ _ _, CI.nil _ _ _⟩
/-- what a call that hands back an object of the call's own leaves -/
def NewO (w : World) (o : ObD) (e : Ending) (w' : World) : Prop := ∃ dv kv, e = .returned (.agg #[dv, kv, .int .i64 o.seq]) ∧ Own8 w.heap.size w' dv kv o ∧ Below w.heap.size w w'
attribute [local go_sem ↓] Go.wp_at_zero Go.wp_at_succ
/-- the blocks of the element i, in the round k -/
def mixA (A : Nat → Prop) (b0 lo g : Nat) (k : Nat) : Nat → Nat → Prop := fun i b => if i < k then lo ≤ b ∧ b ≠ g else A b ∧ b < b0
theorem mixA_ne {A : Nat → Prop} {b0 lo g k : Nat} (h : b0 ≤ g) : ∀ i, ¬ mixA A b0 lo g k i g := by
  intro i hi
  unfold mixA at hi
  split at hi
  · exact hi.2 rfl
  · omega
theorem mixA_step {A : Nat → Prop} {b0 lo g k : Nat} : ∀ j, j ≠ k → ∀ b, mixA A b0 lo g k j b → mixA A b0 lo g (k + 1) j b := by
  intro j hj b h
  unfold mixA at h ⊢
  split at h
  · rw [if_pos (by omega)]; exact h
  · rw [if_neg (by omega)]; exact h
theorem mixA_old {A : Nat → Prop} {b0 lo g k : Nat} : ∀ b, mixA A b0 lo g k k b → A b ∧ b < b0 := by
  intro b h
  unfold mixA at h
  rw [if_neg (by omega)] at h
  exact h
/-- a round of the cloning of a row in place -/
theorem clone_step {α : Type} {F : Fb α} {A : Nat → Prop} {b0 lo g cap n k : Nat} {e : TypeId} {wr w3 : World} {cs : List (List Value)} {l : List α} {v3 : Value}
    (hown : wr.ownsRow lo e F.E.size (.slice (some ⟨g, 0, none⟩) n cap) n cs.flatten) (hc : CI F (mixA A b0 lo g k) wr cs l) (hk : k < l.length) (hlo : b0 ≤ lo)
    (hb : Below wr.heap.size wr w3) (hv : OB wr.heap.size w3 v3 (F.bytes l[k])) :
    ∃ cs', (w3.setCell ⟨g, k * F.E.size + (F.E.size - 1), none⟩ v3).ownsRow lo e F.E.size (.slice (some ⟨g, 0, none⟩) n cap) n cs'.flatten ∧
      CI F (mixA A b0 lo g (k + 1)) (w3.setCell ⟨g, k * F.E.size + (F.E.size - 1), none⟩ v3) cs' l := by
  obtain ⟨hg1, hg2⟩ := hown.lt g rfl
  have h1 := owns_set (owns_ext hown hb) (k * F.E.size + (F.E.size - 1)) v3
  have h2 : CI F (mixA A b0 lo g k) (w3.setCell ⟨g, k * F.E.size + (F.E.size - 1), none⟩ v3) cs l :=
    (hc.same fun i => Same.of_ext hb).same fun i => Same.setCell (a := ⟨g, k * F.E.size + (F.E.size - 1), none⟩) (Same.refl _ _) (mixA_ne (Nat.le_trans hlo hg1) i) _
  obtain ⟨cs', e1, h3⟩ := h2.put (Y := mixA A b0 lo g (k + 1)) hk (v := v3) (by
    refine ((hv.rb).mono (Same.setCell (A := fun b => wr.heap.size ≤ b) (a := ⟨g, k * F.E.size + (F.E.size - 1), none⟩) (Same.refl _ _) (fun h => ?_) _)).weak fun b hb' h => ?_
    · have h : wr.heap.size ≤ g := h
      omega
    · unfold mixA
      rw [if_pos (by omega)]
      omega) (fun j hj _ => mixA_step j hj)
  exact ⟨cs', by rw [e1]; exact h1, h3⟩
/-- a row cloned in place, whole -/
theorem clone_end {α : Type} {F : Fb α} {A : Nat → Prop} {b0 lo g cap : Nat} {e : TypeId} {wr : World} {cs : List (List Value)} {l : List α} 
    (hown : wr.ownsRow lo e F.E.size (.slice (some ⟨g, 0, none⟩) l.length cap) l.length cs.flatten) (hc : CI F (mixA A b0 lo g l.length) wr cs l) :
    SlE F.E (fun b => lo ≤ b) wr (.slice (some ⟨g, 0, none⟩) l.length cap) l := by
  refine hc.whole (fun i b hi _ h => ?_) (SlA.of_owns hown)
  unfold mixA at h
  rw [if_pos hi] at h
  exact h.1
theorem clone_start {α : Type} {F : Fb α} {A : Nat → Prop} {b0 lo g : Nat} {w w' : World} {cs : List (List Value)} {l : List α} (hc : CI F (fun _ => A) w cs l) (hb : Below b0 w w') (h0 : w.heap.size ≤ b0 ∨ b0 = w.heap.size) :
    CI F (mixA A w.heap.size lo g 0) w' cs l := by
  refine (hc.weak (Y := mixA A w.heap.size lo g 0) fun i b _ hb' h => ?_).same fun i => ⟨hb.size, fun b h hl => hb.block b (by omega)⟩
  unfold mixA
  rw [if_neg (by omega)]
  exact ⟨h, hb'⟩
theorem set_blk3 {w : World} {p j : Nat} {t : TypeId} {cs : Array Value} {v : Value} (h : w.heap[p]? = some (.cells cs t (0, 0))) : (w.setCell ⟨p, j, none⟩ v).heap[p]? = some (.cells (cs.setIfInBounds j v) t (0, 0)) := by
  simp [World.setCell, Array.getElem?_modify, h]
theorem set3_blk {w : World} {p : Nat} {t : TypeId} {a b c x y z : Value} (h : w.heap[p]? = some (.cells #[a, b, c] t (0, 0))) :
    (((w.setCell ⟨p, 0, none⟩ x).setCell ⟨p, 1, none⟩ y).setCell ⟨p, 2, none⟩ z).heap[p]? = some (.cells #[x, y, z] t (0, 0)) := by
  have := set_blk3 (j := 2) (v := z) (set_blk3 (j := 1) (v := y) (set_blk3 (j := 0) (v := x) h))
  simpa using this
theorem set3_ne (w : World) (p : Nat) (x y z : Value) {g : Nat} (h : g ≠ p) : (((w.setCell ⟨p, 0, none⟩ x).setCell ⟨p, 1, none⟩ y).setCell ⟨p, 2, none⟩ z).heap[g]? = w.heap[g]? :=
  (Below.heap_setCell _ ⟨p, 2, none⟩ _ _ h).trans ((Below.heap_setCell _ ⟨p, 1, none⟩ _ _ h).trans (Below.heap_setCell _ ⟨p, 0, none⟩ _ _ h))
theorem owns_base {w : World} {base base' size n : Nat} {e : TypeId} {v : Value} {xs : List Value} (h : w.ownsRow base e size v n xs) (hb : base' ≤ base) : w.ownsRow base' e size v n xs := by
  refine ⟨h.1, h.2.imp id ?_⟩
  rintro ⟨g, cap, cur, h0, h1, h2⟩
  exact ⟨g, cap, cur, h0, Nat.le_trans hb h1, h2⟩
/-- the same, of blocks that may be written -/
def mixU (A : Nat → Prop) (b0 lo g : Nat) (w : World) (k : Nat) : Nat → Nat → Prop := fun i b => if i < k then lo ≤ b ∧ b ≠ g ∧ U8 w b else A b ∧ b < b0
theorem mixU_start {A : Nat → Prop} {b0 lo g : Nat} {w : World} : ∀ i b, mixA A b0 lo g 0 i b → mixU A b0 lo g w 0 i b := by
  intro i b h
  unfold mixA at h
  unfold mixU
  simpa using h
theorem clone_stepU {α : Type} {F : Fb α} {A : Nat → Prop} {b0 lo g cap n k : Nat} {e : TypeId} {wr w3 : World} {cs : List (List Value)} {l : List α} {v3 : Value}
    (hown : wr.ownsRow lo e F.E.size (.slice (some ⟨g, 0, none⟩) n cap) n cs.flatten) (hc : CI F (mixU A b0 lo g wr k) wr cs l) (hk : k < l.length) (hlo : b0 ≤ lo)
    (hb : Below wr.heap.size wr w3) (hv : OB wr.heap.size w3 v3 (F.bytes l[k])) :
    ∃ cs', (w3.setCell ⟨g, k * F.E.size + (F.E.size - 1), none⟩ v3).ownsRow lo e F.E.size (.slice (some ⟨g, 0, none⟩) n cap) n cs'.flatten ∧
      CI F (mixU A b0 lo g (w3.setCell ⟨g, k * F.E.size + (F.E.size - 1), none⟩ v3) (k + 1)) (w3.setCell ⟨g, k * F.E.size + (F.E.size - 1), none⟩ v3) cs' l := by
  obtain ⟨hg1, hg2⟩ := hown.lt g rfl
  have h1 := owns_set (owns_ext hown hb) (k * F.E.size + (F.E.size - 1)) v3
  have hs3 := hb.size
  generalize hW : w3.setCell ⟨g, k * F.E.size + (F.E.size - 1), none⟩ v3 = W at *
  have hne : ∀ b, b ≠ g → W.heap[b]? = w3.heap[b]? := fun b hb => by rw [← hW]; exact Below.heap_setCell _ ⟨g, _, none⟩ _ _ hb
  have hsW : W.heap.size = w3.heap.size := by rw [← hW]; simp [World.setCell]
  have h2 : CI F (mixU A b0 lo g W k) W cs l := by
    refine hc.sameU (fun i b h hl => ?_) (by omega) fun i b _ hl h e => ?_
    · refine (hne b ?_).trans (hb.block b hl)
      unfold mixU at h
      split at h
      · exact h.2.1
      · omega
    · unfold mixU at h ⊢
      split at h
      · rw [if_pos (by assumption)]
        exact ⟨h.1, h.2.1, h.2.2.of_eq e⟩
      · rw [if_neg (by assumption)]
        exact h
  obtain ⟨cs', e1, h3⟩ := h2.put (Y := mixU A b0 lo g W (k + 1)) hk (v := v3) (by
    refine ((hv.rbU).mono (w' := W) ⟨by omega, fun b hb _ => hne b (by have := hb.1; omega)⟩).weak fun b hb' h => ?_
    have h0 := h.1
    unfold mixU
    rw [if_pos (by omega)]
    exact ⟨by omega, by omega, h.2.of_eq (hne b (by omega))⟩) (fun j hj _ b h => by
      unfold mixU at h ⊢
      split at h
      · rw [if_pos (by omega)]; exact h
      · rw [if_neg (by omega)]; exact h)
  exact ⟨cs', by rw [e1]; exact h1, h3⟩
end Go.Proofs.YtfeonfihlleoeaaDoor
