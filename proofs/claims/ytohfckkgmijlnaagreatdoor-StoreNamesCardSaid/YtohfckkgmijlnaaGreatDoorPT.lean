/- The walk of terrazzoref11.Names. The walks of store.sorted (its iterator) and store.Names. (The walks follow the guide's page on ranges over functions.) -/
import Derived.Test.YtohfckkgmijlnaaGreatDoorPS
import Derived.RangeFuncNested
import Derived.RangeFuncBound
import Derived.RangeFuncCalls
import Derived.RangeFuncLeaves
import Derived.RangeFuncBox
import Derived.RangeFuncFrom
import Derived.Shelf.Abstract
import Derived.Shelf.RegionOpen
import Derived.WalkKit
import Derived.OwnWalkIn
import Derived.TacticsInMore
import Derived.LoopNIn
import Derived.LoopIn
import Derived.Maps.OwnIn
import Derived.Maps.AppendAt
import Derived.Test.YtohfckkgmijlnaaGreatDoorPA
import Derived.Test.YtohfckkgmijlnaaGreatDoorPO
namespace Go.Proofs.YtohfckkgmijlnaaGreatDoor
open Go.RowKit Go.Maps Go.WideShapes
attribute [local go_sem ↓] Go.wp_at_zero Go.wp_at_succ

theorem take_ext (n : ByteArray) (k : Nat) : (n.extract 0 k).data.toList = n.data.toList.take k := by
  simp [ByteArray.data_extract]
theorem preS_yes {f n : ByteArray} (_h : f.size ≤ n.size) : preS f n = decide (n.extract 0 f.size = f) := by
  unfold preS Lib.hasPrefix
  rw [Bool.eq_iff_iff, List.isPrefixOf_iff_prefix, List.prefix_iff_eq_take, decide_eq_true_iff]
  have hl : f.data.toList.length = f.size := by simp
  rw [hl, ← take_ext]
  constructor
  · exact fun e => (ba_key e).symm
  · exact fun e => by rw [e]
theorem preS_no {f n : ByteArray} (h : n.size < f.size) : preS f n = false := by
  unfold preS Lib.hasPrefix
  rw [Bool.eq_false_iff]
  intro e
  have := (List.isPrefixOf_iff_prefix.1 e).length_le
  simp at this
  omega
/-- the names that begin so -/
def namesP (f : ByteArray) (l : List (ByteArray × ObD)) : List ByteArray := (l.map (·.1)).filter fun n => preS f n
theorem namesP_snoc {f : ByteArray} {l : List (ByteArray × ObD)} {k : Nat} (hk : k < l.length) : namesP f (l.take (k + 1)) = namesP f (l.take k) ++ (if preS f (l[k]).1 then [(l[k]).1] else []) := by
  unfold namesP
  rw [List.take_succ_eq_append_getElem hk, List.map_append, List.filter_append]
  congr 1
  simp [List.filter_cons]
theorem namesP_len (f : ByteArray) (l : List (ByteArray × ObD)) : (namesP f l).length ≤ l.length := by
  have := List.length_filter_le (fun n => preS f n) (l.map (·.1))
  simpa [namesP] using this
set_option maxRecDepth 100000 in
set_option maxHeartbeats 1600000 in
theorem rnames_any (A : Nat → Prop) (r : Int) (v : Value) (l : List (ByteArray × ObD)) (f : ByteArray) (w : World) (hv : SlE Enc.named A w v l) (hl : l.length ≤ 1000) (hnm : ∀ p ∈ l, p.1.size ≤ 1000) :
    Calls Tryz.prog 21 #[.agg #[.int .i64 r, v], .string f] w fun e w' => ∃ v', e = .returned v' ∧ SlE Enc.str (fun b => w.heap.size ≤ b) w' v' (namesP f l) ∧ Below w.heap.size w w' := by
  obtain ⟨va, vc, rfl⟩ := hv.shape
  have HV := Lib.hid hv
  have HNM := Lib.hid hnm
  obtain ⟨i0, hi, hz0, hz1, hz2⟩ := info_parts infoStr
  clear hv hnm
  go_enter Tryz.func21, Tryz.ntmps21
  go_wp2
  obtain ⟨w0, hw0⟩ : ∃ w0, w0 = w.alloc (.cells #[.int .i64 r, .slice va l.length vc] 28) := ⟨_, rfl⟩
  rw [← hw0]
  have B0 : w0.heap[w.heap.size]? = some (.cells #[.int .i64 r, .slice va l.length vc] 28 (0, 0)) := by rw [hw0]; exact heap_alloc_new _ _
  have hw : Below w.heap.size w w0 := by rw [hw0]; ((repeat' (first | exact Below.refl _ _ | refine below_drewN ?_ _ | refine Below.drew ?_ | refine Below.alloc ?_ ?_ _ | refine Below.trans ?_ (Below.mono (by assumption) ?_))); all_goals (first | exact Nat.le_refl _ | exact Below.size (by assumption) | omega | (simp; done) | (simp; omega)))
  have hs0 : w0.heap.size = w.heap.size + 1 := by rw [hw0]; simp
  have HV0 := Lib.hid (HV.out.mono (Same.of_ext hw))
  have HW := Lib.hid hw
  have HB0 := Lib.hid B0
  have HS0 : Hid (w0.heap.size = w.heap.size + 1) := Lib.hid hs0
  clear hw0 hw B0 hs0
  go_loopw [5, 6] (fun o i wr => ∃ (k : Nat) (oa : Option Addr) (oc : Nat), k ≤ l.length ∧ i = .int .i64 k ∧ o = .slice oa (namesP f (l.take k)).length oc ∧ EnRow Enc.str 9 (fun _ => False) w0.heap.size wr (.slice oa (namesP f (l.take k)).length oc) (namesP f (l.take k)) ∧ Below w0.heap.size w0 wr) (fun _ i _ => l.length - (intOf i).toNat)
  case atStart => exact ⟨0, none, 0, Nat.zero_le _, rfl, rfl, EnRow.nil _ _ _ _ _, Below.refl _ _⟩
  case round =>
    obtain ⟨k, oa, oc, hk, rfl, rfl, hR, hbr⟩ := hrel
    have HR := Lib.hid hR
    have HBR := Lib.hid hbr
    have hsz := hbr.size
    obtain ⟨x1, f1⟩ := blk_cell (i := 1) ((hbr.block w.heap.size (by have := HS0.out; omega)).trans HB0.out)
    simp at x1
    have hlen : (namesP f (l.take k)).length ≤ 1000 := Nat.le_trans (namesP_len f (l.take k)) (by simp; omega)
    by_cases hlt : k < l.length
    · obtain ⟨b, off, da, dc, ka, kc, rfl, hb, c0, c1, c2, c3, hd, hkk⟩ := Named.at (HV0.out.mono (Same.of_ext hbr)) hlt
      have hnl : ((l[k]).1).size ≤ 1000 := HNM.out _ (List.getElem_mem hlt)
      have HSN := Lib.hid (namesP_snoc (f := f) hlt)
      clear c1 c2 c3 hd hkk hR hbr
      generalize (l[k]).1 = n at *
      generalize namesP f (l.take k) = L at *
      have hk5 : (0 : Int) ≤ k := by omega
      have hkl5 : (k : Int) < l.length := by omega
      by_cases hle : f.size ≤ n.size
      · have hle2 : (f.size : Int) ≤ n.size := by omega
        have hxe := eqL (n.extract 0 f.size) f
        by_cases hx : n.extract 0 f.size = f
        · have hxt : decide (n.extract 0 f.size = f) = true := by simp [hx]
          rw [hxt] at hxe
          have HP : Hid (namesP f (l.take (k + 1)) = L ++ [n]) := Lib.hid (by rw [HSN.out, preS_yes hle, hxt]; rfl)
          clear hx hxt HSN
          go_wp2_with (first | (at_builtin; refine stop_in ?_) | go_in)
          unfold Stop
          refine wpList_push wr (by rfl) (.tmp 34) (.tmp 36) 47 (by rfl) Enc.str (fun _ => False) w0.heap.size 9 i0 _ 16 Tryz.underlying47 hi hz0 hz1 hz2 (by rfl) (by decide) (by decide) _ L (by rfl) HR.out [.string n] 9 n (by rfl) ⟨rfl, by unfold maxLen; omega⟩ (by omega) hsz (fun b h => h.elim) ?_
          intro v' w' hE' hB'
          obtain ⟨va', ca', rfl⟩ := hE'.shape
          have HE := Lib.hid hE'
          have HBN := Lib.hid (HBR.out.trans hB')
          clear hE' hB'
          go_wp2
          go_roundw
          case rel => exact ⟨k + 1, va', ca', by omega, by go_num, by rw [HP.out, List.length_append]; rfl, by rw [HP.out]; exact HE.out, HBN.out⟩
          case measure => simp [intOf]; omega
        · have hxt : decide (n.extract 0 f.size = f) = false := by simp [hx]
          rw [hxt] at hxe
          have HP : Hid (namesP f (l.take (k + 1)) = L) := Lib.hid (by rw [HSN.out, preS_yes hle, hxt]; simp)
          clear hx hxt HSN
          go_wp2
          go_roundw
          case rel => exact ⟨k + 1, oa, oc, by omega, by go_num, by rw [HP.out], by rw [HP.out]; exact HR.out, HBR.out⟩
          case measure => simp [intOf]; omega
      · have hle2 : (n.size : Int) < f.size := by omega
        have HP : Hid (namesP f (l.take (k + 1)) = L) := Lib.hid (by rw [HSN.out, preS_no (by omega)]; simp)
        clear hle HSN
        go_wp2
        go_roundw
        case rel => exact ⟨k + 1, oa, oc, by omega, by go_num, by rw [HP.out], by rw [HP.out]; exact HR.out, HBR.out⟩
        case measure => simp [intOf]; omega
    · obtain rfl : k = l.length := by omega
      rw [List.take_length] at HR
      have HE := Lib.hid (SlE.weak (A' := fun b => w.heap.size ≤ b) (HR.out.sle (A' := fun b => w0.heap.size ≤ b) (fun _ _ h => h.elim) (fun b h => h)) fun b _ h => by have := HS0.out; omega)
      have HBN := Lib.hid (HW.out.trans (HBR.out.mono (by have := HS0.out; omega)))
      rw [List.take_length]
      clear hR hbr
      go_wp2
      go_ret
      exact ⟨_, rfl, HE.out, HBN.out⟩
end Go.Proofs.YtohfckkgmijlnaaGreatDoor
namespace Go.Proofs.YtohfckkgmijlnaaGreatDoor
open Go.RowKit Go.Maps Go.Sort Go.Shelf Go.WideShapes
attribute [local go_sem] Oper.semAt_some

/-! names in order -/
theorem bb_lt : ∀ (a b : List UInt8), bytesBefore a b = true ↔ a < b
  | [], [] => by simp [bytesBefore]
  | [], _ :: _ => by simp [bytesBefore]
  | _ :: _, [] => by simp [bytesBefore]
  | a :: x, b :: y => by
    simp only [bytesBefore, Bool.or_eq_true, Bool.and_eq_true, decide_eq_true_eq, beq_iff_eq, List.cons_lt_cons_iff, bb_lt x y]
theorem sorted_of_permS {l ss : List (List UInt8)} (h : l.Pairwise (fun a b => bytesBefore a b = true)) (hp : ss.Perm l) : ss.mergeSort (fun x y => decide (x ≤ y)) = l := by
  refine List.Perm.eq_of_pairwise (le := fun a b : List UInt8 => a ≤ b) (fun a b _ _ h1 h2 => List.le_antisymm h1 h2) ?_ ?_ ((List.mergeSort_perm _ _).trans hp)
  · have := List.pairwise_mergeSort (le := fun x y : List UInt8 => decide (x ≤ y)) (fun a b c h1 h2 => by simp at h1 h2 ⊢; exact List.le_trans h1 h2) (fun a b => by simp; exact List.le_total a b) ss
    simpa using this
  · exact h.imp fun {a b} h => List.le_of_lt ((bb_lt a b).1 h)
theorem keys_sdat (l : SV) : strKeys (sdat l) = l.map (·.1.data.toList) := by
  simp only [sdat, strKeys, List.map_map]
  exact List.map_congr_left fun p _ => rfl
theorem sortsS (m : Nat) : AnyZ.SortsIn Tryz.prog Tryz.sortedA_ren Fence.wide m :=
  ⟨fun blk off cap ss W hH hblk hsz => callsIn_wide.2 (AnyM.slices_Sort_string Tryz.sortA blk off cap ss W hH hblk hsz),
   fun p cap W => callsIn_wide.2 (AnyM.slices_Sort_string_none Tryz.sortA p cap W)⟩
theorem pref_any (s p : ByteArray) (w : World) : Calls Tryz.prog 29 #[.string s, .string p] w fun e w' => e = .returned (.bool (preS p s)) ∧ w' = w := Any.strings_HasPrefix Tryz.prefL s p w
/-! what a round of a collecting loop keeps: all cells but the box's, and the row's that it holds -/
structure Kpt (B : Nat) (W W' : World) : Prop where
  mk ::
  size : W.heap.size ≤ W'.heap.size
  keep : ∀ v, W.cell? ⟨B, 0, none⟩ = some v → (∀ b cs t fr, W.heap[b]? = some (.cells cs t fr) → b ≠ B → v.ownBlock ≠ some b → W'.heap[b]? = W.heap[b]?) ∧ ∃ v', W'.cell? ⟨B, 0, none⟩ = some v' ∧ ∀ g, v'.ownBlock = some g → v.ownBlock = some g ∨ W.heap.size ≤ g
theorem Kpt.refl (B : Nat) (W : World) : Kpt B W W := ⟨Nat.le_refl _, fun v hv => ⟨fun _ _ _ _ _ _ _ => rfl, v, hv, fun _g hg => .inl hg⟩⟩
theorem Kpt.trans {B : Nat} {X Y Z : World} (h : Kpt B X Y) (k : Kpt B Y Z) : Kpt B X Z := by
  refine ⟨Nat.le_trans h.size k.size, fun v hv => ?_⟩
  obtain ⟨h1, v1, hv1, h2⟩ := h.keep v hv
  obtain ⟨k1, v2, hv2, k2⟩ := k.keep v1 hv1
  refine ⟨fun b cs t fr hb hne ho => ?_, v2, hv2, fun g hg => ?_⟩
  · have hY := h1 b cs t fr hb hne ho
    refine (k1 b cs t fr (hY.trans hb) hne fun e => ?_).trans hY
    have := (Array.getElem?_eq_some_iff.1 hb).1
    rcases h2 b e with h3 | h3
    · exact ho h3
    · omega
  · have := h.size
    rcases k2 g hg with h3 | h3
    · exact h2 g h3
    · exact .inr (by omega)
theorem Kpt.putObj {B : Nat} (W : World) (l : Nat) (o o' : Obj) (h : W.heap[l]? = some o) (hc : o.isCells = false) : Kpt B W (W.putObj l o') := by
  have hg := grownBy_putObj' W l o'
  have hne : ∀ b cs t fr, W.heap[b]? = some (.cells cs t fr) → some b ≠ some l := fun b cs t fr hb e => by
    cases e
    rw [h] at hb
    cases hb
    cases hc
  refine ⟨hg.size, fun v hv => ?_⟩
  obtain ⟨cs, t, fr, hb, hm⟩ := cells_of_cell hv
  refine ⟨fun b cs t fr hb _ _ => hg.block b (Array.getElem?_eq_some_iff.1 hb).1 (hne b cs t fr hb), v, ?_, fun g h => .inl h⟩
  rw [← hv]
  exact World.cell?_of_block (hg.block B (Array.getElem?_eq_some_iff.1 hb).1 (hne B cs t fr hb))
theorem grown_of_below {W W' : World} (h : Below W.heap.size W W') : W.grownBy W' none := ⟨h.os, h.tape, h.output, h.size, fun k hk _ => h.block k hk⟩
theorem row_names {w' : World} {base : Nat} {v : Value} {ss : List (List UInt8)} {sv : SV} {l : List (ByteArray × ObD)} (hup : ((sv.map (·.1)).map (·.data.toList)).Pairwise (fun a b => bytesBefore a b = true)) (hk : sv.map (·.1) = l.map (·.1)) (hS : ss.Perm (strKeys (sdat sv)))
    (hrow : w'.ownsRow base 9 1 v ss.length ((ss.mergeSort (fun x y => decide (x ≤ y))).map encStr)) : w'.ownsRow base 9 1 v l.length (l.map fun p => Value.string p.1) := by
  have e0 : sv.map (·.1.data.toList) = (sv.map (·.1)).map (·.data.toList) := by rw [List.map_map]; rfl
  rw [keys_sdat, e0] at hS
  have hlen : ss.length = l.length := by
    have h1 := hS.length_eq
    have h2 := congrArg List.length hk
    simp at h1 h2
    omega
  rw [sorted_of_permS hup hS, hlen, hk] at hrow
  have e : ((l.map (·.1)).map (·.data.toList)).map encStr = l.map fun p => Value.string p.1 := by
    rw [List.map_map, List.map_map]
    exact List.map_congr_left fun p _ => by simp [encStr]
  rwa [e] at hrow
theorem owns_cell {W : World} {base n k : Nat} {va : Option Addr} {vc : Nat} {xs : List Value} (h : W.ownsRow base 9 1 (.slice va n vc) n xs) (hk : k < n) :
    ∃ g cur, va = some ⟨g, 0, none⟩ ∧ base ≤ g ∧ W.heap[g]? = some (.cells cur 9 (0, 0)) ∧ W.cell? ⟨g, k, none⟩ = xs[k]? := by
  rcases h.2 with ⟨e, -⟩ | ⟨g, cap, cur, e, hg, hb, h1, h2, h3, h4⟩
  · simp only [Value.slice.injEq] at e
    omega
  · simp only [Value.slice.injEq] at e
    obtain ⟨rfl, -, -⟩ := e
    refine ⟨g, cur, rfl, hg, hb, ?_⟩
    rw [(blk_cell hb).1, ← h4, List.getElem?_take_of_lt (by omega)]
    simp
set_option maxRecDepth 100000 in
set_option maxHeartbeats 2000000 in
/-- the iterator that sorted hands back -/
theorem sorted_stops (B Bs p b : Nat) (s : StD) (hok : StOk s) (v0 : Value) (w : World) (hS : IsSt w p b s) (hBs : w.cell? ⟨Bs, 0, none⟩ = some (.pointer (some ⟨p, 0, none⟩))) (hB : w.cell? ⟨B, 0, none⟩ = some v0) (hv0 : ∀ g, v0.ownBlock = some g → g < w.heap.size) :
    SeqStopsK Fence.wide 7 Tryz.prog 41 #[.pointer (some ⟨Bs, 0, none⟩)] (fun x : ByteArray => #[Value.string x]) (Kpt B) (fun ys => ys = s.l.map (·.1)) (fun _ => True) s.l.length w := fun l J Jx W hW hJ _ hY h0 => by
  have hBsl := World.block_lt_of_cell? w _ hBs
  have hBl := World.block_lt_of_cell? w _ hB
  replace hBs := cellExt hW hBs
  replace hB := cellExt hW hB
  replace hS := hS.ext hW
  obtain ⟨hpl, hbl⟩ := hS.lt
  obtain ⟨-, hc1⟩ := hS.cells
  obtain ⟨sv, hm, hrel⟩ := hS.map.ex
  have hlen := hrel.len
  have hkeys := hrel.keys
  have hup : ((sv.map (·.1)).map (·.data.toList)).Pairwise (fun a b => bytesBefore a b = true) := by
    rw [List.map_map]
    exact List.pairwise_map.2 hm.up
  have hl3 : s.l.length ≤ 300 := Nat.le_trans hok.len hok.room
  have hown := hm.own
  have hsz0 : Maps.size (sdat sv) ≤ maxLen := by rw [sdat_size]; unfold maxLen; omega
  have hbytes : Maps.size (sdat sv) * 16 ≤ 140737488355328 := by rw [sdat_size]; omega
  have hseq : SeqGives Fence.wide 3 Tryz.prog 62 #[.pointer (some ⟨W.heap.size, 0, none⟩)] encStr (fun ss => ss.Perm (strKeys (sdat sv))) (Maps.size (sdat sv)) (W.alloc (.cells #[.map (some b)] 65)) :=
    AnyZ.keys_gives (ρ := Tryz.keysA_ren) { Tryz.keysA with } Fence.wide _ trivial rfl (by omega) W.heap.size b sv.length (sdat sv) _ (by simp) (by simp) (by
      obtain ⟨es, clock, hb, Ft, hs, hD⟩ := hown
      exact ⟨es, clock, (Below.heap_alloc _ _ b hbl).trans hb, Ft, hs, hD⟩)
  have cK : ∀ mb W, CallsIn Fence.wide 6 Tryz.prog 43 #[.map mb] W fun e w' => e = .returned (.func (.func 62) #[] #[.pointer (some ⟨W.heap.size, 0, none⟩)]) ∧ w' = W.alloc (.cells #[.map mb] 65) := fun mb W => AnyZ.keys_in Tryz.keysA Fence.wide 6 trivial rfl mb W
  have cS := AnyZ.sorted_in Tryz.sortedA Fence.wide 6 trivial trivial trivial trivial rfl (by omega) (sortsS _) (enters_of Tryz.func61 (by kernel_rfl) rfl) 62 #[.pointer (some ⟨W.heap.size, 0, none⟩)] trivial (enters_of Tryz.func62 (by kernel_rfl) rfl) _ _ hsz0 hbytes _ hseq
  change CallsIn _ _ Tryz.prog 42 _ _ _ at cS
  have HUP := Lib.hid hup
  have HKE := Lib.hid hkeys
  have HL := Lib.hid hlen
  have HB := Lib.hid hB
  have HY := Lib.hid hY
  have HJ := Lib.hid hJ
  have hWs := hW.size
  clear hup hown hm hsz0 hbytes hseq hkeys hlen hB hY hJ hrel hS hW
  have hfK : Fence.wide.fn 43 := trivial
  have hfS : Fence.wide.fn 42 := trivial
  refine callsIn_of_wp Tryz.func41 rfl trivial ?_ rfl
  simp only [Tryz.ntmps41, List.size_toArray, List.length_cons, List.length_nil, Nat.reduceAdd, Nat.reduceSub, Array.replicate_succ, Array.replicate_zero, List.push_toArray, List.append_toArray, List.nil_append, List.cons_append]
  gi_wp2_with (first | (gi_at_call 43; refine (cK _ _).mono ?_; rintro e w' ⟨rfl, rfl⟩) | (gi_at_call 42; refine cS.mono ?_; rintro e W2 ⟨v, ss, rfl, hS, hrow, -, hb⟩; have hrw := row_names HUP.out HKE.out hS hrow; obtain ⟨va, vc, rfl⟩ := owns_shape hrw; clear hS hrow))
  have hbw : Below W.heap.size W W2 := ((Below.refl _ W).alloc (Nat.le_refl _) _).trans (hb.mono (by simp))
  have hJ2 : J [] W2 := HJ.out [] W W2 none h0 (grown_of_below hbw) (fun r e => by cases e)
  have hB2 : W2.cell? ⟨B, 0, none⟩ = some v0 := (hbw.cell (p := ⟨B, 0, none⟩) (by show B < _; omega)).trans HB.out
  have HRW := Lib.hid hrw
  have HB2 := Lib.hid hB2
  have HBW := hbw.size
  clear hb hbw hrw hB2 h0 cK cS hfK hfS
  gi_loopw [12] (fun i wr => ∃ k : Nat, k ≤ s.l.length ∧ i = .int .i64 k ∧ J ((s.l.map (·.1)).take k) wr ∧ Kpt B W2 wr) (fun i _ => s.l.length - (intOf i).toNat)
  case atStart => exact ⟨0, Nat.zero_le _, rfl, hJ2, Kpt.refl _ _⟩
  case round =>
    obtain ⟨k, hk, rfl, hJs, hK⟩ := hrel
    by_cases hlt : k < s.l.length
    · obtain ⟨g, cur, rfl, hg, hgb, hc⟩ := owns_cell HRW.out hlt
      have hgl := (Array.getElem?_eq_some_iff.1 hgb).1
      simp only [World.size_alloc] at hg
      have hsame := (hK.keep v0 HB2.out).1 g cur 9 (0, 0) hgb (by omega) (fun e => by have := hv0 g e; omega)
      have hcx : wr.cell? ⟨g, k, none⟩ = some (.string (s.l[k]).1) := by
        rw [World.cell?_of_block hsame, hc]
        simp [hlt]
      have HTK : Hid ((s.l.map (·.1)).take (k + 1) = (s.l.map (·.1)).take k ++ [(s.l[k]).1]) := Lib.hid (by rw [List.take_succ_eq_append_getElem (by simpa using hlt)]; simp)
      obtain ⟨fn, tmps, assign, body, hy, hR⟩ := HY.out _ (s.l[k]).1 wr hJs (by simp; omega)
      (try dsimp only at hy)
      have HR := Lib.hid hR
      have HK := Lib.hid hK
      clear hc hsame hgb hR hK hJs
      generalize (s.l[k]).1 = nm at *
      gi_wp2
      refine HR.out.mono ?_
      rintro e W3 (⟨rfl, hJ3, hk3⟩ | ⟨rfl, hJx3⟩)
      · have HJ3 : Hid (J ((s.l.map (·.1)).take (k + 1)) W3) := Lib.hid (by rw [HTK.out]; exact hJ3)
        have HK3 := Lib.hid (HK.out.trans hk3)
        clear hJ3 hk3
        gi_wp2
        go_roundw
        case rel => exact ⟨k + 1, by omega, by simp, HJ3.out, HK3.out⟩
        case measure => simp [intOf]; omega
      · gi_wp2
        refine bodyPost_ret (results_none rfl _ _ _) rfl ?_
        exact ⟨⟨_, rfl⟩, .inr ⟨_, trivial, hJx3⟩⟩
    · obtain rfl : k = s.l.length := by omega
      have HJS : Hid (J (s.l.map (·.1)) wr) := Lib.hid (by rw [List.take_of_length_le (by simp)] at hJs; exact hJs)
      clear hJs
      gi_wp2
      go_end0
      exact ⟨⟨_, rfl⟩, .inl ⟨_, rfl, HJS.out⟩⟩
end Go.Proofs.YtohfckkgmijlnaaGreatDoor
