/- The walk of Forget. -/
import Derived.Test.YtiikkglgoanpbaaWatchU
import Derived.Maps.RangeWalk
namespace Go.Proofs.Ytiikkglgoanpbaa
open Go.RowKit Go.Maps Go.WideShapes

def Brd.fw (B : Brd) (k : Nat) (who : Int) : Brd := { B with wl := fun i => if i < k then remS who (B.wl i) else B.wl i }
theorem fw_zero (B : Brd) (who : Int) : B.fw 0 who = B := by simp [Brd.fw]
theorem fw_succ (B : Brd) (k : Nat) (who : Int) : (B.fw k who).put k (remS who (B.wl k)) = B.fw (k + 1) who := by
  simp only [Brd.fw, Brd.put, Brd.mk.injEq, true_and, and_true]
  funext i
  by_cases h : i = k
  · subst h; simp
  · simp only [h, if_false]
    by_cases h2 : i < k
    · rw [if_pos h2, if_pos (by omega)]
    · rw [if_neg h2, if_neg (by omega)]
def fgN (left : Lit → Bool) (who : Int) (ns : List Nt) : List Nt := ns.map fun n => if left (.int .i64 n.id) then n else { n with miss := remS who n.miss }
def Brd.fn (B : Brd) (left : Lit → Bool) (who : Int) : Brd := { B with ns := fgN left who B.ns }
def Brd.forget (B : Brd) (who : Int) : Brd := { B with wl := fun i => if i < 4 then remS who (B.wl i) else B.wl i, ns := B.ns.map fun n => { n with miss := remS who n.miss } }
theorem fgN_ntV (left : Lit → Bool) (who : Int) (ns : List Nt) : ntV (fgN left who ns) = ntV ns := by
  simp only [ntV, fgN, List.map_map]
  refine List.map_congr_left fun n _ => ?_
  simp only [Function.comp]
  split <;> rfl
theorem fn_all (B : Brd) (left : Lit → Bool) (who : Int) (h : ∀ n ∈ B.ns, left (.int .i64 n.id) = true) : B.fn left who = B := by
  have : fgN left who B.ns = B.ns := by
    unfold fgN
    conv => rhs; rw [← List.map_id B.ns]
    refine List.map_congr_left fun n hn => ?_
    simp [h n hn]
  simp [Brd.fn, this]
theorem fn_none (B : Brd) (left : Lit → Bool) (who : Int) (h : ∀ z, left z = false) : (B.fw 4 who).fn left who = B.forget who := by
  simp [Brd.fn, Brd.fw, Brd.forget, fgN, h]
theorem fn_pb (B : Brd) (left : Lit → Bool) (who : Int) : (B.fn left who).pb = B.pb ∧ (B.fn left who).nb = B.nb := ⟨rfl, rfl⟩
theorem fgN_fm (left : Lit → Bool) (who : Int) (ns : List Nt) : ((fgN left who ns).flatMap fun n => [n.blk, n.mb]) = ns.flatMap fun n => [n.blk, n.mb] := by
  induction ns with
  | nil => rfl
  | cons a ns ih =>
    simp only [fgN, List.map_cons, List.flatMap_cons] at *
    rw [ih]
    split <;> rfl
theorem fn_fp (B : Brd) (left : Lit → Bool) (who : Int) : (B.fn left who).fp = B.fp := by simp only [Brd.fp, Brd.fn, fgN_fm]
theorem fw_fp (B : Brd) (k : Nat) (who : Int) : (B.fw k who).fp = B.fp := rfl
theorem forget_fp (B : Brd) (who : Int) : (B.forget who).fp = B.fp := by
  have := fgN_fm (fun _ => false) who B.ns
  simp only [fgN, Bool.false_eq_true, if_false] at this
  simp only [Brd.fp, Brd.forget, this]
/-- the notice that comes next -/
theorem fn_step {w : World} {B : Brd} {left : Lit → Bool} {who : Int} (h : IsB w (B.fn left who)) {n : Nt} (hn : n ∈ B.ns) (hl : left (.int .i64 n.id) = true) :
    n ∈ (B.fn left who).ns ∧ (B.fn left who).setN n.id (remS who n.miss) = B.fn (fun z => left z && !z.sameKey (.int .i64 n.id)) who := by
  have hup : (fgN left who B.ns).Pairwise (fun m n => m.id < n.id) := ntV_up h.nots.up
  have hup2 : B.ns.Pairwise (fun m n => m.id < n.id) := by
    have := List.pairwise_map.1 hup
    refine this.imp fun {a b} hab => ?_
    split at hab <;> split at hab <;> exact hab
  refine ⟨List.mem_map.2 ⟨n, hn, by simp [hl]⟩, ?_⟩
  simp only [Brd.fn, Brd.setN, Brd.mk.injEq, true_and, and_true, Ytiikkglgoanpbaa.setN, fgN, List.map_map]
  refine List.map_congr_left fun m hm => ?_
  simp only [Function.comp, Lit.sameKey, true_and]
  by_cases e : m.id = n.id
  · obtain rfl := same_id hup2 m hm n hn e
    simp [hl]
  · have e1 : decide (m.id = n.id) = false := by simp [e]
    by_cases h1 : left (.int .i64 m.id)
    · simp [h1, e]
    · simp [h1, e]

theorem heldR_some {v : Value} {y : DataW Value × List MemPlace} (h : heldR v = some y) : y.1 = .held v := by
  simp only [heldR, Option.some.injEq] at h
  rw [← h]
theorem at_of {l : IV} {x : Int} {c : Value} (h : ∀ zd, (mdat l).atKey (.int .i64 x) zd = .held c) : getI x l = some c := by
  cases hg : getI x l with
  | some d =>
    have h1 := mdat_at l x c
    rw [h, hg] at h1
    simp only [Option.getD_some, DataW.held.injEq] at h1
    rw [h1]
  | none =>
    have h1 := mdat_at l x (.bool true)
    have h2 := mdat_at l x (.bool false)
    rw [h, hg] at h1 h2
    simp only [Option.getD_none, DataW.held.injEq] at h1 h2
    rw [h1] at h2
    simp at h2
theorem left_has (ns : List Nt) (n : Nt) (hn : n ∈ ns) : Maps.has (mdat (ntV ns)) (.int .i64 n.id) = true := by
  rw [mdat_has]
  cases hg : getI n.id (ntV ns) with
  | some _ => rfl
  | none =>
    simp only [getI, Option.map_eq_none_iff, List.find?_eq_none] at hg
    have := hg (n.id, .pointer (some ⟨n.blk, 0, none⟩)) (List.mem_map.2 ⟨n, hn, rfl⟩)
    simp at this

theorem invKey : ∀ (key : Value) (kl : Lit), keyOf Try.prog 3 key = some kl → ∃ x, key = Value.int .i64 x := fun key kl h => by
  obtain ⟨x, rfl, _⟩ := Maps.keyOf_int_inv Try.underlying3 h
  exact ⟨x, rfl⟩
theorem invHeld : ∀ (v : Value) (y : DataW Value × List MemPlace), heldR v = some y → ∃ c : Value, v = (fun c : Value => c) c := fun v _ _ => ⟨v, rfl⟩
theorem Fr.ofG {w w' : World} {r : Nat} (h : w.grownBy w' (some r)) : Fr (fun k => k = r) w w' := ⟨h.os, h.tape, h.output, h.size, fun k hk hn => h.block k hk (by simpa using hn)⟩

set_option maxRecDepth 100000 in
set_option maxHeartbeats 4000000 in
theorem forget_any (B : Brd) (who : Int) (w : World) (hB : IsB w B) (hwo : okI who) :
    Calls Try.prog 19 #[.pointer (some ⟨B.pb, 0, none⟩), .int .i64 who] w fun e w' => e = .returned (.tuple #[]) ∧ IsB w' (B.forget who) ∧ Fr (· ∈ B.fp) w w' := by
  have HB := Lib.hid hB
  have HW := Lib.hid hwo
  clear hB hwo
  go_enter Try.func19, Try.ntmps19
  go_wp2
  go_loopw [9] (fun q wr => ∃ k : Nat, k ≤ 4 ∧ q = .int .i64 k ∧ IsB wr (B.fw k who) ∧ Fr (· ∈ B.fp) w wr) (fun q _ => 4 - (intOf q).toNat)
  case atStart => exact ⟨0, by omega, rfl, by rw [fw_zero]; exact HB.out, Fr.refl _ _⟩
  case round =>
    obtain ⟨k, hk, rfl, hBr, hfr⟩ := hrel
    have HBR := Lib.hid hBr
    have HF := Lib.hid hfr
    clear hBr hfr
    by_cases hlt : k < 4
    · have hc : wr.cell? ⟨B.pb, k, none⟩ = some (.map (some (B.wm k))) := by
        obtain ⟨c0, c1, c2, c3, _⟩ := self_cells HBR.out
        obtain rfl | rfl | rfl | rfl : k = 0 ∨ k = 1 ∨ k = 2 ∨ k = 3 := by omega
        · exact c0
        · exact c1
        · exact c2
        · exact c3
      obtain ⟨w1, r1, m1, t1⟩ := (HBR.out.watch k hlt).del Try.underlying3 Try.underlying54 HW.out 0
      have r1 : (Builtin.delete_ #[54, 3] 0 #[.map (some (B.wm k)), .int .i64 who]).run Try.prog wr = .ok (.tuple #[]) w1 := r1
      rw [setV_rem, show (B.fw k who).wl k = B.wl k by simp [Brd.fw]] at m1
      have HB1 := Lib.hid (HBR.out.putW hlt m1 t1)
      have HF1 := Lib.hid (HF.out.trans (turned_fr t1) (T := fun j => j = B.wm k) fun j _ e => by
        subst e
        obtain rfl | rfl | rfl | rfl : k = 0 ∨ k = 1 ∨ k = 2 ∨ k = 3 := by omega
        all_goals simp [Brd.fp])
      clear m1 t1
      go_wp2
      go_roundw
      case rel => exact ⟨k + 1, by omega, by go_num, by rw [← fw_succ]; exact HB1.out, HF1.out⟩
      case measure => simp [intOf]; omega
    · have hk4 := Lib.hid (show k = 4 by omega)
      rw [hk4.out] at HBR
      obtain ⟨c0, c1, c2, c3, c4, c5⟩ := self_cells HBR.out
      have c4 : wr.cell? ⟨B.pb, 4, none⟩ = some (.map (some B.nb)) := c4
      clear c0 c1 c2 c3 c5
      have hown : Hid (wr.ownsMap Try.prog 3 heldR B.nb (ntV B.ns).length (mdat (ntV B.ns))) := HBR.out.nots.own
      go_wp2_with (first
        | (at_range; refine wpList_range_own _ rfl _ 53 rfl 3 59 (int_keyed Try.underlying3) Try.underlying53 heldR B.nb _ _ rfl hown.out ?_; intro w1 hrg1 hg1 hs1)
        | go_in)
      go_frame
      have hb1 : Hid (Below wr.heap.size wr w1) := ⟨hg1.os, hg1.tape, hg1.output, hg1.size, fun j hj => hg1.block j hj (by simp)⟩
      have HRG := Lib.hid hrg1
      have hB1 := Lib.hid (HBR.out.ext hb1.out)
      have hF1 := Lib.hid (HF.out.trans (Fr.ext (S := (· ∈ B.fp)) hb1.out) fun _ _ h => h)
      clear hrg1 hg1 hs1 c4
      have HNR : Hid (∀ q ∈ B.fp, q ≠ wr.heap.size) := fun q hq => by have := HBR.out.lt q hq; omega
      have HRW : Hid (w.heap.size ≤ wr.heap.size) := HF.out.size
      generalize wr.heap.size = r at *
      go_loopw [6] (fun _ wr2 => ∃ (left : Lit → Bool) (cnt : Nat), wr2.ranges Try.prog 3 heldR B.nb r (ntV B.ns).length (mdat (ntV B.ns)) left cnt ∧ IsB wr2 ((B.fw 4 who).fn left who) ∧ Fr (· ∈ B.fp) w wr2) (fun _ wr2 => wr2.rangeLeft B.nb r)
      case atStart => exact ⟨_, _, HRG.out, by rw [fn_all (B.fw 4 who) _ who (fun n hn => left_has B.ns n hn)]; exact hB1.out, hF1.out⟩
      case round =>
        obtain ⟨left, cnt, hrg, hB2, hf2⟩ := hrel
        have HRG2 := Lib.hid hrg
        have HB2 := Lib.hid hB2
        have HF2 := Lib.hid hf2
        clear hrg hB2 hf2 HRG hB1 hF1
        go_wp2_with (first
          | (at_next; refine wpList_next_ranges _ rfl _ rfl 3 (int_keyed Try.underlying3) heldR (Value.int .i64) (fun c : Value => c) invKey invHeld B.nb r _ _ left cnt rfl HRG2.out ?_ ?_)
          | go_in)
        · intro _ hl0
          have H0 := Lib.hid hl0
          clear hl0
          go_wp2
          go_end0
          exact ⟨rfl, by rw [← fn_none B left who H0.out]; exact HB2.out, HF2.out⟩
        · intro x c kl y y2 w2 cnt2 hkey hlk hv hat hrg2 hlt2 hg2 hs2 hen
          obtain ⟨x', ex, rfl, hwx⟩ := Maps.keyOf_int_inv Try.underlying3 hkey
          cases ex
          have hget : getI x (ntV B.ns) = some c := at_of fun zd => (hat zd).trans (heldR_some (y := (y, y2)) hv)
          rw [ntV_get] at hget
          obtain ⟨n, hfind, hcn⟩ := Option.map_eq_some_iff.1 hget
          obtain ⟨hn, hid⟩ := findN_mem hfind
          subst hcn
          rw [← hid] at hlk hrg2
          have hB2' : IsB w2 ((B.fw 4 who).fn left who) := HB2.out.keep fun q hq => hg2.block q (HB2.out.lt q hq) (by
            rw [fn_fp] at hq
            have := HNR.out q hq
            simpa using this)
          obtain ⟨hmem, hset⟩ := fn_step hB2' hn hlk
          obtain ⟨n0, n1⟩ := note_cells hB2' hmem
          obtain ⟨w3, r3, m3, t3⟩ := (hB2'.each n hmem).2.del Try.underlying3 Try.underlying54 HW.out 0
          rw [setV_rem] at m3
          have hB3 := hB2'.putN hmem m3 t3
          rw [hset] at hB3
          have hmb : n.mb ∈ B.fp := mem_fp_mb hn
          have hne : n.mb ≠ B.nb := (hB2'.apart hmem).2.1
          have hrg3 := hrg2.kept t3.grown (by simpa using Ne.symm hne) (by have := HNR.out _ hmb; simpa using Ne.symm this)
          have HRG3 := Lib.hid hrg3
          have HB3 := Lib.hid hB3
          have HF3 := Lib.hid ((HF2.out.trans (Fr.ofG hg2) (fun q hq e => by subst e; have := HRW.out; omega)).trans (turned_fr t3) fun q _ e => e ▸ hmb)
          have hM : Hid (w3.rangeLeft B.nb r < wr.rangeLeft B.nb r) := by
            show _ < _
            rw [hrg3.left_eq, HRG2.out.left_eq]; exact hlt2
          clear hkey hlk hv hat hrg2 hlt2 hg2 hs2 hwx hget hfind hn hid hB2' hmem hset m3 t3 hB3 hmb hne hrg3
          go_wp2
          go_roundw
          case rel => exact ⟨_, _, HRG3.out, HB3.out, HF3.out⟩
          case measure => exact hM.out
end Go.Proofs.Ytiikkglgoanpbaa
