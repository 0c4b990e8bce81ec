/- The walk of terrazzoref08.At. -/
import Derived.Test.YtgdilkhaopnhaaaGreatDoorRefA8
namespace Go.Proofs.YtgdilkhaopnhaaaGreatDoor
open Go.RowKit Go.WideShapes

/-- what a call that hands a row of bytes on answers: the row lies anywhere -/
def RowRR (A : Nat → Prop) (x : List UInt8) (w : World) (e : Ending) (w' : World) : Prop := ∃ a c, e = .returned (.slice a x.length c) ∧ RB (UpA A w) w' (.slice a x.length c) x ∧ Below w.heap.size w w'
theorem atD_hit {o : ObD} {nm : ByteArray} {k : Nat} (h : k ≤ ixN (fromB nm) o.keys) (hlt : k < o.keys.length) (hx : fromB nm o.keys[k] = true) : atD o nm = (o.keys[k]).value := by
  unfold atD
  rcases ix_ways (fromB nm) o.keys with ⟨e1, e2⟩ | ⟨j, hj, e1, e2⟩
  · have := List.find?_eq_none.1 e2 _ (List.getElem_mem hlt)
    simp [hx] at this
  · have h1 := ixR_hit h hlt hx
    obtain rfl : j = k := by rw [h1] at e1; omega
    rw [e2]
theorem atD_miss {o : ObD} {nm : ByteArray} (h : o.keys.length ≤ ixN (fromB nm) o.keys) : atD o nm = o.data := by
  unfold atD
  have h1 := ixR_none h
  rcases ix_ways (fromB nm) o.keys with ⟨e1, e2⟩ | ⟨j, hj, e1, e2⟩
  · rw [e2]
  · rw [h1] at e1; omega
/-- whether a key begins as a name does, and is not ahead of it: the ways -/
theorem from_ways (nm : ByteArray) (ky : KyD) :
    (fromB nm ky = false ∧ Op.bytesLess ky.name.toList nm.toList = true) ∨
    (fromB nm ky = false ∧ Op.bytesLess ky.name.toList nm.toList = false ∧ nm.size = 0) ∨
    (fromB nm ky = false ∧ Op.bytesLess ky.name.toList nm.toList = false ∧ 0 < nm.size ∧ ky.name.size = 0) ∨
    (Op.bytesLess ky.name.toList nm.toList = false ∧ ∃ h : 0 < nm.size, ∃ h2 : 0 < ky.name.size, fromB nm ky = decide ((ky.name[0].toNat : Int) = nm[0].toNat)) := by
  cases h1 : Op.bytesLess ky.name.toList nm.toList with
  | true => exact .inl ⟨by simp [fromB, ltS, h1], rfl⟩
  | false =>
    rcases Nat.eq_zero_or_pos nm.size with h2 | h2
    · exact .inr (.inl ⟨by simp [fromB, h2], rfl, h2⟩)
    · rcases Nat.eq_zero_or_pos ky.name.size with h3 | h3
      · exact .inr (.inr (.inl ⟨by simp [fromB, h3], rfl, h2, h3⟩))
      · refine .inr (.inr (.inr ⟨rfl, h2, h3, ?_⟩))
        have a0 := b0_at h3
        have b0 := b0_at h2
        have e : ((ky.name[0].toNat : Int) = nm[0].toNat) ↔ ky.name[0] = nm[0] := by
          rw [← UInt8.toNat_inj]; omega
        simp only [fromB, ltS, h1, Nat.ne_of_gt h2, Nat.ne_of_gt h3, a0, b0, decide_false, Bool.not_false, Bool.and_self, Bool.true_and]
        rw [Bool.eq_iff_iff, beq_iff_eq, decide_eq_true_eq, e]
        simp
set_option maxRecDepth 100000 in
set_option maxHeartbeats 4000000 in
theorem rat_any (A : Nat → Prop) (v : Value) (o : ObD) (nm : ByteArray) (w : World) (hv : ObV A w v o) (hl : o.keys.length ≤ 100000) :
    Calls Tryz.prog 60 #[v, .string nm] w (RowRR A (atD o nm) w) := by
  obtain ⟨dv, kv, rfl, hd, hk⟩ := hv
  obtain ⟨da, dc, rfl⟩ := hd.shape
  obtain ⟨ka, kc, rfl⟩ := hk.shape
  have HAT : Hid (∀ k, k ≤ ixN (fromB nm) o.keys → (hlt : k < o.keys.length) → fromB nm o.keys[k] = true → atD o nm = (o.keys[k]).value) := Lib.hid fun k h1 h2 h3 => atD_hit h1 h2 h3
  have HAM : Hid (o.keys.length ≤ ixN (fromB nm) o.keys → atD o nm = o.data) := Lib.hid atD_miss
  generalize atD o nm = R at *
  obtain ⟨od, ks, os⟩ := o
  simp only at *
  have HK := Lib.hid hk
  have HD := Lib.hid hd
  clear hd hk
  go_enter Tryz.func60, Tryz.ntmps60
  go_wp2
  obtain ⟨w0, hw0⟩ : ∃ w0, w0 = w.alloc (.cells #[.slice da od.length dc, .slice ka ks.length kc, .int .i64 os] 25) := ⟨_, rfl⟩
  rw [← hw0]
  have B0 : w0.heap[w.heap.size]? = some (.cells #[.slice da od.length dc, .slice ka ks.length kc, .int .i64 os] 25 (0, 0)) := by rw [hw0]; exact heap_alloc_new _ _
  have hw : Below w.heap.size w w0 := by rw [hw0]; ((repeat' (first | exact Below.refl _ _ | refine below_drewN ?_ _ | refine Below.drew ?_ | refine Below.alloc ?_ ?_ _ | refine Below.trans ?_ (Below.mono (by assumption) ?_))); all_goals (first | exact Nat.le_refl _ | exact Below.size (by assumption) | omega | (simp; done) | (simp; omega)))
  have HK0 := Lib.hid (HK.out.ext hw)
  have HD0 : Hid (RB (UpA A w) w0 _ od) := Lib.hid ((RB.ext HD.out hw).weak fun _ _ h => .inl h)
  have HW := Lib.hid hw
  obtain ⟨x0, f0⟩ := blk_cell (i := 0) B0
  obtain ⟨x1, f1⟩ := blk_cell (i := 1) B0
  simp at x0 x1
  clear hw0 hw B0 HK HD
  go_loopw [5] (fun i wr => ∃ k : Nat, k ≤ ks.length ∧ i = .int .i64 k ∧ k ≤ ixN (fromB nm) ks ∧ ∃ n, wr = w0.drewN n) (fun i _ => ks.length - (intOf i).toNat)
  case atStart => exact ⟨0, Nat.zero_le _, rfl, Nat.zero_le _, 0, rfl⟩
  case round =>
    obtain ⟨k, hk, rfl, hix, nq, rfl⟩ := hrel
    have HIX := Lib.hid hix
    clear hix
    by_cases hlt : k < ks.length
    · obtain ⟨b, off, v, rfl, hb, -, c3, c4, hv⟩ := Keys.at HK0.out hlt
      obtain ⟨va, vc, rfl⟩ := hv.shape
      have HV : Hid (RB (UpA A w) w0 (.slice va (ks[k]).value.length vc) (ks[k]).value) := Lib.hid (hv.weak fun _ _ h => .inl h)
      have HMI : Hid (fromB nm ks[k] = false → k + 1 ≤ ixN (fromB nm) ks) := Lib.hid fun h => ixN_miss HIX.out hlt h
      have HYE : Hid (fromB nm ks[k] = true → R = (ks[k]).value) := Lib.hid fun h => HAT.out k HIX.out hlt h
      generalize hky : ks[k] = ky at *
      clear hky hv
      rcases from_ways nm ky with ⟨e1, h1⟩ | ⟨e1, h1, h2⟩ | ⟨e1, h1, h2, h3⟩ | ⟨h1, h2, h3, e1⟩
      · have HX : Hid (k + 1 ≤ ixN (fromB nm) ks) := Lib.hid (HMI.out e1)
        clear e1
        go_wp2
        go_big_quiet (fail)
        go_wp2
        go_roundw
        case rel => exact ⟨k + 1, by omega, by go_num, HX.out, _, rfl⟩
        case measure => simp [intOf]; omega
      · have HX : Hid (k + 1 ≤ ixN (fromB nm) ks) := Lib.hid (HMI.out e1)
        have hd1 : decide ((0 : Int) < nm.size) = false := decide_eq_false (by omega)
        have hd2 : decide (0 < nm.size) = false := decide_eq_false (by omega)
        clear e1 h2
        go_wp2
        go_big_quiet (fail)
        go_wp2
        go_roundw
        case rel => exact ⟨k + 1, by omega, by go_num, HX.out, _, rfl⟩
        case measure => simp [intOf]; omega
      · have HX : Hid (k + 1 ≤ ixN (fromB nm) ks) := Lib.hid (HMI.out e1)
        have hd1 : decide ((0 : Int) < nm.size) = true := decide_eq_true (by omega)
        have hd2 : decide (0 < nm.size) = true := decide_eq_true (by omega)
        have hd3 : decide ((0 : Int) < ky.name.size) = false := decide_eq_false (by omega)
        have hd4 : decide (0 < ky.name.size) = false := decide_eq_false (by omega)
        clear e1 h2 h3
        go_wp2
        go_big_quiet (fail)
        go_wp2
        go_roundw
        case rel => exact ⟨k + 1, by omega, by go_num, HX.out, _, rfl⟩
        case measure => simp [intOf]; omega
      · have hd1 : decide ((0 : Int) < nm.size) = true := decide_eq_true (by omega)
        have hd2 : decide (0 < nm.size) = true := decide_eq_true (by omega)
        have hd3 : decide ((0 : Int) < ky.name.size) = true := decide_eq_true (by omega)
        have hd4 : decide (0 < ky.name.size) = true := decide_eq_true (by omega)
        by_cases hq : (ky.name[0].toNat : Int) = nm[0].toNat
        · have HX : Hid (R = ky.value) := Lib.hid (HYE.out (by rw [e1]; simpa using hq))
          have hqd : decide ((ky.name[0].toNat : Int) = nm[0].toNat) = true := by simpa using hq
          have hqe : (((ky.name[0].toNat : Int)) == nm[0].toNat) = true := by simpa using hq
          have hqf : (ky.name[0].toNat == nm[0].toNat) = true := by simp; omega
          clear e1 hq
          go_wp2
          go_big_quiet (fail)
          go_wp2
          go_ret
          show RowRR _ _ _ _ _
          rw [HX.out]
          exact ⟨_, _, rfl, RB.ext HV.out (below_drewN (Below.refl _ _) _), below_drewN HW.out _⟩
        · have HX : Hid (k + 1 ≤ ixN (fromB nm) ks) := Lib.hid (HMI.out (by rw [e1]; simpa using hq))
          have hqd : decide ((ky.name[0].toNat : Int) = nm[0].toNat) = false := by simpa using hq
          have hqe : (((ky.name[0].toNat : Int)) == nm[0].toNat) = false := by simpa using hq
          have hqf : (ky.name[0].toNat == nm[0].toNat) = false := by simp; omega
          clear e1 hq
          go_wp2
          go_big_quiet (fail)
          go_wp2
          go_roundw
          case rel => exact ⟨k + 1, by omega, by go_num, HX.out, _, rfl⟩
          case measure => simp [intOf]; omega
    · have HX : Hid (R = od) := Lib.hid (HAM.out (by have := HIX.out; omega))
      go_wp2
      go_ret
      show RowRR _ _ _ _ _
      rw [HX.out]
      exact ⟨_, _, rfl, RB.ext HD0.out (below_drewN (Below.refl _ _) _), below_drewN HW.out _⟩
end Go.Proofs.YtgdilkhaopnhaaaGreatDoor
