/- The walks of object.data: noughts, cuts. -/
import Derived.Test.YtohfckkgmijlnaaGreatDoorPF
namespace Go.Proofs.YtohfckkgmijlnaaGreatDoor
open Go.RowKit Go.WideShapes Go.Lib

theorem zero_eq (l : List UInt8) (f m : Nat) (h : f < l.length) : l.take f ++ List.replicate (min (f + m) l.length - f) 0 ++ l.drop (f + (List.replicate (min (f + m) l.length - f) (0 : UInt8)).length) = zeroD l f m := by
  unfold zeroD
  congr 1
  rw [List.length_replicate]
  rcases Nat.lt_or_ge (f + m) l.length with h1 | h1
  · congr 1; omega
  · rw [List.drop_of_length_le (by omega), List.drop_of_length_le (by omega)]
theorem zero_none (l : List UInt8) (f m : Nat) (h : l.length ≤ f ∨ m = 0) : zeroD l f m = l := by
  unfold zeroD
  rcases h with h | rfl
  · rw [List.take_of_length_le h, List.drop_of_length_le (by omega), show min (f + m) l.length - f = 0 by omega]
    simp
  · rw [Nat.add_zero, show min f l.length - f = 0 by omega]
    simp
theorem rep_map (k : Nat) : (List.replicate k (0 : UInt8)).map bv = List.replicate k (Value.int .u8 0) := by rw [List.map_replicate]; rfl
theorem clear_none (w : World) (ty : TypeId) (a : Option Addr) (c : Nat) : (Builtin.clear_ #[38] ty #[.slice a 0 c]).run Tryz.prog w = .ok (.tuple #[]) w := by
  cases a <;> simp [Builtin.clear_, run_underlying Tryz.underlying38]
set_option maxRecDepth 100000 in
set_option maxHeartbeats 8000000 in
theorem data_zero (base pb : Nat) (dv kv : Value) (o : ObD) (off n : Int) (nm : ByteArray) (oa : Option Addr) (ol oc : Nat) (d : List UInt8) (w : World)
    (hO : IsO base pb w dv kv o) (hol : o.data.length ≤ 1000) :
    Calls Tryz.prog 83 #[.pointer (some ⟨pb, 0, none⟩), opV 6 off n nm oa ol oc] w (ChR base pb 6 (changeB o ⟨6, off, n, nm, d⟩) w) := by
  have hr := fun W => refuse_any 6 off n nm oa ol oc 2 W
  unfold opV at hr ⊢
  have hlt := hO.lt
  have hle := hO.le
  obtain ⟨a0, c0, rfl⟩ : ∃ a c, dv = .slice a o.data.length c := hO.own.data.rb.shape
  have HO := Lib.hid hO
  have hpl : pb < w.heap.size := by omega
  clear hO
  have HC : Hid (changeB o ⟨6, off, n, nm, d⟩ = if spotB off n then some ⟨zeroD o.data off.toNat n.toNat, o.keys, o.seq⟩ else none) := rfl
  cases hs : spotB off n with
  | false =>
    have HX : Hid (changeB o ⟨6, off, n, nm, d⟩ = none) := by show changeB _ _ = none; rw [HC.out, hs]; rfl
    go_enter Tryz.func83, Tryz.ntmps83
    go_wp2
    go_quiet (fail)
    go_wp2_with (go_at_call 107; refine (spot_any _ _ _).mono ?_; rintro e w' ⟨rfl, rfl⟩; rw [hs]; clear hs)
    refine (hr _).mono ?_
    rintro e w3 ⟨rfl, hb3⟩
    have HB3 : Hid (Below w.heap.size w w3) := Lib.hid (Below.trans (by ((repeat' (first | exact Below.refl _ _ | refine below_drewN ?_ _ | refine Below.drew ?_ | refine Below.alloc ?_ ?_ _ | refine Below.trans ?_ (Below.mono (by assumption) ?_))); all_goals (first | exact Nat.le_refl _ | exact Below.size (by assumption) | omega | (simp; done) | (simp; omega)))) (hb3.mono (by simp; try omega)))
    clear hb3
    go_wp2
    go_ret
    exact ChR.no HX.out (Fr.ext HB3.out)
  | true =>
    obtain ⟨f, m, rfl, rfl, hfm⟩ := spot_nat hs
    have HX : Hid (changeB o ⟨6, f, m, nm, d⟩ = some ⟨zeroD o.data f m, o.keys, o.seq⟩) := by show changeB _ _ = _; rw [HC.out, hs]; simp
    go_enter Tryz.func83, Tryz.ntmps83
    go_wp2
    go_quiet (fail)
    obtain ⟨w1, hw1⟩ : ∃ w1, w1 = (w.alloc (.cells #[.int .i64 6, .int .i64 (f : Int), .int .i64 (m : Int), .string nm, .slice oa ol oc] 57)).drewN nq := ⟨_, rfl⟩
    rw [← hw1]
    have hb1 : Below w.heap.size w w1 := by rw [hw1]; ((repeat' (first | exact Below.refl _ _ | refine below_drewN ?_ _ | refine Below.drew ?_ | refine Below.alloc ?_ ?_ _ | refine Below.trans ?_ (Below.mono (by assumption) ?_))); all_goals (first | exact Nat.le_refl _ | exact Below.size (by assumption) | omega | (simp; done) | (simp; omega)))
    have K1 : w1.heap[w.heap.size]? = some (.cells #[.int .i64 6, .int .i64 (f : Int), .int .i64 (m : Int), .string nm, .slice oa ol oc] 57 (0, 0)) := by rw [hw1]; exact heap_alloc_new _ _
    have hO1 := HO.out.ext hb1
    have HB1 := Lib.hid hb1
    have hwl1 : w.heap.size < w1.heap.size := (Array.getElem?_eq_some_iff.1 K1).1
    have hpl1 : pb < w1.heap.size := by omega
    obtain ⟨x0, f0⟩ := blk_cell (i := 0) hO1.blk
    obtain ⟨z0, g0⟩ := blk_cell (i := 0) K1
    simp at x0 z0
    have HP1 := Lib.hid hO1.blk
    have HD1 := Lib.hid hO1.own.data
    clear hw1 hb1 K1 hO1
    generalize hL : o.data.length = L at *
    have HLL := Lib.hid hL
    clear hL
    have hcap : L ≤ c0 := by
      rcases HD1.out.2 with ⟨e, h⟩ | ⟨g, cap, cur, e, -, -, h, -⟩
      · simp only [Value.slice.injEq] at e; omega
      · simp only [Value.slice.injEq] at e; omega
    by_cases hdo : f < L ∧ 0 < m
    · obtain ⟨hfL, hm0⟩ := hdo
      obtain ⟨ga, cur, rfl, hbg, hg, hcs, hcm⟩ : ∃ g cur, a0 = some ⟨g, 0, none⟩ ∧ base ≤ g ∧ w1.heap[g]? = some (.cells cur 5 (0, 0)) ∧ cur.size = c0 ∧ True := by
        rcases HD1.out.2 with ⟨e, h⟩ | ⟨g, cap, cur, e, h1, h2, -, -, h3, -⟩
        · simp only [Value.slice.injEq] at e; omega
        · simp only [Value.slice.injEq] at e
          exact ⟨g, cur, e.1, h1, h2, by omega, trivial⟩
      obtain ⟨k, hk⟩ : ∃ k, k = min (f + m) L - f := ⟨_, rfl⟩
      have hk0 : 0 < k := by omega
      have hfk : f + k ≤ L := by omega
      have hmin1 : min (f : Int) (L : Int) = f := by omega
      have hmin2 : min ((f : Int) + m) (L : Int) = (f : Int) + k := by omega
      obtain ⟨w5, hw5⟩ : ∃ w5, w5 = w1.drew.setRow ga (cur.toList.take f ++ List.replicate k (Value.int .u8 0) ++ cur.toList.drop (f + k)).toArray := ⟨_, rfl⟩
      have CL : ∀ ty, (Builtin.clear_ #[38] ty #[.slice (some ⟨ga, f, none⟩) k (c0 - f)]).run Tryz.prog w1.drew = .ok (.tuple #[]) w5 := fun ty => by
        rw [hw5]
        exact run_clear_fr1 w1.drew ty ga f k (c0 - f) hk0 cur 5 hg (by omega)
      have HEND : Hid (IsO base pb w5 (.slice (some ⟨ga, 0, none⟩) L c0) kv ⟨zeroD o.data f m, o.keys, o.seq⟩ ∧ Fr (Chg base pb) w w5) := by
        have hov := OB.over (w := w1.drew) (off := f) (x := List.replicate k 0) HD1.out hg (by have := HLL.out; simp; omega)
        rw [rep_map, List.length_replicate] at hov
        have hF : Fr (fun k => k = pb ∨ some k = (Value.slice (some ⟨ga, 0, none⟩) L c0).ownBlock) w w5 := by
          rw [hw5]
          exact (Fr.trans (S := fun k => k = ga) (T := fun k => k = ga) (Fr.ext HB1.out).drew (setRow_fr w1.drew ga _) (fun _ _ h => h)).weaken fun b _ h => .inr (by rw [h]; rfl)
        refine data_end HO.out ?_ ?_ hF (.inl rfl)
        · rw [hw5]
          exact (setRow_other w1.drew ga pb _ (by omega)).trans HP1.out
        · rw [hw5, ← zero_eq o.data f m (by have := HLL.out; omega)]
          have e : min (f + m) o.data.length - f = k := by rw [HLL.out, hk]
          rw [e]
          exact (by simpa using hov)
      have hcf : ¬ c0 = f := by omega
      have hsub : f + k - f = k := by omega
      have hfki : (f : Int) + k ≤ L := by omega
      have hfkt : ((f : Int) + k).toNat = f + k := by omega
      clear hw5 hk hg hcs HD1
      go_wp2_with (go_at_call 107; refine (spot_any _ _ _).mono ?_; rintro e w' ⟨rfl, rfl⟩; rw [hs]; clear hs)
      go_region
      all_goals
        go_wp2
        go_ret
        exact ChR.yes HX.out HEND.out.1 HEND.out.2
    · obtain ⟨lo, hlo⟩ : ∃ lo, lo = min f L := ⟨_, rfl⟩
      have hmin1 : min (f : Int) (L : Int) = lo := by omega
      have hmin2 : min ((f : Int) + m) (L : Int) = lo := by omega
      have hloL : lo ≤ L := by omega
      have CL := fun ty a c => clear_none w1.drew ty a c
      have HEND : Hid (IsO base pb w1.drew (.slice a0 L c0) kv ⟨zeroD o.data f m, o.keys, o.seq⟩ ∧ Fr (Chg base pb) w w1.drew) := by
        rw [zero_none o.data f m (by have := HLL.out; omega)]
        exact ⟨HO.out.ext ((HB1.out).drew), (Fr.ext HB1.out).drew⟩
      rcases a0 with _ | ⟨ga, go_, gs⟩
      · have hL0 : L = 0 := by
          rcases HD1.out.2 with ⟨e, h⟩ | ⟨g, cap, cur, e, -⟩
          · simp only [Value.slice.injEq] at e; omega
          · simp at e
        have hc0 : c0 = 0 := by
          rcases HD1.out.2 with ⟨e, h⟩ | ⟨g, cap, cur, e, -⟩
          · simp only [Value.slice.injEq] at e; omega
          · simp at e
        obtain rfl : lo = 0 := by omega
        subst hL0 hc0
        clear hlo HD1 hmin1 hmin2
        have hm1 : min (f : Int) 0 = 0 := by omega
        have hm2 : min ((f : Int) + m) 0 = 0 := by omega
        go_wp2_with (go_at_call 107; refine (spot_any _ _ _).mono ?_; rintro e w' ⟨rfl, rfl⟩; rw [hs]; clear hs)
        go_region
        all_goals
          go_wp2
          go_ret
          exact ChR.yes HX.out HEND.out.1 HEND.out.2
      · obtain ⟨rfl, rfl⟩ : go_ = 0 ∧ gs = none := by
          rcases HD1.out.2 with ⟨e, -⟩ | ⟨g, cap, cur, e, -⟩
          · simp at e
          · simp only [Value.slice.injEq, Option.some.injEq, Addr.mk.injEq] at e
            exact ⟨e.1.2.1, e.1.2.2⟩
        by_cases hcl : c0 = lo
        · subst hcl
          clear hlo HD1
          go_wp2_with (go_at_call 107; refine (spot_any _ _ _).mono ?_; rintro e w' ⟨rfl, rfl⟩; rw [hs]; clear hs)
          go_region
          all_goals
            go_wp2
            go_ret
            exact ChR.yes HX.out HEND.out.1 HEND.out.2
        · clear hlo HD1
          go_wp2_with (go_at_call 107; refine (spot_any _ _ _).mono ?_; rintro e w' ⟨rfl, rfl⟩; rw [hs]; clear hs)
          go_region
          all_goals
            go_wp2
            go_ret
            exact ChR.yes HX.out HEND.out.1 HEND.out.2
theorem spot_nat0 {n : Int} (h : spotB 0 n = true) : ∃ m : Nat, n = m ∧ m ≤ 64 := by
  obtain ⟨f, m, h1, h2, h3⟩ := spot_nat h
  exact ⟨m, h2, by omega⟩
set_option maxRecDepth 100000 in
set_option maxHeartbeats 8000000 in
theorem data_cut (base pb : Nat) (dv kv : Value) (o : ObD) (off n : Int) (nm : ByteArray) (oa : Option Addr) (ol oc : Nat) (d : List UInt8) (w : World)
    (hO : IsO base pb w dv kv o) (_hol : o.data.length ≤ 1000) :
    Calls Tryz.prog 83 #[.pointer (some ⟨pb, 0, none⟩), opV 7 off n nm oa ol oc] w (ChR base pb 7 (changeB o ⟨7, off, n, nm, d⟩) w) := by
  have hr := fun W => refuse_any 7 off n nm oa ol oc 2 W
  unfold opV at hr ⊢
  have hlt := hO.lt
  have hle := hO.le
  obtain ⟨a0, c0, rfl⟩ : ∃ a c, dv = .slice a o.data.length c := hO.own.data.rb.shape
  have HO := Lib.hid hO
  have hpl : pb < w.heap.size := by omega
  clear hO
  have HC : Hid (changeB o ⟨7, off, n, nm, d⟩ = if spotB 0 n then some ⟨o.data.take n.toNat, o.keys, o.seq⟩ else none) := rfl
  cases hs : spotB 0 n with
  | false =>
    have HX : Hid (changeB o ⟨7, off, n, nm, d⟩ = none) := by show changeB _ _ = none; rw [HC.out, hs]; rfl
    go_enter Tryz.func83, Tryz.ntmps83
    go_wp2
    go_quiet (fail)
    go_wp2_with (go_at_call 107; refine (spot_any _ _ _).mono ?_; rintro e w' ⟨rfl, rfl⟩; rw [hs]; clear hs)
    refine (hr _).mono ?_
    rintro e w3 ⟨rfl, hb3⟩
    have HB3 : Hid (Below w.heap.size w w3) := Lib.hid (Below.trans (by ((repeat' (first | exact Below.refl _ _ | refine below_drewN ?_ _ | refine Below.drew ?_ | refine Below.alloc ?_ ?_ _ | refine Below.trans ?_ (Below.mono (by assumption) ?_))); all_goals (first | exact Nat.le_refl _ | exact Below.size (by assumption) | omega | (simp; done) | (simp; omega)))) (hb3.mono (by simp; try omega)))
    clear hb3
    go_wp2
    go_ret
    exact ChR.no HX.out (Fr.ext HB3.out)
  | true =>
    obtain ⟨m, rfl, hfm⟩ := spot_nat0 hs
    have HX : Hid (changeB o ⟨7, off, m, nm, d⟩ = some ⟨o.data.take m, o.keys, o.seq⟩) := by show changeB _ _ = _; rw [HC.out, hs]; simp
    go_enter Tryz.func83, Tryz.ntmps83
    go_wp2
    go_quiet (fail)
    obtain ⟨w1, hw1⟩ : ∃ w1, w1 = (w.alloc (.cells #[.int .i64 7, .int .i64 off, .int .i64 (m : Int), .string nm, .slice oa ol oc] 57)).drewN nq := ⟨_, rfl⟩
    rw [← hw1]
    have hb1 : Below w.heap.size w w1 := by rw [hw1]; ((repeat' (first | exact Below.refl _ _ | refine below_drewN ?_ _ | refine Below.drew ?_ | refine Below.alloc ?_ ?_ _ | refine Below.trans ?_ (Below.mono (by assumption) ?_))); all_goals (first | exact Nat.le_refl _ | exact Below.size (by assumption) | omega | (simp; done) | (simp; omega)))
    have K1 : w1.heap[w.heap.size]? = some (.cells #[.int .i64 7, .int .i64 off, .int .i64 (m : Int), .string nm, .slice oa ol oc] 57 (0, 0)) := by rw [hw1]; exact heap_alloc_new _ _
    have hO1 := HO.out.ext hb1
    have HB1 := Lib.hid hb1
    have hwl1 : w.heap.size < w1.heap.size := (Array.getElem?_eq_some_iff.1 K1).1
    have hpl1 : pb < w1.heap.size := by omega
    obtain ⟨x0, f0⟩ := blk_cell (i := 0) hO1.blk
    obtain ⟨z0, g0⟩ := blk_cell (i := 0) K1
    simp at x0 z0
    have HP1 := Lib.hid hO1.blk
    have HD1 := Lib.hid hO1.own.data
    clear hw1 hb1 K1 hO1
    generalize hL : o.data.length = L at *
    have HLL := Lib.hid hL
    clear hL
    have hcap : L ≤ c0 := by
      rcases HD1.out.2 with ⟨e, h⟩ | ⟨g, cap, cur, e, -, -, h, -⟩
      · simp only [Value.slice.injEq] at e; omega
      · simp only [Value.slice.injEq] at e; omega
    obtain ⟨k, hk⟩ : ∃ k, k = min m L := ⟨_, rfl⟩
    have hmin : min (m : Int) (L : Int) = k := by omega
    have hkL : k ≤ L := by omega
    have hkc : k ≤ c0 := by omega
    have HEND : Hid (IsO base pb (w1.drew.setCell ⟨pb, 0, none⟩ (.slice a0 k c0)) (.slice a0 k c0) kv ⟨o.data.take m, o.keys, o.seq⟩ ∧ Fr (Chg base pb) w (w1.drew.setCell ⟨pb, 0, none⟩ (.slice a0 k c0))) := by
      have hb : w1.drew.heap[pb]? = _ := HP1.out
      have hset := set_blk3 (w := w1.drew) (j := 0) (v := .slice a0 k c0) hb
      refine data_end HO.out (by simpa using hset) ?_ (((Fr.ext HB1.out).drew).setCell (a := ⟨pb, 0, none⟩) (fun _ => .inl rfl) _) ?_
      · have h1 : OB base w1.drew (.slice a0 L c0) o.data := HD1.out
        have h2 := (h1.cutN hkL).keep (w' := w1.drew.setCell ⟨pb, 0, none⟩ (.slice a0 k c0)) fun b hb => Below.heap_setCell _ ⟨pb, 0, none⟩ _ _ (by
          have : (Value.slice a0 L c0).ownBlock = some b := by
            cases a0 with
            | none => cases hb
            | some p => exact hb
          have := (HD1.out.lt b this).1
          show b ≠ pb; omega)
        have e : o.data.take m = o.data.take k := by
          rw [hk, ← HLL.out]
          rcases Nat.lt_or_ge m o.data.length with h | h
          · rw [show min m o.data.length = m by omega]
          · rw [show min m o.data.length = o.data.length by omega, List.take_of_length_le h, List.take_of_length_le (Nat.le_refl _)]
        rw [e]
        exact h2
      · left
        cases a0 <;> rfl
    clear hk HD1
    rcases a0 with _ | ⟨ga, go_, gs⟩
    · go_wp2_with (go_at_call 107; refine (spot_any _ _ _).mono ?_; rintro e w' ⟨rfl, rfl⟩; rw [hs]; clear hs)
      go_region
      all_goals
        go_wp2
        go_ret
        exact ChR.yes HX.out HEND.out.1 HEND.out.2
    · go_wp2_with (go_at_call 107; refine (spot_any _ _ _).mono ?_; rintro e w' ⟨rfl, rfl⟩; rw [hs]; clear hs)
      go_region
      all_goals
        go_wp2
        go_ret
        exact ChR.yes HX.out HEND.out.1 HEND.out.2
end Go.Proofs.YtohfckkgmijlnaaGreatDoor
