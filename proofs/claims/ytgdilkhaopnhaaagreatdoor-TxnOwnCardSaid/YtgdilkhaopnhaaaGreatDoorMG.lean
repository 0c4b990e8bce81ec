/- The walks of object.data, kind by kind. The walks of object.data: noughts, cuts. -/
import Derived.Test.YtgdilkhaopnhaaaGreatDoorByt8
import Derived.BigRegion
namespace Go.Proofs.YtgdilkhaopnhaaaGreatDoor
open Go.RowKit Go.WideShapes Go.Lib

theorem write_eq (l d : List UInt8) (f : Nat) : ((l ++ List.replicate (f + d.length - l.length) 0).take f ++ d ++ (l ++ List.replicate (f + d.length - l.length) (0 : UInt8)).drop (f + d.length)) = writeD l f d := by
  unfold writeD
  congr 1
  rcases Nat.lt_or_ge l.length (f + d.length) with h | h
  · rw [List.drop_of_length_le (by simp; omega), List.drop_of_length_le (by omega)]
  · rw [show f + d.length - l.length = 0 by omega]
    simp
theorem hn8x : Hid ((Tryz.prog.info? 5).map (·.size) = some 1) := by
  show _ = _
  kernel_rfl
set_option maxRecDepth 100000 in
set_option maxHeartbeats 8000000 in
theorem data_write (base pb : Nat) (dv kv : Value) (o : ObD) (off n : Int) (nm : ByteArray) (A : Nat → Prop) (oa : Option Addr) (oc : Nat) (d : List UInt8) (w : World)
    (hO : IsO base pb w dv kv o) (hol : o.data.length ≤ 1000) (hd : RB A w (.slice oa d.length oc) d) (hl : d.length ≤ 50000) (hA : ∀ b, A b → b ≠ pb ∧ dv.ownBlock ≠ some b) :
    Calls Tryz.prog 86 #[.pointer (some ⟨pb, 0, none⟩), opV 5 off n nm oa d.length oc] w (ChR base pb 5 (changeB o ⟨5, off, n, nm, d⟩) w) := by
  have hr := fun W => refuse_any 5 off n nm oa d.length oc 2 W
  unfold opV at hr ⊢
  have hlt := hO.lt
  have hle := hO.le
  obtain ⟨a0, c0, rfl⟩ : ∃ a c, dv = .slice a o.data.length c := hO.own.data.rb.shape
  have HO := Lib.hid hO
  have HV := Lib.hid hd
  have HA := Lib.hid hA
  have hpl : pb < w.heap.size := by omega
  clear hO hd hA
  have HC : Hid (changeB o ⟨5, off, n, nm, d⟩ = if spotB off d.length then some ⟨writeD o.data off.toNat d, o.keys, o.seq⟩ else none) := rfl
  cases hs : spotB off d.length with
  | false =>
    have HX : Hid (changeB o ⟨5, off, n, nm, d⟩ = none) := by show changeB _ _ = none; rw [HC.out, hs]; rfl
    go_enter Tryz.func86, Tryz.ntmps86
    go_wp2
    go_quiet (fail)
    go_wp2_with (go_at_call 99; refine (spot_any _ _ _).mono ?_; rintro e w' ⟨rfl, rfl⟩; rw [hs]; clear hs)
    refine (hr _).mono ?_
    rintro e w3 ⟨rfl, hb3⟩
    have HB3 : Hid (Below w.heap.size w w3) := Lib.hid (Below.trans (by ((repeat' (first | exact Below.refl _ _ | refine below_drewN ?_ _ | refine Below.drew ?_ | refine Below.alloc ?_ ?_ _ | refine Below.trans ?_ (Below.mono (by assumption) ?_))); all_goals (first | exact Nat.le_refl _ | exact Below.size (by assumption) | omega | (simp; done) | (simp; omega)))) (hb3.mono (by simp; try omega)))
    clear hb3
    go_wp2
    go_ret
    exact ChR.no HX.out (Fr.ext HB3.out)
  | true =>
    obtain ⟨f, m, rfl, hm, hfm⟩ := spot_nat hs
    have hm' : d.length = m := by omega
    clear hm
    have HX : Hid (changeB o ⟨5, f, n, nm, d⟩ = some ⟨writeD o.data f d, o.keys, o.seq⟩) := by show changeB _ _ = _; rw [HC.out, hs]; simp
    have hfd : f + d.length ≤ 64 := by omega
    clear hm' hfm
    go_enter Tryz.func86, Tryz.ntmps86
    go_wp2
    go_quiet (fail)
    obtain ⟨w1, hw1⟩ : ∃ w1, w1 = (w.alloc (.cells #[.int .i64 5, .int .i64 (f : Int), .int .i64 n, .string nm, .slice oa d.length oc] 43)).drewN nq := ⟨_, rfl⟩
    rw [← hw1]
    have hb1 : Below w.heap.size w w1 := by rw [hw1]; ((repeat' (first | exact Below.refl _ _ | refine below_drewN ?_ _ | refine Below.drew ?_ | refine Below.alloc ?_ ?_ _ | refine Below.trans ?_ (Below.mono (by assumption) ?_))); all_goals (first | exact Nat.le_refl _ | exact Below.size (by assumption) | omega | (simp; done) | (simp; omega)))
    have K1 : w1.heap[w.heap.size]? = some (.cells #[.int .i64 5, .int .i64 (f : Int), .int .i64 n, .string nm, .slice oa d.length oc] 43 (0, 0)) := by rw [hw1]; exact heap_alloc_new _ _
    have hO1 := HO.out.ext hb1
    have HO1 := Lib.hid hO1
    have HB1 := Lib.hid hb1
    have HK1 := Lib.hid K1
    have hwl1 : w.heap.size < w1.heap.size := (Array.getElem?_eq_some_iff.1 K1).1
    have hpl1 : pb < w1.heap.size := by omega
    obtain ⟨x0, f0⟩ := blk_cell (i := 0) hO1.blk
    obtain ⟨z0, g0⟩ := blk_cell (i := 0) K1
    obtain ⟨z4, g4⟩ := blk_cell (i := 4) K1
    simp at x0 z0 z4
    have HP1 := Lib.hid hO1.blk
    have HD1 := Lib.hid hO1.own.data
    clear hw1 hb1 K1 hO1
    rcases Nat.lt_or_ge o.data.length (f + d.length) with hgr | hgr
    · have hcast : (f : Int) + d.length - o.data.length = ((f + d.length - o.data.length : Nat) : Int) := by omega
      obtain ⟨v2, w2, hrun, hd2, hf2, hat2⟩ := app_zeros base (.slice a0 o.data.length c0) o.data (f + d.length - o.data.length) w1 HD1.out HO1.out.le (by omega) (by omega)
      rw [← hcast] at hrun
      clear hcast
      obtain ⟨L, hL⟩ : ∃ L, L = f + d.length := ⟨_, rfl⟩
      have hgt : (0 : Int) < (f : Int) + d.length - o.data.length := by omega
      have hlen2 : (o.data ++ List.replicate (f + d.length - o.data.length) (0 : UInt8)).length = L := by simp; omega
      obtain ⟨a3, c3, rfl⟩ : ∃ a c, v2 = .slice a L c := by
        obtain ⟨a, c, e⟩ := hd2.rb.shape
        exact ⟨a, c, by rw [e, hlen2]⟩
      have hp2 : w2.heap[pb]? = _ := (hf2.block pb hpl1 (fun e => by have := (HD1.out.lt _ e.symm).1; omega)).trans HP1.out
      have hk2 : w2.heap[w.heap.size]? = _ := (hf2.block w.heap.size hwl1 (fun e => by have := (HD1.out.lt _ e.symm).1; have := HO.out.own.data.lt _ e.symm; omega)).trans HK1.out
      have hp2' : w2.heap[pb]? = some (.cells #[.slice a0 o.data.length c0, kv, .int .i64 o.seq] 25 (0, 0)) := hp2
      obtain ⟨xx, ff⟩ := blk_cell (i := 0) hp2'
      simp at xx
      obtain ⟨w3, hw3⟩ : ∃ w3, w3 = w2.setCell ⟨pb, 0, none⟩ (.slice a3 L c3) := ⟨_, rfl⟩
      have HP3 : Hid (w3.heap[pb]? = some (.cells #[.slice a3 L c3, kv, .int .i64 o.seq] 25 (0, 0))) := by
        show w3.heap[pb]? = _
        rw [hw3]
        have := set_blk3 (j := 0) (v := .slice a3 L c3) hp2'
        simpa using this
      have HK3 : Hid (w3.heap[w.heap.size]? = some (.cells #[.int .i64 5, .int .i64 (f : Int), .int .i64 n, .string nm, .slice oa d.length oc] 43 (0, 0))) := by
        show w3.heap[w.heap.size]? = _
        rw [hw3]
        exact (Below.heap_setCell _ ⟨pb, 0, none⟩ _ _ (by show w.heap.size ≠ pb; omega)).trans hk2
      have HD3 : Hid (OB base w3 (.slice a3 L c3) (o.data ++ List.replicate (f + d.length - o.data.length) 0)) := by
        show OB _ _ _ _
        rw [hw3]
        exact hd2.keep fun b hb => Below.heap_setCell _ ⟨pb, 0, none⟩ _ _ (by have := (hd2.lt b hb).1; show b ≠ pb; omega)
      have HF03 : Hid (Fr (fun k => k = pb ∨ some k = (Value.slice a0 o.data.length c0).ownBlock) w w3) := by
        show Fr _ _ _
        rw [hw3]
        exact ((Fr.trans (S := fun k => some k = (Value.slice a0 o.data.length c0).ownBlock) (Fr.ext HB1.out) hf2 (fun _ _ h => h)).weaken fun _ _ h => .inr h).setCell (a := ⟨pb, 0, none⟩) (fun _ => .inl rfl) _
      have hat3 : (Value.slice a3 L c3).ownBlock = (Value.slice a0 o.data.length c0).ownBlock ∨ (Value.slice a3 L c3).ownBlock = none ∨ ∃ g, (Value.slice a3 L c3).ownBlock = some g ∧ w.heap.size ≤ g := by
        rcases hat2 with h | ⟨g, h, h'⟩
        · exact .inl h
        · exact .inr (.inr ⟨g, h, by have := HB1.out.size; omega⟩)
      have HWE : Hid (_ = writeD o.data f d) := Lib.hid (write_eq o.data d f)
      have hDl : (o.data ++ List.replicate (f + d.length - o.data.length) (0 : UInt8)).length = L := hlen2
      obtain ⟨D1, hD1⟩ : ∃ D1, D1 = o.data ++ List.replicate (f + d.length - o.data.length) (0 : UInt8) := ⟨_, rfl⟩
      rw [← hD1] at HD3 HWE hDl
      have HDL := Lib.hid hDl
      clear hp2 hp2' hk2 hd2 hf2 hat2 hlen2 hD1 hDl HD1
      have hfL : f + d.length ≤ L := by omega
      have hLf : L ≤ f + d.length := by omega
      have HLL := Lib.hid hL
      clear hL
      go_wp2_with (first | (go_at_call 99; refine (spot_any _ _ _).mono ?_; rintro e w' ⟨rfl, rfl⟩; rw [hs]; clear hs) | (at_builtin; refine Lib.wpList_append_run _ rfl _ _ _ _ rfl _ _ rfl rfl _ _ (hrun _) ?_))
      rw [← hw3]
      have HAT3 := Lib.hid hat3
      clear hw3 hrun xx ff x0 f0 z0 g0 z4 g4 hgt
      have hfL2 : f ≤ L := by omega
      have hcap3 := (HD3.out.rb : RB _ w3 (.slice a3 L c3) _)
      obtain ⟨X, hX⟩ : ∃ X, X = d.map bv := ⟨_, rfl⟩
      have HX1 : Hid (∀ v ∈ X, v.oneCell' = true) := by show ∀ v ∈ X, _; rw [hX]; exact one_bytes _
      have hXl : X.length = d.length := by rw [hX]; simp
      have HMN : Hid (X.length = Nat.min d.length (L - f)) := by show _ = _; rw [hXl]; simp only [Nat.min_def]; split <;> omega
      obtain ⟨DD, hDD⟩ : ∃ DD : World → Prop, DD = fun w' => OB base w' (.slice a3 L c3) (D1.take f ++ d ++ D1.drop (f + d.length)) ∧ Fr (fun k => some k = (Value.slice a3 L c3).ownBlock) w3 w' := ⟨_, rfl⟩
      have HZ0 : Hid (X = [] → DD w3.drew) := by
        show X = [] → _
        intro e
        have e0 : d = [] := by
          have := congrArg List.length e
          rw [hXl] at this
          exact List.eq_nil_of_length_eq_zero this
        rw [hDD]
        refine ⟨?_, (Fr.refl _ w3).drew⟩
        rw [e0]
        have hh : OB base w3 (.slice a3 L c3) (D1.take f ++ ([] : List UInt8) ++ D1.drop (f + ([] : List UInt8).length)) := by simpa using HD3.out
        exact hh
      have HEND : Hid (∀ w4, DD w4 → IsO base pb w4 (.slice a3 L c3) kv ⟨writeD o.data f d, o.keys, o.seq⟩ ∧ Fr (Chg base pb) w w4) := by
        show ∀ w4, _
        intro w4 h
        rw [hDD] at h
        refine data_end HO.out ((h.2.block pb (by have := HF03.out.size; omega) (fun e => by have := (HD3.out.lt _ e.symm).1; omega)).trans HP3.out) (by rw [← HWE.out]; exact h.1) ?_ hat3
        refine Fr.trans (S := fun k => k = pb ∨ some k = (Value.slice a0 o.data.length c0).ownBlock) (T := fun k => some k = (Value.slice a3 L c3).ownBlock) HF03.out h.2 fun k hk e => ?_
        rcases hat3 with h3 | h3 | ⟨g, h3, h4⟩
        · exact .inr (e.trans h3)
        · rw [h3] at e; cases e
        · rw [h3] at e; have := Option.some.inj e; omega
      have HLIE : Hid (0 < d.length → ∃ ad, oa = some ad ∧ ∀ j v, X[j]? = some v → w3.drew.cell? (ad.add j) = some v) := by
        show 0 < d.length → _
        intro h
        have hv3 : RB A w3 (.slice oa d.length oc) d := HV.out.mono (Same.of_fr HF03.out fun b hb _ e => by
          rcases e with e | e
          · exact (HA.out b hb).1 e
          · exact (HA.out b hb).2 e.symm)
        obtain ⟨b, ofs, e, -, -, -, hcc⟩ := hv3.lie h
        refine ⟨_, e, fun j v hj => ?_⟩
        have hjl := (List.getElem?_eq_some_iff.1 hj).1
        rw [add_plain]
        exact (hcc j (by omega)).trans (by rw [← hX]; exact hj)
      have HXX := Lib.hid hX
      have HXL := Lib.hid hXl
      have HDDE := Lib.hid hDD
      obtain ⟨x0, f0⟩ := blk_cell (i := 0) HP3.out
      obtain ⟨z0, g0⟩ := blk_cell (i := 0) HK3.out
      obtain ⟨z4, g4⟩ := blk_cell (i := 4) HK3.out
      simp at x0 z0 z4
      clear hX hXl hDD
      rcases a3 with _ | ⟨ga, go_, gs⟩
      · have hL0 : L = 0 := (SlA.none_ hcap3).1
        have hc0 : c3 = 0 := (SlA.none_ hcap3).2.2
        obtain rfl : f = 0 := by omega
        have HD0 : Hid (d.length = 0) := by show _ = _; omega
        subst hL0 hc0
        clear hcap3
        have HPS : Hid (0 < X.length → ∃ g off ad, (none : Option Addr) = some ⟨g, off, none⟩ ∧ oa = some ad ∧ (∀ j v, X[j]? = some v → w3.drew.cell? (ad.add j) = some v) ∧ ∃ cur t, w3.drew.heap[g]? = some (.cells cur t (0, 0)) ∧ off + X.length ≤ cur.size ∧ DD (w3.drew.setRow g (cur.toList.take off ++ X ++ cur.toList.drop (off + X.length)).toArray)) := by
          show 0 < X.length → _
          (intro h; rw [HXL.out, HD0.out] at h; omega)
        go_wp2
        go_region_law (refine step_copy_fr1 rfl (.tmp 56) (.tmp 58) 22 22 rfl 5 Tryz.underlying22 hn8x.out (none) oa (0) (0) d.length oc (by simp [Act.eval, Act.put]) (by simp [Act.eval, Act.put]) X HMN.out DD HZ0.out HPS.out HX1.out ?_; intro w4 hd4)
        all_goals
          have HFIN := Lib.hid (HEND.out w4 hd4)
          clear hd4
          go_wp2
          go_ret
          exact ChR.yes HX.out HFIN.out.1 HFIN.out.2
      · obtain ⟨rfl, rfl⟩ : go_ = 0 ∧ gs = none := by
          rcases HD3.out.2 with ⟨e, -⟩ | ⟨g, cap, cur, e, -⟩
          · simp at e
          · simp only [Value.slice.injEq, Option.some.injEq, Addr.mk.injEq] at e
            exact ⟨e.1.2.1, e.1.2.2⟩
        have hLc : L ≤ c3 := by
          have := (SlA.src hcap3).2.1
          have := (SlA.src hcap3).1
          omega
        clear hcap3
        by_cases hcf : c3 = f
        · subst hcf
          have HLF : Hid (L = c3) := by show _ = _; omega
          have HD0 : Hid (d.length = 0) := by show _ = _; omega
          have HMB : Hid (X.length = Nat.min d.length 0) := by show _ = _; rw [HXL.out, HD0.out]; rfl
          have HPS : Hid (0 < X.length → ∃ g off ad, ((some ⟨ga, 0, none⟩) : Option Addr) = some ⟨g, off, none⟩ ∧ oa = some ad ∧ (∀ j v, X[j]? = some v → w3.drew.cell? (ad.add j) = some v) ∧ ∃ cur t, w3.drew.heap[g]? = some (.cells cur t (0, 0)) ∧ off + X.length ≤ cur.size ∧ DD (w3.drew.setRow g (cur.toList.take off ++ X ++ cur.toList.drop (off + X.length)).toArray)) := by
            show 0 < X.length → _
            (intro h; rw [HXL.out, HD0.out] at h; omega)
          go_wp2
          go_region_law (refine step_copy_fr1 rfl (.tmp 56) (.tmp 58) 22 22 rfl 5 Tryz.underlying22 hn8x.out ((some ⟨ga, 0, none⟩)) oa (0) (0) d.length oc (by simp [Act.eval, Act.put]) (by simp [Act.eval, Act.put]) X HMB.out DD HZ0.out HPS.out HX1.out ?_; intro w4 hd4)
          all_goals
            have HFIN := Lib.hid (HEND.out w4 hd4)
            clear hd4
            go_wp2
            go_ret
            exact ChR.yes HX.out HFIN.out.1 HFIN.out.2
        · have HPS : Hid (0 < X.length → ∃ g off ad, ((some ⟨ga, f, none⟩) : Option Addr) = some ⟨g, off, none⟩ ∧ oa = some ad ∧ (∀ j v, X[j]? = some v → w3.drew.cell? (ad.add j) = some v) ∧ ∃ cur t, w3.drew.heap[g]? = some (.cells cur t (0, 0)) ∧ off + X.length ≤ cur.size ∧ DD (w3.drew.setRow g (cur.toList.take off ++ X ++ cur.toList.drop (off + X.length)).toArray)) := by
            show 0 < X.length → _
            (intro h; rw [HXL.out] at h; obtain ⟨ad, e1, e2⟩ := HLIE.out h; obtain ⟨g, cap, cur, e, -, hg, -, -, hcs, -⟩ := (HD3.out.2.resolve_left fun e => by simp at e); simp only [Value.slice.injEq, Option.some.injEq, Addr.mk.injEq] at e; obtain ⟨⟨rfl, -⟩, -, rfl⟩ := e; refine ⟨_, f, ad, rfl, e1, e2, cur, _, hg, by rw [HXL.out]; omega, ?_⟩; rw [HDDE.out, HXX.out]; exact ⟨OB.over (w := w3.drew) HD3.out hg (by have := HDL.out; omega), Fr.trans (S := fun k => some k = (Value.slice (some ⟨ga, 0, none⟩) L c3).ownBlock) ((Fr.refl _ w3).drew) ((setRow_fr w3.drew _ _).weaken fun k _ h => by rw [h]; rfl) (fun _ _ h => h)⟩)
          go_wp2
          go_region_law (refine step_copy_fr1 rfl (.tmp 56) (.tmp 58) 22 22 rfl 5 Tryz.underlying22 hn8x.out ((some ⟨ga, f, none⟩)) oa (L - f) (c3 - f) d.length oc (by simp [Act.eval, Act.put]) (by simp [Act.eval, Act.put]) X HMN.out DD HZ0.out HPS.out HX1.out ?_; intro w4 hd4)
          all_goals
            have HFIN := Lib.hid (HEND.out w4 hd4)
            clear hd4
            go_wp2
            go_ret
            exact ChR.yes HX.out HFIN.out.1 HFIN.out.2
    · have HWE : Hid (_ = writeD o.data f d) := Lib.hid (write_eq o.data d f)
      rw [show f + d.length - o.data.length = 0 by omega, List.replicate_zero, List.append_nil] at HWE
      have hngt : ¬ (0 : Int) < (f : Int) + d.length - o.data.length := by omega
      obtain ⟨w3, hw3⟩ : ∃ w3, w3 = w1 := ⟨_, rfl⟩
      subst hw3
      obtain ⟨a3, ha3⟩ : ∃ a3, a3 = a0 := ⟨_, rfl⟩
      subst ha3
      obtain ⟨c3, hc3⟩ : ∃ c3, c3 = c0 := ⟨_, rfl⟩
      subst hc3
      obtain ⟨D1, hD1⟩ : ∃ D1, D1 = o.data := ⟨_, rfl⟩
      have HD3 : Hid (OB base w3 (.slice a3 o.data.length c3) D1) := by show OB _ _ _ _; rw [hD1]; exact HD1.out
      have HDL : Hid (D1.length = o.data.length) := by show _ = _; rw [hD1]
      have hHWE : Hid (D1.take f ++ d ++ D1.drop (f + d.length) = writeD o.data f d) := by show _ = _; rw [hD1]; exact HWE.out
      clear HWE hD1 HD1
      have HWE := hHWE
      have HP3 := HP1
      have HK3 := HK1
      have HF03 : Hid (Fr (fun k => k = pb ∨ some k = (Value.slice a3 o.data.length c3).ownBlock) w w3) := Lib.hid (Fr.ext HB1.out)
      generalize hL : o.data.length = L at *
      have HLL := Lib.hid hL
      clear hL
      go_wp2_with (go_at_call 99; refine (spot_any _ _ _).mono ?_; rintro e w' ⟨rfl, rfl⟩; rw [hs]; clear hs)
      have hat3 : (Value.slice a3 L c3).ownBlock = (Value.slice a3 L c3).ownBlock ∨ (Value.slice a3 L c3).ownBlock = none ∨ ∃ g, (Value.slice a3 L c3).ownBlock = some g ∧ w.heap.size ≤ g := .inl rfl
      have hfL : f + d.length ≤ L := hgr
      clear hgr hngt x0 f0 z0 g0 z4 g4
      have hfL2 : f ≤ L := by omega
      have hcap3 := (HD3.out.rb : RB _ w3 (.slice a3 L c3) _)
      obtain ⟨X, hX⟩ : ∃ X, X = d.map bv := ⟨_, rfl⟩
      have HX1 : Hid (∀ v ∈ X, v.oneCell' = true) := by show ∀ v ∈ X, _; rw [hX]; exact one_bytes _
      have hXl : X.length = d.length := by rw [hX]; simp
      have HMN : Hid (X.length = Nat.min d.length (L - f)) := by show _ = _; rw [hXl]; simp only [Nat.min_def]; split <;> omega
      obtain ⟨DD, hDD⟩ : ∃ DD : World → Prop, DD = fun w' => OB base w' (.slice a3 L c3) (D1.take f ++ d ++ D1.drop (f + d.length)) ∧ Fr (fun k => some k = (Value.slice a3 L c3).ownBlock) w3 w' := ⟨_, rfl⟩
      have HZ0 : Hid (X = [] → DD w3.drew) := by
        show X = [] → _
        intro e
        have e0 : d = [] := by
          have := congrArg List.length e
          rw [hXl] at this
          exact List.eq_nil_of_length_eq_zero this
        rw [hDD]
        refine ⟨?_, (Fr.refl _ w3).drew⟩
        rw [e0]
        have hh : OB base w3 (.slice a3 L c3) (D1.take f ++ ([] : List UInt8) ++ D1.drop (f + ([] : List UInt8).length)) := by simpa using HD3.out
        exact hh
      have HEND : Hid (∀ w4, DD w4 → IsO base pb w4 (.slice a3 L c3) kv ⟨writeD o.data f d, o.keys, o.seq⟩ ∧ Fr (Chg base pb) w w4) := by
        show ∀ w4, _
        intro w4 h
        rw [hDD] at h
        refine data_end HO.out ((h.2.block pb (by have := HF03.out.size; omega) (fun e => by have := (HD3.out.lt _ e.symm).1; omega)).trans HP3.out) (by rw [← HWE.out]; exact h.1) ?_ hat3
        refine Fr.trans (S := fun k => k = pb ∨ some k = (Value.slice a3 L c3).ownBlock) (T := fun k => some k = (Value.slice a3 L c3).ownBlock) HF03.out h.2 fun k hk e => ?_
        rcases hat3 with h3 | h3 | ⟨g, h3, h4⟩
        · exact .inr (e.trans h3)
        · rw [h3] at e; cases e
        · rw [h3] at e; have := Option.some.inj e; omega
      have HLIE : Hid (0 < d.length → ∃ ad, oa = some ad ∧ ∀ j v, X[j]? = some v → w3.drew.cell? (ad.add j) = some v) := by
        show 0 < d.length → _
        intro h
        have hv3 : RB A w3 (.slice oa d.length oc) d := HV.out.mono (Same.of_fr HF03.out fun b hb _ e => by
          rcases e with e | e
          · exact (HA.out b hb).1 e
          · exact (HA.out b hb).2 e.symm)
        obtain ⟨b, ofs, e, -, -, -, hcc⟩ := hv3.lie h
        refine ⟨_, e, fun j v hj => ?_⟩
        have hjl := (List.getElem?_eq_some_iff.1 hj).1
        rw [add_plain]
        exact (hcc j (by omega)).trans (by rw [← hX]; exact hj)
      have HXX := Lib.hid hX
      have HXL := Lib.hid hXl
      have HDDE := Lib.hid hDD
      obtain ⟨x0, f0⟩ := blk_cell (i := 0) HP3.out
      obtain ⟨z0, g0⟩ := blk_cell (i := 0) HK3.out
      obtain ⟨z4, g4⟩ := blk_cell (i := 4) HK3.out
      simp at x0 z0 z4
      clear hX hXl hDD
      rcases a3 with _ | ⟨ga, go_, gs⟩
      · have hL0 : L = 0 := (SlA.none_ hcap3).1
        have hc0 : c3 = 0 := (SlA.none_ hcap3).2.2
        obtain rfl : f = 0 := by omega
        have HD0 : Hid (d.length = 0) := by show _ = _; omega
        subst hL0 hc0
        clear hcap3
        have HPS : Hid (0 < X.length → ∃ g off ad, (none : Option Addr) = some ⟨g, off, none⟩ ∧ oa = some ad ∧ (∀ j v, X[j]? = some v → w3.drew.cell? (ad.add j) = some v) ∧ ∃ cur t, w3.drew.heap[g]? = some (.cells cur t (0, 0)) ∧ off + X.length ≤ cur.size ∧ DD (w3.drew.setRow g (cur.toList.take off ++ X ++ cur.toList.drop (off + X.length)).toArray)) := by
          show 0 < X.length → _
          (intro h; rw [HXL.out, HD0.out] at h; omega)
        go_wp2
        go_region_law (refine step_copy_fr1 rfl (.tmp 56) (.tmp 58) 22 22 rfl 5 Tryz.underlying22 hn8x.out (none) oa (0) (0) d.length oc (by simp [Act.eval, Act.put]) (by simp [Act.eval, Act.put]) X HMN.out DD HZ0.out HPS.out HX1.out ?_; intro w4 hd4)
        all_goals
          have HFIN := Lib.hid (HEND.out w4 hd4)
          clear hd4
          go_wp2
          go_ret
          exact ChR.yes HX.out HFIN.out.1 HFIN.out.2
      · obtain ⟨rfl, rfl⟩ : go_ = 0 ∧ gs = none := by
          rcases HD3.out.2 with ⟨e, -⟩ | ⟨g, cap, cur, e, -⟩
          · simp at e
          · simp only [Value.slice.injEq, Option.some.injEq, Addr.mk.injEq] at e
            exact ⟨e.1.2.1, e.1.2.2⟩
        have hLc : L ≤ c3 := by
          have := (SlA.src hcap3).2.1
          have := (SlA.src hcap3).1
          omega
        clear hcap3
        by_cases hcf : c3 = f
        · subst hcf
          have HLF : Hid (L = c3) := by show _ = _; omega
          have HD0 : Hid (d.length = 0) := by show _ = _; omega
          have HMB : Hid (X.length = Nat.min d.length 0) := by show _ = _; rw [HXL.out, HD0.out]; rfl
          have HPS : Hid (0 < X.length → ∃ g off ad, ((some ⟨ga, 0, none⟩) : Option Addr) = some ⟨g, off, none⟩ ∧ oa = some ad ∧ (∀ j v, X[j]? = some v → w3.drew.cell? (ad.add j) = some v) ∧ ∃ cur t, w3.drew.heap[g]? = some (.cells cur t (0, 0)) ∧ off + X.length ≤ cur.size ∧ DD (w3.drew.setRow g (cur.toList.take off ++ X ++ cur.toList.drop (off + X.length)).toArray)) := by
            show 0 < X.length → _
            (intro h; rw [HXL.out, HD0.out] at h; omega)
          go_wp2
          go_region_law (refine step_copy_fr1 rfl (.tmp 56) (.tmp 58) 22 22 rfl 5 Tryz.underlying22 hn8x.out ((some ⟨ga, 0, none⟩)) oa (0) (0) d.length oc (by simp [Act.eval, Act.put]) (by simp [Act.eval, Act.put]) X HMB.out DD HZ0.out HPS.out HX1.out ?_; intro w4 hd4)
          all_goals
            have HFIN := Lib.hid (HEND.out w4 hd4)
            clear hd4
            go_wp2
            go_ret
            exact ChR.yes HX.out HFIN.out.1 HFIN.out.2
        · have HPS : Hid (0 < X.length → ∃ g off ad, ((some ⟨ga, f, none⟩) : Option Addr) = some ⟨g, off, none⟩ ∧ oa = some ad ∧ (∀ j v, X[j]? = some v → w3.drew.cell? (ad.add j) = some v) ∧ ∃ cur t, w3.drew.heap[g]? = some (.cells cur t (0, 0)) ∧ off + X.length ≤ cur.size ∧ DD (w3.drew.setRow g (cur.toList.take off ++ X ++ cur.toList.drop (off + X.length)).toArray)) := by
            show 0 < X.length → _
            (intro h; rw [HXL.out] at h; obtain ⟨ad, e1, e2⟩ := HLIE.out h; obtain ⟨g, cap, cur, e, -, hg, -, -, hcs, -⟩ := (HD3.out.2.resolve_left fun e => by simp at e); simp only [Value.slice.injEq, Option.some.injEq, Addr.mk.injEq] at e; obtain ⟨⟨rfl, -⟩, -, rfl⟩ := e; refine ⟨_, f, ad, rfl, e1, e2, cur, _, hg, by rw [HXL.out]; omega, ?_⟩; rw [HDDE.out, HXX.out]; exact ⟨OB.over (w := w3.drew) HD3.out hg (by have := HDL.out; omega), Fr.trans (S := fun k => some k = (Value.slice (some ⟨ga, 0, none⟩) L c3).ownBlock) ((Fr.refl _ w3).drew) ((setRow_fr w3.drew _ _).weaken fun k _ h => by rw [h]; rfl) (fun _ _ h => h)⟩)
          go_wp2
          go_region_law (refine step_copy_fr1 rfl (.tmp 56) (.tmp 58) 22 22 rfl 5 Tryz.underlying22 hn8x.out ((some ⟨ga, f, none⟩)) oa (L - f) (c3 - f) d.length oc (by simp [Act.eval, Act.put]) (by simp [Act.eval, Act.put]) X HMN.out DD HZ0.out HPS.out HX1.out ?_; intro w4 hd4)
          all_goals
            have HFIN := Lib.hid (HEND.out w4 hd4)
            clear hd4
            go_wp2
            go_ret
            exact ChR.yes HX.out HFIN.out.1 HFIN.out.2
end Go.Proofs.YtgdilkhaopnhaaaGreatDoor
namespace Go.Proofs.YtgdilkhaopnhaaaGreatDoor
open Go.RowKit Go.WideShapes Go.Lib

theorem zero_eq (l : List UInt8) (f m : Nat) (h : f < l.length) : l.take f ++ List.replicate (min (f + m) l.length - f) 0 ++ l.drop (f + (List.replicate (min (f + m) l.length - f) (0 : UInt8)).length) = zeroD l f m := by
  unfold zeroD
  congr 1
  rw [List.length_replicate]
  rcases Nat.lt_or_ge (f + m) l.length with h1 | h1
  · congr 1; omega
  · rw [List.drop_of_length_le (by omega), List.drop_of_length_le (by omega)]
theorem zero_none (l : List UInt8) (f m : Nat) (h : l.length ≤ f ∨ m = 0) : zeroD l f m = l := by
  unfold zeroD
  rcases h with h | rfl
  · rw [List.take_of_length_le h, List.drop_of_length_le (by omega), show min (f + m) l.length - f = 0 by omega]
    simp
  · rw [Nat.add_zero, show min f l.length - f = 0 by omega]
    simp
theorem rep_map (k : Nat) : (List.replicate k (0 : UInt8)).map bv = List.replicate k (Value.int .u8 0) := by rw [List.map_replicate]; rfl
theorem clear_none (w : World) (ty : TypeId) (a : Option Addr) (c : Nat) : (Builtin.clear_ #[22] ty #[.slice a 0 c]).run Tryz.prog w = .ok (.tuple #[]) w := by
  cases a <;> simp [Builtin.clear_, run_underlying Tryz.underlying22]
set_option maxRecDepth 100000 in
set_option maxHeartbeats 8000000 in
theorem data_zero (base pb : Nat) (dv kv : Value) (o : ObD) (off n : Int) (nm : ByteArray) (oa : Option Addr) (ol oc : Nat) (d : List UInt8) (w : World)
    (hO : IsO base pb w dv kv o) (hol : o.data.length ≤ 1000) :
    Calls Tryz.prog 86 #[.pointer (some ⟨pb, 0, none⟩), opV 6 off n nm oa ol oc] w (ChR base pb 6 (changeB o ⟨6, off, n, nm, d⟩) w) := by
  have hr := fun W => refuse_any 6 off n nm oa ol oc 2 W
  unfold opV at hr ⊢
  have hlt := hO.lt
  have hle := hO.le
  obtain ⟨a0, c0, rfl⟩ : ∃ a c, dv = .slice a o.data.length c := hO.own.data.rb.shape
  have HO := Lib.hid hO
  have hpl : pb < w.heap.size := by omega
  clear hO
  have HC : Hid (changeB o ⟨6, off, n, nm, d⟩ = if spotB off n then some ⟨zeroD o.data off.toNat n.toNat, o.keys, o.seq⟩ else none) := rfl
  cases hs : spotB off n with
  | false =>
    have HX : Hid (changeB o ⟨6, off, n, nm, d⟩ = none) := by show changeB _ _ = none; rw [HC.out, hs]; rfl
    go_enter Tryz.func86, Tryz.ntmps86
    go_wp2
    go_quiet (fail)
    go_wp2_with (go_at_call 99; refine (spot_any _ _ _).mono ?_; rintro e w' ⟨rfl, rfl⟩; rw [hs]; clear hs)
    refine (hr _).mono ?_
    rintro e w3 ⟨rfl, hb3⟩
    have HB3 : Hid (Below w.heap.size w w3) := Lib.hid (Below.trans (by ((repeat' (first | exact Below.refl _ _ | refine below_drewN ?_ _ | refine Below.drew ?_ | refine Below.alloc ?_ ?_ _ | refine Below.trans ?_ (Below.mono (by assumption) ?_))); all_goals (first | exact Nat.le_refl _ | exact Below.size (by assumption) | omega | (simp; done) | (simp; omega)))) (hb3.mono (by simp; try omega)))
    clear hb3
    go_wp2
    go_ret
    exact ChR.no HX.out (Fr.ext HB3.out)
  | true =>
    obtain ⟨f, m, rfl, rfl, hfm⟩ := spot_nat hs
    have HX : Hid (changeB o ⟨6, f, m, nm, d⟩ = some ⟨zeroD o.data f m, o.keys, o.seq⟩) := by show changeB _ _ = _; rw [HC.out, hs]; simp
    go_enter Tryz.func86, Tryz.ntmps86
    go_wp2
    go_quiet (fail)
    obtain ⟨w1, hw1⟩ : ∃ w1, w1 = (w.alloc (.cells #[.int .i64 6, .int .i64 (f : Int), .int .i64 (m : Int), .string nm, .slice oa ol oc] 43)).drewN nq := ⟨_, rfl⟩
    rw [← hw1]
    have hb1 : Below w.heap.size w w1 := by rw [hw1]; ((repeat' (first | exact Below.refl _ _ | refine below_drewN ?_ _ | refine Below.drew ?_ | refine Below.alloc ?_ ?_ _ | refine Below.trans ?_ (Below.mono (by assumption) ?_))); all_goals (first | exact Nat.le_refl _ | exact Below.size (by assumption) | omega | (simp; done) | (simp; omega)))
    have K1 : w1.heap[w.heap.size]? = some (.cells #[.int .i64 6, .int .i64 (f : Int), .int .i64 (m : Int), .string nm, .slice oa ol oc] 43 (0, 0)) := by rw [hw1]; exact heap_alloc_new _ _
    have hO1 := HO.out.ext hb1
    have HB1 := Lib.hid hb1
    have hwl1 : w.heap.size < w1.heap.size := (Array.getElem?_eq_some_iff.1 K1).1
    have hpl1 : pb < w1.heap.size := by omega
    obtain ⟨x0, f0⟩ := blk_cell (i := 0) hO1.blk
    obtain ⟨z0, g0⟩ := blk_cell (i := 0) K1
    simp at x0 z0
    have HP1 := Lib.hid hO1.blk
    have HD1 := Lib.hid hO1.own.data
    clear hw1 hb1 K1 hO1
    generalize hL : o.data.length = L at *
    have HLL := Lib.hid hL
    clear hL
    have hcap : L ≤ c0 := by
      rcases HD1.out.2 with ⟨e, h⟩ | ⟨g, cap, cur, e, -, -, h, -⟩
      · simp only [Value.slice.injEq] at e; omega
      · simp only [Value.slice.injEq] at e; omega
    by_cases hdo : f < L ∧ 0 < m
    · obtain ⟨hfL, hm0⟩ := hdo
      obtain ⟨ga, cur, rfl, hbg, hg, hcs, hcm⟩ : ∃ g cur, a0 = some ⟨g, 0, none⟩ ∧ base ≤ g ∧ w1.heap[g]? = some (.cells cur 5 (0, 0)) ∧ cur.size = c0 ∧ True := by
        rcases HD1.out.2 with ⟨e, h⟩ | ⟨g, cap, cur, e, h1, h2, -, -, h3, -⟩
        · simp only [Value.slice.injEq] at e; omega
        · simp only [Value.slice.injEq] at e
          exact ⟨g, cur, e.1, h1, h2, by omega, trivial⟩
      obtain ⟨k, hk⟩ : ∃ k, k = min (f + m) L - f := ⟨_, rfl⟩
      have hk0 : 0 < k := by omega
      have hfk : f + k ≤ L := by omega
      have hmin1 : min (f : Int) (L : Int) = f := by omega
      have hmin2 : min ((f : Int) + m) (L : Int) = (f : Int) + k := by omega
      obtain ⟨w5, hw5⟩ : ∃ w5, w5 = w1.drew.setRow ga (cur.toList.take f ++ List.replicate k (Value.int .u8 0) ++ cur.toList.drop (f + k)).toArray := ⟨_, rfl⟩
      have CL : ∀ ty, (Builtin.clear_ #[22] ty #[.slice (some ⟨ga, f, none⟩) k (c0 - f)]).run Tryz.prog w1.drew = .ok (.tuple #[]) w5 := fun ty => by
        rw [hw5]
        exact run_clear_fr1 w1.drew ty ga f k (c0 - f) hk0 cur 5 hg (by omega)
      have HEND : Hid (IsO base pb w5 (.slice (some ⟨ga, 0, none⟩) L c0) kv ⟨zeroD o.data f m, o.keys, o.seq⟩ ∧ Fr (Chg base pb) w w5) := by
        have hov := OB.over (w := w1.drew) (off := f) (x := List.replicate k 0) HD1.out hg (by have := HLL.out; simp; omega)
        rw [rep_map, List.length_replicate] at hov
        have hF : Fr (fun k => k = pb ∨ some k = (Value.slice (some ⟨ga, 0, none⟩) L c0).ownBlock) w w5 := by
          rw [hw5]
          exact (Fr.trans (S := fun k => k = ga) (T := fun k => k = ga) (Fr.ext HB1.out).drew (setRow_fr w1.drew ga _) (fun _ _ h => h)).weaken fun b _ h => .inr (by rw [h]; rfl)
        refine data_end HO.out ?_ ?_ hF (.inl rfl)
        · rw [hw5]
          exact (setRow_other w1.drew ga pb _ (by omega)).trans HP1.out
        · rw [hw5, ← zero_eq o.data f m (by have := HLL.out; omega)]
          have e : min (f + m) o.data.length - f = k := by rw [HLL.out, hk]
          rw [e]
          exact (by simpa using hov)
      have hcf : ¬ c0 = f := by omega
      have hsub : f + k - f = k := by omega
      have hfki : (f : Int) + k ≤ L := by omega
      have hfkt : ((f : Int) + k).toNat = f + k := by omega
      clear hw5 hk hg hcs HD1
      go_wp2_with (go_at_call 99; refine (spot_any _ _ _).mono ?_; rintro e w' ⟨rfl, rfl⟩; rw [hs]; clear hs)
      go_region
      all_goals
        go_wp2
        go_ret
        exact ChR.yes HX.out HEND.out.1 HEND.out.2
    · obtain ⟨lo, hlo⟩ : ∃ lo, lo = min f L := ⟨_, rfl⟩
      have hmin1 : min (f : Int) (L : Int) = lo := by omega
      have hmin2 : min ((f : Int) + m) (L : Int) = lo := by omega
      have hloL : lo ≤ L := by omega
      have CL := fun ty a c => clear_none w1.drew ty a c
      have HEND : Hid (IsO base pb w1.drew (.slice a0 L c0) kv ⟨zeroD o.data f m, o.keys, o.seq⟩ ∧ Fr (Chg base pb) w w1.drew) := by
        rw [zero_none o.data f m (by have := HLL.out; omega)]
        exact ⟨HO.out.ext ((HB1.out).drew), (Fr.ext HB1.out).drew⟩
      rcases a0 with _ | ⟨ga, go_, gs⟩
      · have hL0 : L = 0 := by
          rcases HD1.out.2 with ⟨e, h⟩ | ⟨g, cap, cur, e, -⟩
          · simp only [Value.slice.injEq] at e; omega
          · simp at e
        have hc0 : c0 = 0 := by
          rcases HD1.out.2 with ⟨e, h⟩ | ⟨g, cap, cur, e, -⟩
          · simp only [Value.slice.injEq] at e; omega
          · simp at e
        obtain rfl : lo = 0 := by omega
        subst hL0 hc0
        clear hlo HD1 hmin1 hmin2
        have hm1 : min (f : Int) 0 = 0 := by omega
        have hm2 : min ((f : Int) + m) 0 = 0 := by omega
        go_wp2_with (go_at_call 99; refine (spot_any _ _ _).mono ?_; rintro e w' ⟨rfl, rfl⟩; rw [hs]; clear hs)
        go_region
        all_goals
          go_wp2
          go_ret
          exact ChR.yes HX.out HEND.out.1 HEND.out.2
      · obtain ⟨rfl, rfl⟩ : go_ = 0 ∧ gs = none := by
          rcases HD1.out.2 with ⟨e, -⟩ | ⟨g, cap, cur, e, -⟩
          · simp at e
          · simp only [Value.slice.injEq, Option.some.injEq, Addr.mk.injEq] at e
            exact ⟨e.1.2.1, e.1.2.2⟩
        by_cases hcl : c0 = lo
        · subst hcl
          clear hlo HD1
          go_wp2_with (go_at_call 99; refine (spot_any _ _ _).mono ?_; rintro e w' ⟨rfl, rfl⟩; rw [hs]; clear hs)
          go_region
          all_goals
            go_wp2
            go_ret
            exact ChR.yes HX.out HEND.out.1 HEND.out.2
        · clear hlo HD1
          go_wp2_with (go_at_call 99; refine (spot_any _ _ _).mono ?_; rintro e w' ⟨rfl, rfl⟩; rw [hs]; clear hs)
          go_region
          all_goals
            go_wp2
            go_ret
            exact ChR.yes HX.out HEND.out.1 HEND.out.2
theorem spot_nat0 {n : Int} (h : spotB 0 n = true) : ∃ m : Nat, n = m ∧ m ≤ 64 := by
  obtain ⟨f, m, h1, h2, h3⟩ := spot_nat h
  exact ⟨m, h2, by omega⟩
set_option maxRecDepth 100000 in
set_option maxHeartbeats 8000000 in
theorem data_cut (base pb : Nat) (dv kv : Value) (o : ObD) (off n : Int) (nm : ByteArray) (oa : Option Addr) (ol oc : Nat) (d : List UInt8) (w : World)
    (hO : IsO base pb w dv kv o) (_hol : o.data.length ≤ 1000) :
    Calls Tryz.prog 86 #[.pointer (some ⟨pb, 0, none⟩), opV 7 off n nm oa ol oc] w (ChR base pb 7 (changeB o ⟨7, off, n, nm, d⟩) w) := by
  have hr := fun W => refuse_any 7 off n nm oa ol oc 2 W
  unfold opV at hr ⊢
  have hlt := hO.lt
  have hle := hO.le
  obtain ⟨a0, c0, rfl⟩ : ∃ a c, dv = .slice a o.data.length c := hO.own.data.rb.shape
  have HO := Lib.hid hO
  have hpl : pb < w.heap.size := by omega
  clear hO
  have HC : Hid (changeB o ⟨7, off, n, nm, d⟩ = if spotB 0 n then some ⟨o.data.take n.toNat, o.keys, o.seq⟩ else none) := rfl
  cases hs : spotB 0 n with
  | false =>
    have HX : Hid (changeB o ⟨7, off, n, nm, d⟩ = none) := by show changeB _ _ = none; rw [HC.out, hs]; rfl
    go_enter Tryz.func86, Tryz.ntmps86
    go_wp2
    go_quiet (fail)
    go_wp2_with (go_at_call 99; refine (spot_any _ _ _).mono ?_; rintro e w' ⟨rfl, rfl⟩; rw [hs]; clear hs)
    refine (hr _).mono ?_
    rintro e w3 ⟨rfl, hb3⟩
    have HB3 : Hid (Below w.heap.size w w3) := Lib.hid (Below.trans (by ((repeat' (first | exact Below.refl _ _ | refine below_drewN ?_ _ | refine Below.drew ?_ | refine Below.alloc ?_ ?_ _ | refine Below.trans ?_ (Below.mono (by assumption) ?_))); all_goals (first | exact Nat.le_refl _ | exact Below.size (by assumption) | omega | (simp; done) | (simp; omega)))) (hb3.mono (by simp; try omega)))
    clear hb3
    go_wp2
    go_ret
    exact ChR.no HX.out (Fr.ext HB3.out)
  | true =>
    obtain ⟨m, rfl, hfm⟩ := spot_nat0 hs
    have HX : Hid (changeB o ⟨7, off, m, nm, d⟩ = some ⟨o.data.take m, o.keys, o.seq⟩) := by show changeB _ _ = _; rw [HC.out, hs]; simp
    go_enter Tryz.func86, Tryz.ntmps86
    go_wp2
    go_quiet (fail)
    obtain ⟨w1, hw1⟩ : ∃ w1, w1 = (w.alloc (.cells #[.int .i64 7, .int .i64 off, .int .i64 (m : Int), .string nm, .slice oa ol oc] 43)).drewN nq := ⟨_, rfl⟩
    rw [← hw1]
    have hb1 : Below w.heap.size w w1 := by rw [hw1]; ((repeat' (first | exact Below.refl _ _ | refine below_drewN ?_ _ | refine Below.drew ?_ | refine Below.alloc ?_ ?_ _ | refine Below.trans ?_ (Below.mono (by assumption) ?_))); all_goals (first | exact Nat.le_refl _ | exact Below.size (by assumption) | omega | (simp; done) | (simp; omega)))
    have K1 : w1.heap[w.heap.size]? = some (.cells #[.int .i64 7, .int .i64 off, .int .i64 (m : Int), .string nm, .slice oa ol oc] 43 (0, 0)) := by rw [hw1]; exact heap_alloc_new _ _
    have hO1 := HO.out.ext hb1
    have HB1 := Lib.hid hb1
    have hwl1 : w.heap.size < w1.heap.size := (Array.getElem?_eq_some_iff.1 K1).1
    have hpl1 : pb < w1.heap.size := by omega
    obtain ⟨x0, f0⟩ := blk_cell (i := 0) hO1.blk
    obtain ⟨z0, g0⟩ := blk_cell (i := 0) K1
    simp at x0 z0
    have HP1 := Lib.hid hO1.blk
    have HD1 := Lib.hid hO1.own.data
    clear hw1 hb1 K1 hO1
    generalize hL : o.data.length = L at *
    have HLL := Lib.hid hL
    clear hL
    have hcap : L ≤ c0 := by
      rcases HD1.out.2 with ⟨e, h⟩ | ⟨g, cap, cur, e, -, -, h, -⟩
      · simp only [Value.slice.injEq] at e; omega
      · simp only [Value.slice.injEq] at e; omega
    obtain ⟨k, hk⟩ : ∃ k, k = min m L := ⟨_, rfl⟩
    have hmin : min (m : Int) (L : Int) = k := by omega
    have hkL : k ≤ L := by omega
    have hkc : k ≤ c0 := by omega
    have HEND : Hid (IsO base pb (w1.drew.setCell ⟨pb, 0, none⟩ (.slice a0 k c0)) (.slice a0 k c0) kv ⟨o.data.take m, o.keys, o.seq⟩ ∧ Fr (Chg base pb) w (w1.drew.setCell ⟨pb, 0, none⟩ (.slice a0 k c0))) := by
      have hb : w1.drew.heap[pb]? = _ := HP1.out
      have hset := set_blk3 (w := w1.drew) (j := 0) (v := .slice a0 k c0) hb
      refine data_end HO.out (by simpa using hset) ?_ (((Fr.ext HB1.out).drew).setCell (a := ⟨pb, 0, none⟩) (fun _ => .inl rfl) _) ?_
      · have h1 : OB base w1.drew (.slice a0 L c0) o.data := HD1.out
        have h2 := (h1.cutN hkL).keep (w' := w1.drew.setCell ⟨pb, 0, none⟩ (.slice a0 k c0)) fun b hb => Below.heap_setCell _ ⟨pb, 0, none⟩ _ _ (by
          have : (Value.slice a0 L c0).ownBlock = some b := by
            cases a0 with
            | none => cases hb
            | some p => exact hb
          have := (HD1.out.lt b this).1
          show b ≠ pb; omega)
        have e : o.data.take m = o.data.take k := by
          rw [hk, ← HLL.out]
          rcases Nat.lt_or_ge m o.data.length with h | h
          · rw [show min m o.data.length = m by omega]
          · rw [show min m o.data.length = o.data.length by omega, List.take_of_length_le h, List.take_of_length_le (Nat.le_refl _)]
        rw [e]
        exact h2
      · left
        cases a0 <;> rfl
    clear hk HD1
    rcases a0 with _ | ⟨ga, go_, gs⟩
    · go_wp2_with (go_at_call 99; refine (spot_any _ _ _).mono ?_; rintro e w' ⟨rfl, rfl⟩; rw [hs]; clear hs)
      go_region
      all_goals
        go_wp2
        go_ret
        exact ChR.yes HX.out HEND.out.1 HEND.out.2
    · go_wp2_with (go_at_call 99; refine (spot_any _ _ _).mono ?_; rintro e w' ⟨rfl, rfl⟩; rw [hs]; clear hs)
      go_region
      all_goals
        go_wp2
        go_ret
        exact ChR.yes HX.out HEND.out.1 HEND.out.2
end Go.Proofs.YtgdilkhaopnhaaaGreatDoor
