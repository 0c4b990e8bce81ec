/- The walk of terrazzolaw11.StoreApart. -/
import Derived.Test.YtohfckkgmijlnaaGreatDoorGp11
import Derived.Test.YtohfckkgmijlnaaGreatDoorPL
import Derived.Test.YtohfckkgmijlnaaGreatDoorPK
import Derived.Test.YtohfckkgmijlnaaGreatDoorRowR
namespace Go.Proofs.YtohfckkgmijlnaaGreatDoor
open Go.RowKit Go.Maps Go.WideShapes
attribute [local go_sem ↓] Go.wp_at_zero Go.wp_at_succ

theorem infoObject : (Tryz.prog.info? 41).map (fun i => (i.zero, i.size, i.bytes)) = some (some (.agg #[.slice none 0 0, .slice none 0 0, .int .i64 0]), 3, 56) := by kernel_rfl
/-- one object of a row -/
theorem Obs.at {A : Nat → Prop} {w : World} {a : Option Addr} {n c : Nat} {l : List ObD} (h : SlE Enc.ob A w (.slice a n c) l) {i : Nat} (hi : i < l.length) :
    ∃ b off da dc ka kc, a = some ⟨b, off, none⟩ ∧ b < w.heap.size ∧ w.cell? ⟨b, off + i * 3, none⟩ = some (.slice da (l[i]).data.length dc) ∧ w.cell? ⟨b, off + i * 3 + 1, none⟩ = some (.slice ka (l[i]).keys.length kc) ∧
      w.cell? ⟨b, off + i * 3 + 2, none⟩ = some (.int .i64 (l[i]).seq) ∧ ObV A w (.agg #[.slice da (l[i]).data.length dc, .slice ka (l[i]).keys.length kc, .int .i64 (l[i]).seq]) l[i] := by
  obtain ⟨b, off, cap, cs, e, hb, hA, ⟨dv, kv, rfl, hd, hk⟩, hc⟩ := h.at (i := i) (x := l[i]) (by simp [hi])
  simp only [Value.slice.injEq] at e
  obtain ⟨rfl, _, _⟩ := e
  obtain ⟨da, dc, rfl⟩ := hd.shape
  obtain ⟨ka, kc, rfl⟩ := hk.shape
  have e0 := hc 0 (by decide)
  have e1 := hc 1 (by decide)
  have e2 := hc 2 (by decide)
  simp only [Enc.ob, Nat.add_zero, List.getElem?_cons_zero, List.getElem?_cons_succ] at e0 e1 e2
  exact ⟨b, off, da, dc, ka, kc, rfl, hb, e0, by rw [Nat.add_assoc]; exact e1, by rw [Nat.add_assoc]; exact e2, _, _, rfl, hd, hk⟩
/-- the objects of the first names -/
def wasN (s : StD) (N : List ByteArray) (k : Nat) : List ObD := (N.take k).map s.obj
theorem wasN_len (s : StD) {N : List ByteArray} {k : Nat} (h : k ≤ N.length) : (wasN s N k).length = k := by simp [wasN]; omega
theorem wasN_succ (s : StD) {N : List ByteArray} {k : Nat} (h : k < N.length) : wasN s N (k + 1) = wasN s N k ++ [s.obj N[k]] := by
  unfold wasN
  rw [List.take_succ_eq_append_getElem h, List.map_append]
  rfl
/-- is a name the transaction's, or among the first? -/
def thrN (nm ob : ByteArray) (E : Int) (N : List ByteArray) (j : Nat) : Bool := (decide (nm = ob) && decide (E = 0)) || (N.take j).any fun x => decide (x = nm)
theorem thrN_zero (nm ob : ByteArray) (E : Int) (N : List ByteArray) : thrN nm ob E N 0 = (decide (nm = ob) && decide (E = 0)) := by simp [thrN]
theorem thrN_succ (nm ob : ByteArray) (E : Int) {N : List ByteArray} {j : Nat} (h : j < N.length) : thrN nm ob E N (j + 1) = (thrN nm ob E N j || decide (N[j] = nm)) := by
  unfold thrN
  rw [List.take_succ_eq_append_getElem h, List.any_append]
  simp [Bool.or_assoc]
theorem thrN_all {nm ob : ByteArray} {E : Int} {N : List ByteArray} (h : nm ∈ N ∨ nm = ob ∧ E = 0) : thrN nm ob E N N.length = true := by
  unfold thrN
  rw [List.take_length]
  rcases h with h | ⟨rfl, rfl⟩
  · have : N.any (fun x => decide (x = nm)) = true := List.any_eq_true.2 ⟨nm, h, by simp⟩
    rw [this]
    simp
  · simp
set_option maxRecDepth 100000 in
set_option maxHeartbeats 16000000 in
theorem apart_law (v : Value) (l : List TxD) (t : TxD) (va : Value) (room : Int) (w : World) (hE : ErrT w) (hl : SlE Enc.txn (fun b => b < w.heap.size) w v l) (ht : SlE Enc.op (fun b => b < w.heap.size) w va t.ops) :
    Calls Tryz.prog 4 #[v, .agg #[.string t.obj, va], .int .i64 room] w (Says true w) := by
  obtain ⟨la, lc, rfl⟩ := hl.shape
  obtain ⟨oa, oc, rfl⟩ := ht.shape
  have HL := Lib.hid hl
  have HT := Lib.hid ht
  have HE := Lib.hid hE
  obtain ⟨i0, hi, hz0, hz1, hz2⟩ := info_parts infoObject
  clear hl ht hE
  go_enter Tryz.func4, Tryz.ntmps4
  go_wp2_with fail
  obtain ⟨w0, hw0⟩ : ∃ w0, w0 = w.alloc (.cells #[.string t.obj, .slice oa t.ops.length oc] 33) := ⟨_, rfl⟩
  rw [← hw0]
  have b0 : w0.heap[w.heap.size]? = some (.cells #[.string t.obj, .slice oa t.ops.length oc] 33 (0, 0)) := by rw [hw0]; exact heap_alloc_new _ _
  have hw : Below w.heap.size w w0 := by rw [hw0]; ((repeat' (first | exact Below.refl _ _ | refine below_drewN ?_ _ | refine Below.drew ?_ | refine Below.alloc ?_ ?_ _ | refine Below.trans ?_ (Below.mono (by assumption) ?_))); all_goals (first | exact Nat.le_refl _ | exact Below.size (by assumption) | omega | (simp; done) | (simp; omega)))
  clear hw0
  have HE0 := Lib.hid (HE.out.ext hw)
  have HL0 : Hid (SlE Enc.txn (fun b => b < w0.heap.size) w0 (.slice la l.length lc) l) := Lib.hid ((HL.out.ext hw).weak fun b hb _ => hb)
  have HT0 : Hid (SlE Enc.op (fun b => b < w0.heap.size) w0 (.slice oa t.ops.length oc) t.ops) := Lib.hid ((HT.out.ext hw).weak fun b hb _ => hb)
  have H0 := Lib.hid hw
  have P0 := Lib.hid b0
  clear b0 hw HE HL HT
  refine (awake11_any _ HE0.out).mono ?_
  rintro e w1 ⟨rfl, hb1⟩
  have HW1 := Lib.hid hb1
  obtain ⟨x0, -⟩ := blk_cell (i := 0) (dblk hb1 P0.out)
  obtain ⟨x1, -⟩ := blk_cell (i := 1) (dblk hb1 P0.out)
  simp at x0 x1
  clear hb1
  go_wp2_with fail
  refine (few11_any _ t _ w1 (HT0.out.ext HW1.out)).mono ?_
  rintro e w2 ⟨y, rfl, hy, hb2⟩
  have HY := Lib.hid hy
  have HW2 := Lib.hid (dcall HW1.out hb2)
  clear hy hb2 HW1 x0 x1
  cases y with
  | false =>
    go_wp2
    go_ret
    exact ⟨rfl, dcall H0.out HW2.out⟩
  | true =>
    have HFW := Lib.hid (HY.out rfl)
    clear HY
    go_wp2_with fail
    refine (behind_any w0 w2 HW2.out HE0.out room _ l HL0.out).mono ?_
    rintro e w3 ⟨p, b, s, rfl, hS, -, hlen⟩
    have HS3 := Lib.hid hS
    have HLN := Lib.hid hlen
    have hbl := hS.st.lt.2
    clear hS hlen HW2
    go_wp2_with fail
    refine (HS3.out.namesC ⟨#[]⟩).mono ?_
    rw [namesP_all]
    rintro e w4 ⟨a4, c4, rfl, hn4, hb4, hS4⟩
    have HS4 := Lib.hid hS4
    have hM : ∀ n ∈ allN s.l, s.is n = true ∧ n.size ≤ 12 := fun n hn => ⟨is_of_mem hn, nameB_size (nm_of_is HS3.out.ok (is_of_mem hn))⟩
    have hL : (allN s.l).length = s.l.length := by simp [allN]
    have hN := fun n => st_names (s := s) (t := t) (n := n)
    obtain ⟨N, hNN⟩ : ∃ N, N = allN s.l := ⟨_, rfl⟩
    rw [← hNN] at hn4 hM hL ⊢
    have hN' : ∀ n, n ∈ allN (stDo s t).1.l → n ∈ N ∨ n = t.obj ∧ (stDo s t).2 = 0 := fun n hn => by rw [hNN]; exact hN n hn
    have HNM := Lib.hid hN'
    have HN4 := Lib.hid (hn4.weak (A' := fun k => k ≠ b) fun k _ hk => by omega)
    have HMEM := Lib.hid hM
    have hNL : N.length ≤ 100000 := by have := HLN.out; omega
    have h34 : w3.heap.size ≤ w4.heap.size := hb4.size
    clear hn4 hb4 hS4 hM hL hN hN' hNN HS3
    go_wp2_with fail
    go_loopw [11, 12] (fun q i wr => ∃ (k : Nat) (ga : Option Addr) (gc : Nat), k ≤ N.length ∧ i = .int .i64 k ∧ q = .slice ga k gc ∧ EnR Enc.ob 41 w4.heap.size wr (.slice ga k gc) (wasN s N k) ∧ Below w4.heap.size w4 wr) (fun _ i _ => N.length - (intOf i).toNat)
    case atStart => exact ⟨0, none, 0, Nat.zero_le _, rfl, rfl, EnR.nil _ _ _ _, Below.refl _ _⟩
    case round =>
      obtain ⟨k, ga, gc, hk, rfl, rfl, hR, hbr⟩ := hrel
      have HR := Lib.hid hR
      have HBR := Lib.hid hbr
      have HSr := Lib.hid (HS4.out.ext hbr)
      have hsz := hbr.size
      by_cases hlt : k < N.length
      · obtain ⟨g, off, rfl, hg, c0, -⟩ := Strs.at (HN4.out.ext hbr) hlt
        have hnm := HMEM.out N[k] (List.getElem_mem hlt)
        have hsz3 : (N[k]).size ≤ 1000000 := by omega
        have HI := Lib.hid hnm.1
        have HWS := Lib.hid (wasN_succ s hlt)
        have HWL := Lib.hid (wasN_len s hk)
        generalize N[k] = nm at *
        have hk5 : (0 : Int) ≤ k := by omega
        have hkl5 : (k : Int) < N.length := by omega
        clear hnm hR hbr
        go_wp2_with fail
        refine (HSr.out.getC nm hsz3).mono ?_
        rw [HI.out]
        rintro e w5 ⟨a5, c5, u5, q5, rfl, ho5, hb5, -⟩
        go_upto_region 14 with fail
        obtain ⟨w6, hw6⟩ : ∃ w6, w6 = w5.alloc (.cells #[.slice a5 (s.obj nm).data.length c5, .slice u5 (s.obj nm).keys.length q5, .int .i64 (s.obj nm).seq] 41) := ⟨_, rfl⟩
        rw [← hw6]
        have h56 : Below w5.heap.size w5 w6 := by rw [hw6]; exact (Below.refl _ w5).alloc (Nat.le_refl _) _
        have hb6 : Below wr.heap.size wr w6 := hb5.trans (h56.mono hb5.size)
        have R6 := Lib.hid (show w6.heap[w5.heap.size]? = some (.cells #[.slice a5 (s.obj nm).data.length c5, .slice u5 (s.obj nm).keys.length q5, .int .i64 (s.obj nm).seq] 41 (0, 0)) from by rw [hw6]; exact heap_alloc_new _ _)
        have hv6 := ho5.obv.ext h56
        have HR6 := Lib.hid (HR.out.ext hb6)
        have HK : Hid (Enc.ob.rd (fun b => w4.heap.size ≤ b ∧ (Value.slice ga k gc).ownBlock ≠ some b) w6 [.slice a5 (s.obj nm).data.length c5, .slice u5 (s.obj nm).keys.length q5, .int .i64 (s.obj nm).seq] (s.obj nm)) := Lib.hid (by
          obtain ⟨dv, kv, e, h1, h2⟩ := hv6
          simp only [Value.agg.injEq, Array.mk.injEq, List.cons.injEq, and_true] at e
          obtain ⟨rfl, rfl⟩ := e
          have hA : ∀ b, b < w6.heap.size → wr.heap.size ≤ b → (w4.heap.size ≤ b ∧ (Value.slice ga k gc).ownBlock ≠ some b) := fun b _ hb => ⟨by omega, fun e => by have := HR.out.lt b e; omega⟩
          exact ⟨_, _, rfl, h1.weak hA, SlE.weak h2 hA⟩)
        have HB6 : Hid (Below w4.heap.size w4 w6) := Lib.hid (HBR.out.trans (hb6.mono hsz))
        have hsz6 : w4.heap.size ≤ w6.heap.size := HB6.out.size
        have hwl : (wasN s N k).length ≤ 1000000 := by rw [HWL.out]; omega
        clear hw6 h56 hb6 hb5 ho5 hv6 HR
        obtain ⟨y0, e0⟩ := blk_cell (i := 0) (R6.out)
        obtain ⟨y1, e1⟩ := blk_cell (i := 1) (R6.out)
        obtain ⟨y2, e2⟩ := blk_cell (i := 2) (R6.out)
        simp at y0 y1 y2
        go_wp2_with (first | (at_builtin; refine stop_in ?_) | go_in)
        unfold Stop
        refine wpList_pushR w6 (by rfl) (.tmp 50) (.tmp 52) 51 (by rfl) Enc.ob w4.heap.size 41 i0 _ 56 Tryz.underlying51 hi hz0 hz1 hz2 (by rfl) (by decide) (by decide) _ (wasN s N k) (by rfl) HR6.out [.slice a5 (s.obj nm).data.length c5, .slice u5 (s.obj nm).keys.length q5, .int .i64 (s.obj nm).seq] 41 (s.obj nm) (by rfl) HK.out (by omega) (by omega) ?_
        intro v' w' hE' hB'
        rw [← HWS.out] at hE'
        have hwl2 := wasN_len s (show k + 1 ≤ N.length from hlt)
        obtain ⟨va', ca', rfl⟩ := hE'.shape
        rw [hwl2] at hE' ⊢
        have HE2 := Lib.hid hE'
        have HB2 := Lib.hid (HB6.out.trans hB')
        clear hE' hB' HR6 R6 HK y0 y1 y2 e0 e1 e2 hwl2
        go_wp2
        go_roundw
        case rel => exact ⟨k + 1, va', ca', by omega, by go_num, rfl, HE2.out, HB2.out⟩
        case measure => simp [intOf]; omega
      · obtain rfl : k = N.length := by omega
        obtain ⟨wd, rfl⟩ : ∃ wd, wd = wr := ⟨_, rfl⟩
        have PD := dblk HSr.out.bel P0.out
        obtain ⟨x0, -⟩ := blk_cell (i := 0) PD
        obtain ⟨x1, -⟩ := blk_cell (i := 1) PD
        simp at x0 x1
        clear hR hbr PD
        go_wp2_with fail
        refine (HSr.out.doC HE0.out (t := t) (HT0.out.ext HSr.out.bel) HFW.out.dat HFW.out.ob).mono ?_
        rintro e w5 ⟨rfl, hS5, hf5⟩
        have hsm : Same (fun k => k ≠ b) wd w5 := ⟨hf5.size, fun j hj hl => hf5.block j hl fun e => hj e⟩
        have HN5 := Lib.hid ((HN4.out.ext HBR.out).mono hsm)
        have HWS5 := Lib.hid ((HR.out.sle.weak (A' := fun k => k ≠ b) fun k _ hk => by omega).mono hsm)
        have P5 := Lib.hid (dblk hS5.bel P0.out)
        have HOT := Lib.hid (fun n (h : n ≠ t.obj) => st_other HSr.out.ok t h)
        have HNO := Lib.hid (st_no (s := s) (t := t))
        have HS5 := Lib.hid hS5
        have HMO := Lib.hid HSr.out.ok
        generalize (stDo s t).1 = s' at *
        generalize (stDo s t).2 = E at *
        clear hS5 hf5 hsm HSr HR HBR x0 x1
        go_wp2_with fail
        go_loopw [16] (fun i wr => ∃ k : Nat, k ≤ N.length ∧ i = .int .i64 k ∧ Below w5.heap.size w5 wr) (fun i _ => N.length - (intOf i).toNat)
        case atStart => exact ⟨0, Nat.zero_le _, rfl, Below.refl _ _⟩
        case round =>
          obtain ⟨k, hk, rfl, hbr⟩ := hrel
          have HSr := Lib.hid (HS5.out.ext hbr)
          have PR := Lib.hid (dblk hbr P5.out)
          by_cases hlt : k < N.length
          · obtain ⟨g, off, rfl, hg, c0, -⟩ := Strs.at (HN5.out.ext hbr) hlt
            obtain ⟨g2, off2, da, dc, ka, kc, rfl, hg2, d0, d1, d2, hov⟩ := Obs.at (HWS5.out.ext hbr) (i := k) (by rw [wasN_len s (Nat.le_refl _)]; exact hlt)
            have hob : (wasN s N N.length)[k]'(by rw [wasN_len s (Nat.le_refl _)]; exact hlt) = s.obj N[k] := by simp [wasN]
            rw [hob] at d0 d1 d2 hov
            have hnm := HMEM.out N[k] (List.getElem_mem hlt)
            have hsz3 : (N[k]).size ≤ 1000000 := by omega
            have HI := Lib.hid hnm.1
            generalize N[k] = nm at *
            have hk5 : (0 : Int) ≤ k := by omega
            have hkl5 : (k : Int) < N.length := by omega
            have HOV := Lib.hid hov
            clear hnm hob hov
            go_wp2_with fail
            refine (HSr.out.getC nm hsz3).mono ?_
            rintro e w6 ⟨a6, c6, u6, q6, rfl, ho6, hb6, -⟩
            go_upto_region 20 with fail
            obtain ⟨w7, hw7⟩ : ∃ w7, w7 = w6.alloc (.cells #[.slice a6 (s'.obj nm).data.length c6, .slice u6 (s'.obj nm).keys.length q6, .int .i64 (s'.obj nm).seq] 41) := ⟨_, rfl⟩
            rw [← hw7]
            have h67 : Below w6.heap.size w6 w7 := by rw [hw7]; exact (Below.refl _ w6).alloc (Nat.le_refl _) _
            have hb7 : Below wr.heap.size wr w7 := hb6.trans (h67.mono hb6.size)
            have R7 : w7.heap[w6.heap.size]? = some (.cells #[.slice a6 (s'.obj nm).data.length c6, .slice u6 (s'.obj nm).keys.length q6, .int .i64 (s'.obj nm).seq] 41 (0, 0)) := by rw [hw7]; exact heap_alloc_new _ _
            have HV7 := Lib.hid (ho6.obv.ext h67)
            have HO7 := Lib.hid (HOV.out.ext hb7)
            have HWR : Hid (Below w5.heap.size w5 w7) := Lib.hid (hbr.trans (hb7.mono hbr.size))
            obtain ⟨y0, -⟩ := blk_cell (i := 0) R7
            obtain ⟨y1, -⟩ := blk_cell (i := 1) R7
            obtain ⟨y2, -⟩ := blk_cell (i := 2) R7
            obtain ⟨x0, -⟩ := blk_cell (i := 0) (dblk hb7 PR.out)
            simp at y0 y1 y2 x0
            have z0 := after_cell (cellExt hb7 c0)
            have z1 := after_cell x0
            have z2 := after_cell y0
            have z3 := after_cell y1
            have z4 := after_cell y2
            have z5 := after_cell (cellExt hb7 d0)
            have z6 := after_cell (cellExt hb7 d1)
            have z7 := after_cell (cellExt hb7 d2)
            have k6 := okl_of (HSr.out.ok.obj nm)
            have k7 := okl_of (HMO.out.obj nm)
            have HK6 : Hid ((s'.obj nm).keys.length ≤ 100000) := Lib.hid (by have := k6.keys; omega)
            have HK7 : Hid ((s.obj nm).keys.length ≤ 100000) := Lib.hid (by have := k7.keys; omega)
            clear c0 d0 d1 d2 y0 y1 y2 x0 R7 hw7 h67 hb7 hb6 ho6 k6 k7 hbr HOV
            by_cases hx : nm = t.obj
            · by_cases he : E = 0
              · have g0 : (nm.toList == t.obj.toList) = true := by rw [eqL]; simp [hx]
                have g1 : (E != 0) = false := by simp [he]
                have g2 : (E == 0) = true := by simp [he]
                clear hx he
                (refine wp_region_after (by kernel_rfl) (by kernel_rfl) ?_
                 repeat (first | go_big_quiet_skip | (go_big_quiet_want; go_big_quiet_op; (first | go_big_quiet_on | (apply Exists.intro; refine ⟨fun _ => ?_, ?_⟩; (focus ((fail))); go_big_quiet_on))))
                 refine wpQuiet_nil ?_
                 intro _ hw'
                 obtain ⟨nq, hw''⟩ := hw'
                 subst hw''
                 have hq := nq.h)
                go_wp2
                go_roundw
                case rel => exact ⟨k + 1, by omega, by go_num, HWR.out.trans (hq.mono HWR.out.size)⟩
                case measure => simp [intOf]; omega
              · have g0 : (nm.toList == t.obj.toList) = true := by rw [eqL]; simp [hx]
                have g1 : (E != 0) = true := by simpa using he
                have g2 : (E == 0) = false := by simpa using he
                have hss := HNO.out he
                subst hss
                rw [HI.out]
                have HSM : Hid (∀ n : After w7, Calls Tryz.prog 17 #[_, _] n.w fun e w' => e = .returned (.bool true) ∧ Below n.w.heap.size n.w w') := Lib.hid fun n => by
                  have := rsame_any _ _ _ _ _ _ n.w (HV7.out.ext n.h) (HO7.out.ext n.h) HK6.out HK6.out
                  rw [sameB_self] at this
                  exact this
                clear hx he
                (refine wp_region_after (by kernel_rfl) (by kernel_rfl) ?_
                 repeat (first | go_big_quiet_skip | (go_big_quiet_want; go_big_quiet_op; (first | go_big_quiet_on | (apply Exists.intro; refine ⟨fun _ => ?_, ?_⟩; (focus (((go_at_call 17; exact calls_after (HSM.out _))))); go_big_quiet_on))))
                 refine wpQuiet_nil ?_
                 intro _ hw'
                 obtain ⟨nq, hw''⟩ := hw'
                 subst hw''
                 have hq := nq.h)
                go_wp2
                go_roundw
                case rel => exact ⟨k + 1, by omega, by go_num, HWR.out.trans (hq.mono HWR.out.size)⟩
                case measure => simp [intOf]; omega
            · have g0 : (nm.toList == t.obj.toList) = false := by rw [eqL]; simp [hx]
              have hot := HOT.out nm hx
              rw [hot.1] at HV7 HK6
              rw [hot.1] at z2 z3
              rw [hot.1] at z4
              rw [hot.2, HI.out]
              have HSM : Hid (∀ n : After w7, Calls Tryz.prog 17 #[_, _] n.w fun e w' => e = .returned (.bool true) ∧ Below n.w.heap.size n.w w') := Lib.hid fun n => by
                have := rsame_any _ _ _ _ _ _ n.w (HV7.out.ext n.h) (HO7.out.ext n.h) HK6.out HK6.out
                rw [sameB_self] at this
                exact this
              clear hx hot
              (refine wp_region_after (by kernel_rfl) (by kernel_rfl) ?_
               repeat (first | go_big_quiet_skip | (go_big_quiet_want; go_big_quiet_op; (first | go_big_quiet_on | (apply Exists.intro; refine ⟨fun _ => ?_, ?_⟩; (focus (((go_at_call 17; exact calls_after (HSM.out _))))); go_big_quiet_on))))
               refine wpQuiet_nil ?_
               intro _ hw'
               obtain ⟨nq, hw''⟩ := hw'
               subst hw''
               have hq := nq.h)
              go_wp2
              go_roundw
              case rel => exact ⟨k + 1, by omega, by go_num, HWR.out.trans (hq.mono HWR.out.size)⟩
              case measure => simp [intOf]; omega
          · obtain rfl : k = N.length := by omega
            obtain ⟨wq, rfl⟩ : ∃ wq, wq = wr := ⟨_, rfl⟩
            have HNq := Lib.hid (HN5.out.ext hbr)
            clear hbr HN5 HWS5 HMO HOT HNO HS5
            go_wp2_with fail
            refine (HSr.out.namesC ⟨#[]⟩).mono ?_
            rw [namesP_all]
            rintro e w6 ⟨a6, c6, rfl, hn6, hb6, hS6⟩
            have HS6 := Lib.hid hS6
            have HNQ6 := Lib.hid (HNq.out.ext hb6)
            have P6 := Lib.hid (dblk hb6 PR.out)
            have hL : (allN s'.l).length = s'.l.length := by simp [allN]
            obtain ⟨M, hM⟩ : ∃ M, M = allN s'.l := ⟨_, rfl⟩
            have hU : ∀ i (h : i + 1 < M.length), ltS (M[i]'(by omega)) M[i + 1] = true := by
              subst hM
              exact fun i h => allN_up HSr.out.ok.up h
            have HNM2 : Hid (∀ n, n ∈ M → n ∈ N ∨ n = t.obj ∧ E = 0) := Lib.hid fun n hn => HNM.out n (by rw [← hM]; exact hn)
            rw [← hM] at hL ⊢
            have HN6 : Hid (SlE Enc.str (fun b => wq.heap.size ≤ b) w6 (.slice a6 M.length c6) M) := Lib.hid (by rw [hM]; exact hn6)
            have HUP := Lib.hid hU
            have HML := Lib.hid hL
            have hml3 : M.length ≤ 1000 := by have := HSr.out.ok.len; have := HSr.out.ok.room; omega
            clear hn6 hb6 hS6 hU hL hM HNM HSr HNq PR
            go_wp2_with fail
            go_loopw [20] (fun i wr => ∃ k : Nat, k ≤ M.length ∧ i = .int .i64 k ∧ Below w6.heap.size w6 wr) (fun i _ => M.length - (intOf i).toNat)
            case atStart => exact ⟨0, Nat.zero_le _, rfl, Below.refl _ _⟩
            case round =>
              obtain ⟨k, hk, rfl, hbr⟩ := hrel
              have HBR := Lib.hid hbr
              by_cases hlt : k < M.length
              · obtain ⟨g, off, rfl, hg, c0, -⟩ := Strs.at (HN6.out.ext hbr) hlt
                obtain ⟨x0, -⟩ := blk_cell (i := 0) (dblk hbr P6.out)
                simp at x0
                have HRS : Hid (∀ i, i + 1 = k → ∃ pn, w6.cell? ⟨g, off + i, none⟩ = some (.string pn) ∧ Op.bytesLess pn.toList (M[k]).toList = true) := Lib.hid (by
                  intro i hi
                  subst hi
                  obtain ⟨g', off', e', -, c0', -⟩ := Strs.at HN6.out (i := i) (by omega)
                  simp only [Option.some.injEq, Addr.mk.injEq] at e'
                  obtain ⟨rfl, rfl, -⟩ := e'
                  exact ⟨_, c0', HUP.out i hlt⟩)
                have HC6 : Hid (w6.cell? ⟨g, off + k, none⟩ = some (.string M[k])) := Lib.hid (by
                  obtain ⟨g', off', e', -, c0', -⟩ := Strs.at HN6.out hlt
                  simp only [Option.some.injEq, Addr.mk.injEq] at e'
                  obtain ⟨rfl, rfl, -⟩ := e'
                  exact c0')
                have HTA := Lib.hid (thrN_all (HNM2.out M[k] (List.getElem_mem hlt)))
                generalize M[k] = nm at *
                have hk5 : (0 : Int) ≤ k := by omega
                have hkl5 : (k : Int) < M.length := by omega
                have hxe := eqL nm t.obj
                have HT0 := Lib.hid (thrN_zero nm t.obj E N)
                have hbe : (E == 0) = decide (E = 0) := by
                  by_cases h : E = 0 <;> simp [h]
                clear hbr
                go_upto_region 26 with fail
                go_cut [21] (fun q wx => q = .bool (thrN nm t.obj E N 0) ∧ Below w6.heap.size w6 wx)
                case first =>
                  by_cases hx : nm = t.obj
                  · have hxt : decide (nm = t.obj) = true := by simp [hx]
                    rw [hxt] at hxe HT0
                    by_cases he : E = 0
                    · have het : decide (E = 0) = true := by simp [he]
                      rw [het] at hbe HT0
                      clear hx hxt he het
                      go_quiet (fail)
                      go_wp2
                      go_meet
                      exact ⟨by rw [HT0.out]; rfl, HBR.out.trans (by ((repeat' (first | exact Below.refl _ _ | refine below_drewN ?_ _ | refine Below.drew ?_ | refine Below.alloc ?_ ?_ _ | refine Below.trans ?_ (Below.mono (by assumption) ?_))); all_goals (first | exact Nat.le_refl _ | exact Below.size (by assumption) | omega | (simp; done) | (simp; omega))))⟩
                    · have het : decide (E = 0) = false := by simp [he]
                      rw [het] at hbe HT0
                      clear hx hxt he het
                      go_quiet (fail)
                      go_wp2
                      go_meet
                      exact ⟨by rw [HT0.out]; rfl, HBR.out.trans (by ((repeat' (first | exact Below.refl _ _ | refine below_drewN ?_ _ | refine Below.drew ?_ | refine Below.alloc ?_ ?_ _ | refine Below.trans ?_ (Below.mono (by assumption) ?_))); all_goals (first | exact Nat.le_refl _ | exact Below.size (by assumption) | omega | (simp; done) | (simp; omega))))⟩
                  · have hxt : decide (nm = t.obj) = false := by simp [hx]
                    rw [hxt] at hxe HT0
                    clear hx hxt
                    go_quiet (fail)
                    go_wp2
                    go_meet
                    exact ⟨by rw [HT0.out]; rfl, HBR.out.trans (by ((repeat' (first | exact Below.refl _ _ | refine below_drewN ?_ _ | refine Below.drew ?_ | refine Below.alloc ?_ ?_ _ | refine Below.trans ?_ (Below.mono (by assumption) ?_))); all_goals (first | exact Nat.le_refl _ | exact Below.size (by assumption) | omega | (simp; done) | (simp; omega))))⟩
                case rest =>
                  obtain ⟨rfl, hwc⟩ := hcut
                  have HWC := Lib.hid hwc
                  clear hwc c0 x0 hxe hbe HT0 HBR
                  go_wp2_with fail
                  obtain ⟨wo, rfl⟩ : ∃ wo : World, wo = wr := ⟨_, rfl⟩
                  go_loopw [21, 22] (fun q i wr => ∃ j : Nat, j ≤ N.length ∧ i = .int .i64 j ∧ q = .bool (thrN nm t.obj E N j) ∧ Below w6.heap.size w6 wr) (fun _ i _ => N.length - (intOf i).toNat)
                  case atStart => exact ⟨0, Nat.zero_le _, rfl, rfl, HWC.out⟩
                  case round =>
                    obtain ⟨j, hj, rfl, rfl, hbr⟩ := hrel
                    have HBR := Lib.hid hbr
                    have c1 := cellExt hbr HC6.out
                    by_cases hlj : j < N.length
                    · obtain ⟨g2, off2, rfl, hg2, d0, -⟩ := Strs.at (HNQ6.out.ext hbr) hlj
                      have HTS := Lib.hid (thrN_succ nm t.obj E hlj)
                      generalize N[j] = nj at *
                      have hj5 : (0 : Int) ≤ j := by omega
                      have hjl5 : (j : Int) < N.length := by omega
                      have hxe := eqL nj nm
                      clear hbr
                      generalize thrN nm t.obj E N j = T at *
                      go_upto_region 30 with fail
                      cases T with
                      | true =>
                        go_quiet (fail)
                        go_wp2
                        go_roundw
                        case rel => exact ⟨j + 1, by omega, by go_num, by rw [HTS.out]; rfl, HBR.out.trans (by ((repeat' (first | exact Below.refl _ _ | refine below_drewN ?_ _ | refine Below.drew ?_ | refine Below.alloc ?_ ?_ _ | refine Below.trans ?_ (Below.mono (by assumption) ?_))); all_goals (first | exact Nat.le_refl _ | exact Below.size (by assumption) | omega | (simp; done) | (simp; omega))))⟩
                        case measure => simp [intOf]; omega
                      | false =>
                        by_cases hx : nj = nm
                        · have hxt : decide (nj = nm) = true := by simp [hx]
                          rw [hxt] at hxe HTS
                          clear hx hxt
                          go_quiet (fail)
                          go_wp2
                          go_roundw
                          case rel => exact ⟨j + 1, by omega, by go_num, by rw [HTS.out]; rfl, HBR.out.trans (by ((repeat' (first | exact Below.refl _ _ | refine below_drewN ?_ _ | refine Below.drew ?_ | refine Below.alloc ?_ ?_ _ | refine Below.trans ?_ (Below.mono (by assumption) ?_))); all_goals (first | exact Nat.le_refl _ | exact Below.size (by assumption) | omega | (simp; done) | (simp; omega))))⟩
                          case measure => simp [intOf]; omega
                        · have hxt : decide (nj = nm) = false := by simp [hx]
                          rw [hxt] at hxe HTS
                          clear hx hxt
                          go_quiet (fail)
                          go_wp2
                          go_roundw
                          case rel => exact ⟨j + 1, by omega, by go_num, by rw [HTS.out]; rfl, HBR.out.trans (by ((repeat' (first | exact Below.refl _ _ | refine below_drewN ?_ _ | refine Below.drew ?_ | refine Below.alloc ?_ ?_ _ | refine Below.trans ?_ (Below.mono (by assumption) ?_))); all_goals (first | exact Nat.le_refl _ | exact Below.size (by assumption) | omega | (simp; done) | (simp; omega))))⟩
                          case measure => simp [intOf]; omega
                    · obtain rfl : j = N.length := by omega
                      rw [HTA.out]
                      clear hbr
                      go_upto_region 31 with fail
                      rcases Nat.eq_zero_or_pos k with h0 | hp
                      · have g0 : decide ((0 : Int) < k) = false := by simp; omega
                        have g1 : decide (0 < k) = false := by simp; omega
                        clear h0
                        go_quiet (fail)
                        go_wp2
                        go_roundw
                        case rel => exact ⟨k + 1, by omega, by go_num, HBR.out.trans (by ((repeat' (first | exact Below.refl _ _ | refine below_drewN ?_ _ | refine Below.drew ?_ | refine Below.alloc ?_ ?_ _ | refine Below.trans ?_ (Below.mono (by assumption) ?_))); all_goals (first | exact Nat.le_refl _ | exact Below.size (by assumption) | omega | (simp; done) | (simp; omega))))⟩
                        case measure => simp [intOf]; omega
                      · obtain ⟨i, hi⟩ : ∃ i, i + 1 = k := ⟨k - 1, by omega⟩
                        obtain ⟨pn, z0, hz⟩ := HRS.out i hi
                        have z1 := cellExt HBR.out z0
                        have hw1 : IntKind.i64.wrap ((k : Int) - 1) = (i : Int) := by rw [IntKind.wrap_i64]; omega
                        have hil : (i : Int) < M.length := by omega
                        have g0 : decide ((0 : Int) < k) = true := by simp; omega
                        have g1 : decide (0 < k) = true := by simp; omega
                        clear hi z0
                        go_quiet (fail)
                        go_wp2
                        go_roundw
                        case rel => exact ⟨k + 1, by omega, by go_num, HBR.out.trans (by ((repeat' (first | exact Below.refl _ _ | refine below_drewN ?_ _ | refine Below.drew ?_ | refine Below.alloc ?_ ?_ _ | refine Below.trans ?_ (Below.mono (by assumption) ?_))); all_goals (first | exact Nat.le_refl _ | exact Below.size (by assumption) | omega | (simp; done) | (simp; omega))))⟩
                        case measure => simp [intOf]; omega
              · obtain rfl : k = M.length := by omega
                have HSz := Lib.hid (HS6.out.ext hbr)
                have hln := HSz.out.lenC
                rw [← HML.out] at hln
                have HLC := Lib.hid hln
                clear hln hbr
                go_wp2_with fail
                refine HLC.out.mono ?_
                rintro e w' ⟨rfl, rfl⟩
                go_wp2
                go_ret
                exact ⟨rfl, dcall H0.out HSz.out.bel⟩
end Go.Proofs.YtohfckkgmijlnaaGreatDoor
