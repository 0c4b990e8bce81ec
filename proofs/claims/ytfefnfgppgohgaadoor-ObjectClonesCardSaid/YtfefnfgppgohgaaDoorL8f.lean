/- The walk of terrazzolaw08.ObjectClones. -/
import Derived.Test.YtfefnfgppgohgaaDoorCln8
import Derived.Test.YtfefnfgppgohgaaDoorL8c
import Derived.Deep.RegionHeldLaw
namespace Go.Proofs.YtfefnfgppgohgaaDoor
open Go.RowKit Go.WideShapes

instance (k : Int) : Decidable (plainK k) := by unfold plainK; infer_instance
theorem ltS_z (nm : ByteArray) : ltS nm (nm ++ ⟨#[122]⟩) = true := by
  unfold ltS
  rw [Lib.toList_data, Lib.toList_data]
  have e : (nm ++ (⟨#[122]⟩ : ByteArray)).data.toList = nm.data.toList ++ 122 :: [] := by simp
  rw [e]
  exact bl_app _ _ _
set_option maxRecDepth 100000 in
set_option maxHeartbeats 16000000 in
theorem clones_law (A B : Nat → Prop) (v : Value) (o : ObD) (nm : ByteArray) (la : Option Addr) (lc : Nat) (l : List OpD) (w : World) (hE : ErrT w) (hv : ObV A w v o) (hl : SlE Enc.op B w (.slice la l.length lc) l) :
    Calls Tryd.prog 6 #[v, .string nm, .slice la l.length lc] w (Says true w) := by
  obtain ⟨dva, kva, rfl, hda, hka⟩ := hv
  obtain ⟨da, dc, rfl⟩ := hda.shape
  obtain ⟨ka, kc, rfl⟩ := hka.shape
  have HA : Hid (ObV (fun b => b < w.heap.size) w _ o) := Lib.hid ((show ObV A w _ o from ⟨_, _, rfl, hda, hka⟩).weak fun b h _ => h)
  have HLS := Lib.hid (SlE.weak (A' := fun b => b < w.heap.size) hl fun b h _ => h)
  have HDA : Hid (RB (fun b => b < w.heap.size) w (.slice da o.data.length dc) o.data) := Lib.hid (RB.weak hda fun b h _ => h)
  have HE := Lib.hid hE
  clear hda hka hl hE
  go_enter Tryd.func6, Tryd.ntmps6
  go_wp2_with fail
  obtain ⟨w0, hw0⟩ : ∃ w0, w0 = w.alloc (.cells #[.slice da o.data.length dc, .slice ka o.keys.length kc, .int .i64 o.seq] 25) := ⟨_, rfl⟩
  rw [← hw0]
  have b0 : w0.heap[w.heap.size]? = some (.cells #[.slice da o.data.length dc, .slice ka o.keys.length kc, .int .i64 o.seq] 25 (0, 0)) := by rw [hw0]; exact heap_alloc_new _ _
  have hw : Below w.heap.size w w0 := by rw [hw0]; ((repeat' (first | exact Below.refl _ _ | refine below_drewN ?_ _ | refine Below.drew ?_ | refine Below.alloc ?_ ?_ _ | refine Below.trans ?_ (Below.mono (by assumption) ?_))); all_goals (first | exact Nat.le_refl _ | exact Below.size (by assumption) | omega | (simp; done) | (simp; omega)))
  clear hw0
  refine (awake_any _ (HE.out.ext hw)).mono ?_
  rintro e w1 ⟨rfl, hb1⟩
  have HW1 := Lib.hid (dcall hw hb1)
  have P1 := Lib.hid (dblk hb1 b0)
  clear hb1 b0 hw
  obtain ⟨y0, e0⟩ := blk_cell (i := 0) (P1.out)
  obtain ⟨y1, e1⟩ := blk_cell (i := 1) (P1.out)
  obtain ⟨y2, e2⟩ := blk_cell (i := 2) (P1.out)
  simp at y0 y1 y2
  go_wp2_with fail
  refine (few8_any _ _ o _ (HA.out.ext HW1.out)).mono ?_
  rintro e w2 ⟨p1, rfl, hf1, hb2⟩
  have HF1 := Lib.hid hf1
  have HW2 := Lib.hid (dcall HW1.out hb2)
  have P2 := Lib.hid (dblk hb2 P1.out)
  clear hb2 P1 HW1 hf1 y0 y1 y2 e0 e1 e2
  obtain ⟨y0, e0⟩ := blk_cell (i := 0) (P2.out)
  obtain ⟨y1, e1⟩ := blk_cell (i := 1) (P2.out)
  obtain ⟨y2, e2⟩ := blk_cell (i := 2) (P2.out)
  simp at y0 y1 y2
  rcases p1 with _ | _
  · go_wp2
    go_ret
    exact ⟨rfl, HW2.out⟩
  have HOK := Lib.hid (few8_okl (HF1.out rfl))
  have hkl := (HF1.out rfl).2.1
  clear HF1
  by_cases hl1 : (100 : Int) < nm.size
  · go_wp2
    go_ret
    exact ⟨rfl, HW2.out⟩
  have hl4 : decide ((100 : Int) < (nm.size : Int)) = false := decide_eq_false hl1
  clear hl1
  obtain ⟨od, ks, os⟩ := o
  simp only at *
  cases ks with
  | cons k0 kr =>
    have hn : 0 < (k0 :: kr).length := Nat.zero_lt_succ _
    clear HA HOK
    generalize (k0 :: kr).length = n at *
    have hl2 : (0 : Int) < n := by omega
    go_wp2
    go_ret
    exact ⟨rfl, HW2.out⟩
  | nil =>
  simp only [List.length_nil] at *
  obtain ⟨o, ho⟩ : ∃ o : ObD, o = ⟨od, [], os⟩ := ⟨_, rfl⟩
  have HK := Lib.hid (show o.keys = [] from by rw [ho])
  have HDD := Lib.hid (show o.data = od from by rw [ho])
  rw [← ho] at HA HOK
  clear ho hkl
  go_wp2_with fail
  refine (check_any _ _ o _ (HA.out.ext HW2.out) (by rw [HK.out]; simp)).mono ?_
  unfold ChkR
  rintro e w3 ⟨rfl, hb3⟩
  have HW3 := Lib.hid (dcall HW2.out hb3)
  have P3 := Lib.hid (dblk hb3 P2.out)
  clear hb3 P2 HW2 y0 y1 y2 e0 e1 e2
  obtain ⟨y0, e0⟩ := blk_cell (i := 0) (P3.out)
  obtain ⟨y1, e1⟩ := blk_cell (i := 1) (P3.out)
  obtain ⟨y2, e2⟩ := blk_cell (i := 2) (P3.out)
  simp at y0 y1 y2
  cases hm : mayB o with
  | false =>
    clear hm
    go_wp2
    go_ret
    exact ⟨rfl, HW3.out⟩
  | true =>
    have HM := Lib.hid hm
    clear hm
    go_wp2_with fail
    have hdo := do_any _ (fun _ => True) _ o true 11 0 0 nm none 0 [] w3 (HA.out.ext HW3.out) HOK.out (RB.nil _ _) (by simp) (HE.out.ext HW3.out)
    unfold opV at hdo
    refine hdo.mono ?_
    clear hdo
    intro e w4 h4
    cases hs : nameB nm with
    | false =>
      have hz : doB o true ⟨11, 0, 0, nm, []⟩ = ⟨⟨[], [], 0⟩, false, false, 2⟩ := clone_no HM.out HK.out hs
      rw [hz] at h4
      obtain ⟨a4, c4, u4, q4, rfl, hv4, hb4⟩ := h4.ways
      have HW4 := Lib.hid (dcall HW3.out hb4)
      clear h4 hv4 hb4 y0 y1 y2 e0 e1 e2 hz
      go_wp2_with fail
      refine (rname_any nm _).mono ?_
      rw [hs]
      rintro e w5 ⟨rfl, rfl⟩
      go_wp2
      go_ret
      exact ⟨rfl, below_nw HW4.out _⟩
    | true =>
      obtain ⟨c, hc, hcl⟩ := clone_first (off := 0) (n := 0) (d := []) HM.out HK.out hs
      rw [hc] at h4
      have HCL := Lib.hid hcl
      clear hc hcl
      obtain ⟨a4, c4, u4, q4, rfl, hv4, hb4⟩ := h4.ways
      have HW4 := Lib.hid (dcall HW3.out hb4)
      have P4 := Lib.hid (dblk hb4 P3.out)
      have HV4 : Hid (ObV _ w4 (.agg #[.slice a4 c.data.length c4, .slice u4 c.keys.length q4, .int .i64 c.seq]) c) := Lib.hid hv4
      clear h4 hv4 hb4 P3 y0 y1 y2 e0 e1 e2
      go_wp2_with fail
      obtain ⟨w5, hw5⟩ : ∃ w5, w5 = w4.alloc (.cells #[.slice a4 c.data.length c4, .slice u4 c.keys.length q4, .int .i64 c.seq] 25) := ⟨_, rfl⟩
      rw [← hw5]
      have hb5 : Below w4.heap.size w4 w5 := by rw [hw5]; ((repeat' (first | exact Below.refl _ _ | refine below_drewN ?_ _ | refine Below.drew ?_ | refine Below.alloc ?_ ?_ _ | refine Below.trans ?_ (Below.mono (by assumption) ?_))); all_goals (first | exact Nat.le_refl _ | exact Below.size (by assumption) | omega | (simp; done) | (simp; omega)))
      have HW5 := Lib.hid (dcall HW4.out hb5)
      have Q5 := Lib.hid (show w5.heap[w4.heap.size]? = some (.cells #[.slice a4 c.data.length c4, .slice u4 c.keys.length q4, .int .i64 c.seq] 25 (0, 0)) from by rw [hw5]; exact heap_alloc_new _ _)
      have P5 := Lib.hid (dblk hb5 P4.out)
      have HV5 := Lib.hid ((HV4.out.weak (A' := fun b => b ≠ w4.heap.size) fun b h _ => by omega).ext hb5)
      have hpc : w.heap.size < w4.heap.size := (Array.getElem?_eq_some_iff.1 P4.out).1
      clear hw5 hb5 P4 HV4 HW4 HW3
      generalize w4.heap.size = pc at *
      refine (rname_any nm _).mono ?_
      rw [hs]
      rintro e w6 ⟨rfl, rfl⟩
      clear hs
      go_wp2
      go_loopw [13] (fun q13 wr => ∃ k : Nat, k ≤ l.length ∧ k ≤ 12 ∧ q13 = .int .i64 k ∧ ∃ (c : ObD) (a : Option Addr) (cc : Nat) (u : Option Addr) (q : Nat), wr.heap[w.heap.size]? = some (.cells #[.slice da od.length dc, .slice ka 0 kc, .int .i64 os] 25 (0, 0)) ∧ wr.heap[pc]? = some (.cells #[.slice a c.data.length cc, .slice u c.keys.length q, .int .i64 c.seq] 25 (0, 0)) ∧
        ObV (fun b => b ≠ pc) wr (.agg #[.slice a c.data.length cc, .slice u c.keys.length q, .int .i64 c.seq]) c ∧ Cloned c nm od ∧ Below w.heap.size w wr) (fun q13 _ => 12 - (intOf q13).toNat)
      case atStart => exact ⟨0, Nat.zero_le _, by omega, rfl, c, _, _, _, _, P5.out, Q5.out, HV5.out, HDD.out ▸ HCL.out, HW5.out⟩
      case round =>
        obtain ⟨k, hk, hk12, rfl, c, a, cc, u, q, hP, hQ, hV, hC, hB⟩ := hrel
        have HP := Lib.hid hP
        have HQ := Lib.hid hQ
        have HV := Lib.hid hV
        have HC := Lib.hid hC
        have HB := Lib.hid hB
        have hpr : pc < wr.heap.size := (Array.getElem?_eq_some_iff.1 hQ).1
        clear hP hQ hV hC hB HV5 P5 Q5 HW5 HCL
        obtain ⟨y0, e0⟩ := blk_cell (i := 0) (HQ.out)
        obtain ⟨y1, e1⟩ := blk_cell (i := 1) (HQ.out)
        obtain ⟨y2, e2⟩ := blk_cell (i := 2) (HQ.out)
        simp at y0 y1 y2
        by_cases hgo : k < l.length ∧ k < 12
        · obtain ⟨hlt, h12⟩ := hgo
          have h12' : (k : Int) < 12 := by omega
          obtain ⟨b, off, x, rfl, hb, hbA, c0, c1, c2, c3, c4, hx⟩ := Ops.at (SlE.ext HLS.out HB.out) hlt
          obtain ⟨xa, xc, rfl⟩ := hx.shape
          have HXX := Lib.hid hx
          generalize l[k] = op at *
          obtain ⟨ok, oo, on, onm, opd⟩ := op
          simp only at c0 c1 c2 c3 c4 HXX
          clear hx
          go_upto_region 14 with fail
          obtain ⟨w6, hw6⟩ : ∃ w6, w6 = wr.alloc (.cells #[.int .i64 ok, .int .i64 oo, .int .i64 on, .string onm, .slice xa opd.length xc] 27) := ⟨_, rfl⟩
          rw [← hw6]
          have hb6 : Below wr.heap.size wr w6 := by rw [hw6]; ((repeat' (first | exact Below.refl _ _ | refine below_drewN ?_ _ | refine Below.drew ?_ | refine Below.alloc ?_ ?_ _ | refine Below.trans ?_ (Below.mono (by assumption) ?_))); all_goals (first | exact Nat.le_refl _ | exact Below.size (by assumption) | omega | (simp; done) | (simp; omega)))
          have R6 := Lib.hid (show w6.heap[wr.heap.size]? = some (.cells #[.int .i64 ok, .int .i64 oo, .int .i64 on, .string onm, .slice xa opd.length xc] 27 (0, 0)) from by rw [hw6]; exact heap_alloc_new _ _)
          have Q6 := Lib.hid (dblk hb6 HQ.out)
          have P6 := Lib.hid (dblk hb6 HP.out)
          have V6 := Lib.hid (HV.out.ext hb6)
          have HX6 := Lib.hid (RB.ext HXX.out hb6)
          have HB6 := Lib.hid (dcall HB.out hb6)
          have hpr6 : pc < w6.heap.size := by have := hb6.size; omega
          clear hw6 hb6 y0 y1 y2 e0 e1 e2 c0 c1 c2 c3 c4 HQ HP HV HXX HB
          obtain ⟨z0, z1, z2, z3, z4⟩ := five_cells R6.out
          obtain ⟨SK, hSK⟩ : ∃ SK : Bool, SK = !(decide (plainK ok) && decide (opd.length ≤ 100)) := ⟨_, rfl⟩
          have HSK := Lib.hid hSK
          clear hSK
          go_cut [106] (fun s106 wx => s106 = .bool SK ∧ w6 = wx)
          case first =>
            by_cases h5 : plainK ok
            · by_cases h100 : opd.length ≤ 100
              · obtain rfl : SK = false := by rw [HSK.out]; simp [h5, h100]
                have h100' : ¬ (100 : Int) < opd.length := by omega
                clear h100 HSK
                unfold plainK at h5
                rcases h5 with rfl | rfl | rfl | rfl | rfl <;> (go_wp2_with fail; go_meet; exact ⟨rfl, rfl⟩)
              · obtain rfl : SK = true := by rw [HSK.out]; simp [h100]
                have h100' : (100 : Int) < opd.length := by omega
                clear h100 HSK
                unfold plainK at h5
                rcases h5 with rfl | rfl | rfl | rfl | rfl <;> (go_wp2_with fail; go_meet; exact ⟨rfl, rfl⟩)
            · obtain rfl : SK = true := by rw [HSK.out]; simp [h5]
              unfold plainK at h5
              have t5 : (ok != 5) = true := by simp; omega
              have t6 : (ok != 6) = true := by simp; omega
              have t7 : (ok != 7) = true := by simp; omega
              have t8 : (ok != 8) = true := by simp; omega
              have t12 : (ok != 12) = true := by simp; omega
              have s5 : (ok == 5) = false := by simp; omega
              have s6 : (ok == 6) = false := by simp; omega
              have s7 : (ok == 7) = false := by simp; omega
              have s8 : (ok == 8) = false := by simp; omega
              have s12 : (ok == 12) = false := by simp; omega
              clear h5 HSK
              go_wp2_with fail
              go_meet
              exact ⟨rfl, rfl⟩
          case rest =>
            obtain ⟨rfl, rfl⟩ := hcut
            obtain ⟨y0, e0⟩ := blk_cell (i := 0) (Q6.out)
            obtain ⟨y1, e1⟩ := blk_cell (i := 1) (Q6.out)
            obtain ⟨y2, e2⟩ := blk_cell (i := 2) (Q6.out)
            simp at y0 y1 y2
            cases SK with
            | true =>
              go_wp2
              go_roundw
              case rel => exact ⟨k + 1, by omega, by omega, by go_num, c, a, cc, u, q, P6.out, Q6.out, V6.out, HC.out, HB6.out⟩
              case measure => simp [intOf]; omega
            | false =>
              have hpk : plainK ok ∧ opd.length ≤ 100 := by
                have := HSK.out
                simp at this
                exact this
              have HPK := Lib.hid hpk.1
              have hol := hpk.2
              clear hpk HSK
              go_wp2_with fail
              have hdo := do_any _ _ _ c true ok oo on onm xa xc opd w6 V6.out (okl_of HC.out.may) HX6.out (by omega) (HE.out.ext HB6.out)
              have hst : (doB c true ⟨ok, oo, on, onm, opd⟩).e = 0 → Cloned (doB c true ⟨ok, oo, on, onm, opd⟩).o nm od := fun h => clnd_step HC.out HPK.out h
              unfold opV at hdo
              generalize doB c true ⟨ok, oo, on, onm, opd⟩ = X at *
              obtain ⟨xo, xt, xn, xe⟩ := X
              have HST := Lib.hid hst
              refine hdo.mono ?_
              clear hdo hst
              intro e w7 h7
              obtain ⟨a7, c7, u7, q7, rfl, hv7, hb7⟩ := h7.ways
              have HV7 : Hid (ObV _ w7 (.agg #[.slice a7 xo.data.length c7, .slice u7 xo.keys.length q7, .int .i64 xo.seq]) xo) := Lib.hid (hv7.weak (A' := fun b => b ≠ pc) fun b _ h => by omega)
              have Q7 := Lib.hid (dblk hb7 Q6.out)
              have P7 := Lib.hid (dblk hb7 P6.out)
              have V7 := Lib.hid (V6.out.ext hb7)
              have HB7 := Lib.hid (dcall HB6.out hb7)
              have hpr7 : pc < w7.heap.size := by have := hb7.size; omega
              clear h7 hv7 hb7 Q6 P6 V6 HX6 HB6 z0 z1 z2 z3 z4 y0 y1 y2 e0 e1 e2 R6
              obtain ⟨y0, e0⟩ := blk_cell (i := 0) (Q7.out)
              obtain ⟨y1, e1⟩ := blk_cell (i := 1) (Q7.out)
              obtain ⟨y2, e2⟩ := blk_cell (i := 2) (Q7.out)
              simp at y0 y1 y2
              by_cases hxe : xe = 0
              · subst hxe
                have HCX := Lib.hid (HST.out rfl)
                go_wp2
                go_roundw
                case rel => exact ⟨k + 1, by omega, by omega, by go_num, xo, a7, c7, u7, q7, dnew (dset3 rfl (show w.heap.size ≠ pc by omega) P7.out) _, dnew (set3_blk Q7.out) _, (HV7.out.mono ⟨by simp [World.setCell], fun b hb _ => set3_ne _ _ _ _ _ hb⟩).ext ((Below.refl _ _).alloc (Nat.le_refl _) _), HCX.out, below_nw (below3 HB7.out (Nat.le_of_lt hpc) _ _ _) _⟩
                case measure => simp [intOf]; omega
              · have q1 : (xe != 0) = true := by simpa using hxe
                have q2 : (xe == 0) = false := by simpa using hxe
                clear hxe
                go_wp2
                go_roundw
                case rel => exact ⟨k + 1, by omega, by omega, by go_num, c, a, cc, u, q, dnew P7.out _, dnew Q7.out _, V7.out.ext ((Below.refl _ _).alloc (Nat.le_refl _) _), HC.out, below_nw HB7.out _⟩
                case measure => simp [intOf]; omega
        · go_upto_region 11 with fail
          go_cut [71] (fun s71 wx => s71 = .bool false ∧ wr = wx)
          case first =>
            by_cases hlt : k < l.length
            · have h12 : ¬ (k : Int) < 12 := by omega
              clear hgo
              go_wp2_with fail
              go_meet
              exact ⟨rfl, rfl⟩
            · clear hgo
              go_wp2_with fail
              go_meet
              exact ⟨rfl, rfl⟩
          case rest =>
            obtain ⟨rfl, rfl⟩ := hcut
            clear hgo
            have hod : od.length ≤ 64 := by have := ((mayB_iff o).1 HM.out).1; rw [HDD.out] at this; exact this
            go_wp2_with fail
            have hdo := do_any _ (fun _ => True) _ c true 11 0 0 nm none 0 [] wr HV.out (okl_of HC.out.may) (RB.nil _ _) (by simp) (HE.out.ext HB.out)
            unfold opV at hdo
            rw [clone_again HC.out] at hdo
            refine hdo.mono ?_
            clear hdo
            intro e w8 h8
            obtain ⟨a8, c8, u8, q8, rfl, hv8, hb8⟩ := h8.ways
            have HD8 : Hid (ObV _ w8 (.agg #[.slice a8 c.data.length c8, .slice u8 c.keys.length q8, .int .i64 c.seq]) c) := Lib.hid hv8
            have Q8 := Lib.hid (dblk hb8 HQ.out)
            have P8 := Lib.hid (dblk hb8 HP.out)
            have V8 := Lib.hid (HV.out.ext hb8)
            have HB8 := Lib.hid (dcall HB.out hb8)
            clear h8 hv8 hb8 HQ HP HV HB y0 y1 y2 e0 e1 e2
            go_upto_region 19 with fail
            obtain ⟨w9, hw9⟩ : ∃ w9, w9 = w8.alloc (.cells #[.slice a8 c.data.length c8, .slice u8 c.keys.length q8, .int .i64 c.seq] 25) := ⟨_, rfl⟩
            rw [← hw9]
            have hb9 : Below w8.heap.size w8 w9 := by rw [hw9]; ((repeat' (first | exact Below.refl _ _ | refine below_drewN ?_ _ | refine Below.drew ?_ | refine Below.alloc ?_ ?_ _ | refine Below.trans ?_ (Below.mono (by assumption) ?_))); all_goals (first | exact Nat.le_refl _ | exact Below.size (by assumption) | omega | (simp; done) | (simp; omega)))
            have D9 := Lib.hid (show w9.heap[w8.heap.size]? = some (.cells #[.slice a8 c.data.length c8, .slice u8 c.keys.length q8, .int .i64 c.seq] 25 (0, 0)) from by rw [hw9]; exact heap_alloc_new _ _)
            have Q9 := Lib.hid (dblk hb9 Q8.out)
            have P9 := Lib.hid (dblk hb9 P8.out)
            have V9 := Lib.hid (V8.out.ext hb9)
            have HD9 := Lib.hid (HD8.out.ext hb9)
            have HB9 := Lib.hid (dcall HB8.out hb9)
            clear hw9 hb9 Q8 P8 V8 HD8 HB8
            obtain ⟨y0, e0⟩ := blk_cell (i := 0) (D9.out)
            obtain ⟨y1, e1⟩ := blk_cell (i := 1) (D9.out)
            obtain ⟨y2, e2⟩ := blk_cell (i := 2) (D9.out)
            simp at y0 y1 y2
            go_wp2_with fail
            have hdo := do_any _ (fun _ => True) _ c true 14 0 0 nm none 0 [] w9 HD9.out (okl_of HC.out.may) (RB.nil _ _) (by simp) (HE.out.ext HB9.out)
            unfold opV at hdo
            rw [clone_from HC.out hod] at hdo
            obtain ⟨N, hN⟩ : ∃ N : ObD, N = { c with data := od } := ⟨_, rfl⟩
            rw [← hN] at hdo
            have HN := Lib.hid (show N.data = od from by rw [hN])
            refine hdo.mono ?_
            clear hdo hN
            intro e wA hA
            obtain ⟨aA, cA, uA, qA, rfl, hvA, hbA⟩ := hA.ways
            have HNA : Hid (ObV _ wA (.agg #[.slice aA N.data.length cA, .slice uA N.keys.length qA, .int .i64 N.seq]) N) := Lib.hid hvA
            have DA := Lib.hid (dblk hbA D9.out)
            have QA := Lib.hid (dblk hbA Q9.out)
            have PA := Lib.hid (dblk hbA P9.out)
            have VA := Lib.hid (V9.out.ext hbA)
            have HDA' := Lib.hid (HD9.out.ext hbA)
            have HBA := Lib.hid (dcall HB9.out hbA)
            clear hA hvA hbA D9 Q9 P9 V9 HD9 HB9 y0 y1 y2 e0 e1 e2
            go_upto_region 20 with fail
            obtain ⟨wB, hwB⟩ : ∃ wB, wB = wA.alloc (.cells #[.slice aA N.data.length cA, .slice uA N.keys.length qA, .int .i64 N.seq] 25) := ⟨_, rfl⟩
            rw [← hwB]
            have hbB : Below wA.heap.size wA wB := by rw [hwB]; ((repeat' (first | exact Below.refl _ _ | refine below_drewN ?_ _ | refine Below.drew ?_ | refine Below.alloc ?_ ?_ _ | refine Below.trans ?_ (Below.mono (by assumption) ?_))); all_goals (first | exact Nat.le_refl _ | exact Below.size (by assumption) | omega | (simp; done) | (simp; omega)))
            have EB := Lib.hid (show wB.heap[wA.heap.size]? = some (.cells #[.slice aA N.data.length cA, .slice uA N.keys.length qA, .int .i64 N.seq] 25 (0, 0)) from by rw [hwB]; exact heap_alloc_new _ _)
            have DB := Lib.hid (dblk hbB DA.out)
            have QB := Lib.hid (dblk hbB QA.out)
            have PB := Lib.hid (dblk hbB PA.out)
            have VB := Lib.hid (VA.out.ext hbB)
            have HDB := Lib.hid (HDA'.out.ext hbB)
            have HNB := Lib.hid (HNA.out.ext hbB)
            have HBB := Lib.hid (dcall HBA.out hbB)
            clear hwB hbB DA QA PA VA HDA' HNA HBA
            obtain ⟨y0, -, -⟩ := three_cells PB.out
            obtain ⟨x0, x1, x2⟩ := three_cells QB.out
            obtain ⟨z0, z1, z2⟩ := three_cells DB.out
            obtain ⟨t0, -, -⟩ := three_cells EB.out
            have k1 : Hid (∀ W, Below wB.heap.size wB W → (Go.convert 22 9 (.slice da od.length dc)).run Tryd.prog W = .ok (.string ⟨od.toArray⟩) W) := Lib.hid fun W h => cnv_bytes HDA.out W (dcall HBB.out h)
            have k2 : Hid (∀ W, Below wB.heap.size wB W → (Go.convert 22 9 (.slice aA N.data.length cA)).run Tryd.prog W = .ok (.string ⟨od.toArray⟩) W) := Lib.hid fun W h => HN.out ▸ cnv_bytes (obv_data HNB.out) W h
            have k3 : Hid (∀ W, Below wB.heap.size wB W → (Go.convert 22 9 (.slice a c.data.length cc)).run Tryd.prog W = .ok (.string ⟨c.data.toArray⟩) W) := Lib.hid fun W h => cnv_bytes (obv_data VB.out) W h
            have hcells : Hid (∀ W, Below wB.heap.size wB W → Below wB.heap.size wB W ∧ W.cell? ⟨w.heap.size, 0, none⟩ = some (.slice da od.length dc) ∧ W.cell? ⟨pc, 0, none⟩ = some (.slice a c.data.length cc) ∧ W.cell? ⟨pc, 1, none⟩ = some (.slice u c.keys.length q) ∧ W.cell? ⟨pc, 2, none⟩ = some (.int .i64 c.seq) ∧
                W.cell? ⟨w8.heap.size, 0, none⟩ = some (.slice a8 c.data.length c8) ∧ W.cell? ⟨w8.heap.size, 1, none⟩ = some (.slice u8 c.keys.length q8) ∧ W.cell? ⟨w8.heap.size, 2, none⟩ = some (.int .i64 c.seq) ∧ W.cell? ⟨wA.heap.size, 0, none⟩ = some (.slice aA N.data.length cA) ∧
                (Go.convert 22 9 (.slice da od.length dc)).run Tryd.prog W = .ok (.string ⟨od.toArray⟩) W ∧ (Go.convert 22 9 (.slice aA N.data.length cA)).run Tryd.prog W = .ok (.string ⟨od.toArray⟩) W ∧ (Go.convert 22 9 (.slice a c.data.length cc)).run Tryd.prog W = .ok (.string ⟨c.data.toArray⟩) W) := Lib.hid fun W h =>
              ⟨h, cellExt h y0, cellExt h x0, cellExt h x1, cellExt h x2, cellExt h z0, cellExt h z1, cellExt h z2, cellExt h t0, k1.out W h, k2.out W h, k3.out W h⟩
            have HQ1 := Lib.hid fun W (h : Below wB.heap.size wB W) => HC.out.at_ ▸ at_any _ _ c nm W (VB.out.ext h) (okl_of HC.out.may)
            have HQ2 := Lib.hid fun W (h : Below wB.heap.size wB W) => HC.out.at_ ▸ at_any _ _ c nm W (HDB.out.ext h) (okl_of HC.out.may)
            have HQ3 := Lib.hid fun W (h : Below wB.heap.size wB W) => (clone_other HC.out (ltS_z nm)) ▸ at_any _ _ c (nm ++ (⟨#[122]⟩ : ByteArray)) W (VB.out.ext h) (okl_of HC.out.may)
            clear x0 x1 x2 y0 z0 z1 z2 t0 k1 k2 k3
            have hnz : nm.size ≤ 100 := by simp at hl4; omega
            have hsa := fun W => run_string_add_sum (P := Tryd.prog) W nm ⟨#[122]⟩ (by show nm.size + 1 ≤ _; omega)
            go_region_held_law (fun W => Below wB.heap.size wB W ∧ W.cell? ⟨w.heap.size, 0, none⟩ = some (.slice da od.length dc) ∧ W.cell? ⟨pc, 0, none⟩ = some (.slice a c.data.length cc) ∧ W.cell? ⟨pc, 1, none⟩ = some (.slice u c.keys.length q) ∧ W.cell? ⟨pc, 2, none⟩ = some (.int .i64 c.seq) ∧
                W.cell? ⟨w8.heap.size, 0, none⟩ = some (.slice a8 c.data.length c8) ∧ W.cell? ⟨w8.heap.size, 1, none⟩ = some (.slice u8 c.keys.length q8) ∧ W.cell? ⟨w8.heap.size, 2, none⟩ = some (.int .i64 c.seq) ∧ W.cell? ⟨wA.heap.size, 0, none⟩ = some (.slice aA N.data.length cA) ∧
                (Go.convert 22 9 (.slice da od.length dc)).run Tryd.prog W = .ok (.string ⟨od.toArray⟩) W ∧ (Go.convert 22 9 (.slice aA N.data.length cA)).run Tryd.prog W = .ok (.string ⟨od.toArray⟩) W ∧ (Go.convert 22 9 (.slice a c.data.length cc)).run Tryd.prog W = .ok (.string ⟨c.data.toArray⟩) W)
              ((refine hcells.out _ ?_; first
                | (with_reducible exact Below.drew (Below.refl _ _))
                | (with_reducible exact hz6)
                | (with_reducible exact hz7)
                | (with_reducible exact hz8)))
              (first
                | (go_at_call 19; refine (HQ3.out _ hz7).mono ?_; rintro e w13 ⟨v13, rfl, h13, hb13⟩; obtain ⟨a13, c13, rfl⟩ := h13.rb.shape; have hz8 : Below wB.heap.size wB w13 := dcall hz7 hb13; have s4 := cnv_bytes h13.rb w13 (Below.refl _ _))
                | (go_at_call 19; refine (HQ2.out _ hz6).mono ?_; rintro e w12 ⟨v12, rfl, h12, hb12⟩; obtain ⟨a12, c12, rfl⟩ := h12.rb.shape; have hz7 : Below wB.heap.size wB w12 := dcall hz6 hb12; have s3 := cnv_bytes h12.rb w12 (Below.refl _ _))
                | (go_at_call 19; refine (HQ1.out _ (Below.drew (Below.refl _ _))).mono ?_; rintro e w11 ⟨v11, rfl, h11, hb11⟩; obtain ⟨a11, c11, rfl⟩ := h11.rb.shape; have hz6 : Below wB.heap.size wB w11 := dcall (Below.drew (Below.refl _ _)) hb11; have s2 := cnv_bytes h11.rb w11 (Below.refl _ _)))
            all_goals
              go_wp2
              go_ret
              exact ⟨rfl, dcall HBB.out hz8⟩
end Go.Proofs.YtfefnfgppgohgaaDoor
