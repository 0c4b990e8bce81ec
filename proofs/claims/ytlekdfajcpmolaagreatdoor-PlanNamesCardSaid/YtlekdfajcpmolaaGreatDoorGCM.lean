/- The walk of plan.parts. The walk of slices.Concat at operations. -/
import Derived.Test.YtlekdfajcpmolaaGreatDoorGCL
import Derived.Deep.RegionLaw
import Derived.Test.YtlekdfajcpmolaaGreatDoorGCJ
import Derived.Test.YtlekdfajcpmolaaGreatDoorGCY
import Derived.Test.YtlekdfajcpmolaaGreatDoorLaidQ
namespace Go.Proofs.YtlekdfajcpmolaaGreatDoor
open Go.RowKit Go.WideShapes

theorem pv_slices {base : Nat} {w : World} {pv : List PvD} {l : List PtD} (h : PcsOf base w pv l) (i : Nat) (hi : i < pv.length) : ∃ a n c, pv[i].v = .slice a n c := by
  have hl := h.len
  obtain ⟨-, -, -, e4⟩ := h.at_ i pv[i] l[i] (by simp) (by simp)
  obtain ⟨a, c, e⟩ := e4.shape
  exact ⟨a, _, c, e⟩
/-- a block of another type is not the row's -/
theorem EnRow.ne_blk {α : Type} {E : Enc α} {t u : TypeId} {A : Nat → Prop} {base B : Nat} {w : World} {v : Value} {l : List α} {cs : Array Value} (h : EnRow E t A base w v l) (hb : w.heap[B]? = some (.cells cs u (0, 0))) (hv : v.ownBlock = some B) (htu : t ≠ u := by decide) : False := by
  obtain ⟨ds, k1, k2, k3⟩ := h.ex
  rcases k3.2 with ⟨rfl, _⟩ | ⟨g', cap, cur, rfl, q1, q2, q3⟩
  · cases hv
  · have e : g' = B := Option.some.inj hv
    subst e
    rw [hb] at q2
    simp at q2
    exact htu q2.2.symm
theorem PcsOf.ext {base : Nat} {w w' : World} {pv : List PvD} {l : List PtD} (h : PcsOf base w pv l) (hb : Below w.heap.size w w') : PcsOf base w' pv l :=
  ⟨h.len, fun i x y hx hy => ⟨(h.at_ i x y hx hy).1, (h.at_ i x y hx hy).2.1, (h.at_ i x y hx hy).2.2.1, (h.at_ i x y hx hy).2.2.2.ext hb⟩, h.apart⟩
theorem PtAt.ext {base : Nat} {w w' : World} {out : Value} {l : List PtD} {k g c : Nat} {pv : List PvD} {x : PvD} (h : PtAt base w out l k g c pv x) (hb : Below w.heap.size w w') : PtAt base w' out l k g c pv x :=
  ⟨h.out, h.row.ext hb, h.of.ext hb, h.at_, h.lo, Nat.lt_of_lt_of_le h.hi hb.size, fun j hj => (hb.cell (p := ⟨g, k * 4 + j, none⟩) h.hi).trans (h.cells j hj), fun j => (hb.frozen (p := ⟨g, j, none⟩) h.hi).trans (h.free j)⟩
theorem PtAt.lt {base : Nat} {w : World} {out : Value} {l : List PtD} {k g c : Nat} {pv : List PvD} {x : PvD} (h : PtAt base w out l k g c pv x) : k < l.length := by
  have := (List.getElem?_eq_some_iff.1 h.at_).1
  have := h.of.len
  omega
set_option maxRecDepth 100000 in
set_option maxHeartbeats 4000000 in
theorem parts_any (u c o off n : Int) (w : World) (hob : ∀ p ∈ PCS u c o off n, 0 ≤ p.ob ∧ p.ob < 512) :
    Calls Tryz.prog 88 #[lay u c o, .int .i64 off, .int .i64 n] w fun e w' => ∃ v, e = .returned v ∧ SlE Enc.pt (fun b => w.heap.size ≤ b) w' v (partsC (PCS u c o off n)) ∧ Below w.heap.size w w' := by
  obtain ⟨hlen, hsm⟩ := PCS_small u c o off n
  have HOB := Lib.hid hob
  have HSM := Lib.hid hsm
  have HPI := Lib.hid (pieces_any u c o off n)
  clear hob hsm
  generalize PCS u c o off n = ps at *
  obtain ⟨i0, hi, hz0, hz1, hz2⟩ := info_parts Tryz.infoPc
  obtain ⟨j0, ji, jz0, jz1, jz2⟩ := info_parts Tryz.infoPv
  unfold lay at *
  go_enter Tryz.func88, Tryz.ntmps88
  go_wp2_with fail
  refine (HPI.out _).mono ?_
  rintro e w2 ⟨pvl, rfl, hsl, hb2⟩
  obtain ⟨pa, pc, rfl⟩ : ∃ a c, pvl = .slice a ps.length c := by
    rcases hsl.2 with ⟨e, h0⟩ | ⟨b, off, cap, e, -⟩
    · exact ⟨none, 0, by rw [e, h0]⟩
    · exact ⟨_, _, e⟩
  have HSL := Lib.hid hsl
  have HB2 : Hid (Below w.heap.size w w2) := Lib.hid (call19 (by ((repeat' (first | exact Below.refl _ _ | refine below_drewN ?_ _ | refine Below.drew ?_ | refine Below.alloc ?_ ?_ _ | refine Below.trans ?_ (Below.mono (by assumption) ?_))); all_goals (first | exact Nat.le_refl _ | exact Below.size (by assumption) | omega | (simp; done) | (simp; omega)))) hb2)
  clear hsl hb2
  go_wp2
  go_loopw [7, 9, 10, 16] (fun q7 _ _ q16 wr => ∃ k : Nat, k ≤ ps.length ∧ q16 = .int .i64 k ∧ PtsI w2.heap.size wr q7 ((ps.take k).foldl addPt []) ∧ Below w2.heap.size w2 wr) (fun _ _ _ q16 _ => ps.length - (intOf q16).toNat)
  case atStart => exact ⟨0, Nat.zero_le _, rfl, by simpa using PtsI.nil _ _, Below.refl _ _⟩
  case round =>
    rename_i wr
    obtain ⟨k, hk, rfl, hpt, hbel⟩ := hrel
    have HOK := Lib.hid (ptOk_fold HSM.out k hk)
    have HB := Lib.hid hbel
    have hl2 := HOK.out.len
    have hszr := hbel.size
    by_cases hlt : k < ps.length
    · have HTK := Lib.hid (addPt_snoc ps hlt)
      obtain ⟨b, off', rfl, -, hbs, c0, c1, c2, c3⟩ := pcs_lie (k := k) (HSL.out.mono hbel) hlt
      have hsmk := HSM.out ps[k] (List.getElem_mem _)
      generalize (ps.take k).foldl addPt [] = l at *
      generalize ps[k] = p at *
      obtain ⟨xo, xf, xl, xr⟩ := p
      simp only at c0 c1 c2 c3 hsmk
      obtain ⟨oa, oc, rfl⟩ := hpt.shape
      obtain ⟨pv, hpv, hof⟩ := hpt.ex
      have HPL := Lib.hid hof.len
      have HPT := Lib.hid hpt
      have HPV := Lib.hid hpv
      have HOF := Lib.hid hof
      have HIX := Lib.hid (idxV_is hof xo)
      have HSH := Lib.hid (pv_slices hof)
      clear hpt hpv hof hbel
      go_upto_region 5 with fail
      obtain ⟨W3, hW3⟩ : ∃ W3, W3 = wr.alloc (.cells #[.int .i64 xo, .int .i64 xf, .int .i64 xl, .int .i64 xr] 162) := ⟨_, rfl⟩
      have hb3 : Below wr.heap.size wr W3 := by rw [hW3]; exact (Below.refl _ wr).alloc (Nat.le_refl _) _
      have hx3 : W3.heap[wr.heap.size]? = some (.cells #[.int .i64 xo, .int .i64 xf, .int .i64 xl, .int .i64 xr] 162 (0, 0)) := by rw [hW3]; exact heap_alloc_new wr _
      have hs3 : wr.heap.size < W3.heap.size := by rw [hW3]; simp
      rw [← hW3]
      clear hW3
      have hc3 := (four_cells hx3).1.1
      have hr3 := SlE.ext (HPV.out.sle (A' := fun b => w2.heap.size ≤ b) (fun _ _ h => h.elim) fun _ h => h) hb3
      have hc5 := idxP_any (fun b => w2.heap.size ≤ b) oa oc pv xo wr.heap.size W3 hs3 hc3 (by rw [HPL.out]; exact hr3) (by have := HPL.out; omega) HSH.out
      rw [HPL.out] at hc5
      have HC := Lib.hid hc5
      have HX3 := Lib.hid hx3
      have HB3 := Lib.hid hb3
      clear hc5 hc3 hr3 hx3 hb3
      go_wp2_with fail
      refine HC.out.mono ?_
      rintro e w4 ⟨hway, hb4⟩
      have hbw : Below wr.heap.size wr w4 := call19 HB3.out hb4
      have HBX : Hid (w4.heap[wr.heap.size]? = some (.cells #[.int .i64 xo, .int .i64 xf, .int .i64 xl, .int .i64 xr] 162 (0, 0))) := Lib.hid (blk19 hb4 HX3.out)
      have HP4 := Lib.hid (PtsI.ext HPT.out hbw)
      have HV4 := Lib.hid (EnRow.ext HPV.out hbw)
      have HB4 : Hid (Below w2.heap.size w2 w4) := Lib.hid (HB.out.trans (hbw.mono hszr))
      have hbxs : wr.heap.size < w4.heap.size := (Array.getElem?_eq_some_iff.1 HBX.out).1
      obtain ⟨⟨x0, -⟩, ⟨x1, -⟩, ⟨x2, -⟩, ⟨x3, -⟩⟩ := four_cells HBX.out
      have HPRE := Lib.hid (HOK.out.pre ⟨xo, xf, xl, xr⟩)
      clear hb4 HC HX3 HB3 HPT HPV c0 c1 c2 c3 HOK
      have HTWO : Hid ((ps.take (k + 1)).foldl addPt [] = updP (preP l ⟨xo, xf, xl, xr⟩) (idxP l ⟨xo, xf, xl, xr⟩) ⟨xo, xf, xl, xr⟩) := Lib.hid (HTK.out.trans (addPt_two l _))
      have HOF4 := Lib.hid (PcsOf.ext HOF.out hbw)
      clear HOF HTK hbw
      rcases hway with ⟨k0, hk0, hk0l, rfl⟩ | ⟨hk0, rfl⟩
      · obtain ⟨e1, e2⟩ := preP_some (p := ⟨xo, xf, xl, xr⟩) ((HIX.out.symm).trans hk0)
        rw [e1] at HPRE HTWO
        rw [e2] at HTWO
        have hk0L : k0 < l.length := by have := HPL.out; omega
        obtain ⟨g, gc, pv5, x, ha⟩ := HP4.out.lies hk0L
        have hout := ha.out
        simp only [Value.slice.injEq] at hout
        obtain ⟨rfl, -, rfl⟩ := hout
        have HA := Lib.hid ha
        have HBX5 := HBX
        have HB5 := HB4
        clear hk0 e1 e2 HIX HPL HV4 HOF4 HP4 HSH ha HBX HB4
        go_upto_region 9 with fail
        clear x0 x1 x2 x3
        clear hbxs
        generalize l = L at *
        obtain ⟨y, hyL⟩ : ∃ y, L[k0]? = some y := ⟨_, List.getElem?_eq_getElem hk0L⟩
        have hyn := HPRE.out.2 y (List.mem_of_getElem? hyL)
        have HYL := Lib.hid hyL
        obtain ⟨q1, q2, q3, q4⟩ := HA.out.part hyL
        have z2 := HA.out.cells 2 (by decide)
        have z3 := HA.out.cells 3 (by decide)
        have f2 := HA.out.free (k0 * 4 + 2)
        have f3 := HA.out.free (k0 * 4 + 3)
        obtain ⟨yo, yf, yn, yv⟩ := x
        obtain ⟨ya, yc, hyv⟩ := q4.shape
        simp only [PvD.cells] at q3 z2 z3 hyv
        simp at z2 z3
        subst hyv
        have HQ4 := Lib.hid q4
        rw [← q3] at hyn
        obtain ⟨⟨n0, n1⟩, n2⟩ := hyn
        have hLk := HPRE.out.1
        have HQ3 := Lib.hid q3
        generalize L.length = m at *
        clear q1 q2 q3 q4 hyL
        have hki : (k0 : Int) < m := by omega
        obtain ⟨⟨b0, -⟩, ⟨b1, -⟩, ⟨b2, -⟩, ⟨b3, -⟩⟩ := four_cells HBX5.out
        have n3 : yn + xl ≤ 9223372036854775807 := by omega
        have n4 : -9223372036854775808 ≤ yn + xl := by omega
        go_region
        all_goals
          have h6 := HA.out.setN HYL.out (yn + xl)
          have HFIN : Hid ((L.set k0 ⟨y.ob, y.off, yn + xl, y.pcs⟩).set k0 ⟨y.ob, y.off, yn + xl, y.pcs ++ [⟨xo, xf, xl, xr⟩]⟩ = (ps.take (k + 1)).foldl addPt []) := by
            rw [List.set_set, HTWO.out]
            unfold updP
            rw [List.getD_eq_getElem?_getD, HYL.out, Option.getD_some, HQ3.out]
            exact Lib.hid rfl
          obtain ⟨W6, hW6⟩ : ∃ W6, W6 = (w4.setCell ⟨g, k0 * 4 + 2, none⟩ (.int .i64 (yn + xl))).drew := ⟨_, rfl⟩
          rw [← hW6]
          have hp6 : PtsI w2.heap.size W6 (.slice (some ⟨g, 0, none⟩) m oc) (L.set k0 ⟨y.ob, y.off, yn + xl, y.pcs⟩) := by rw [hW6]; exact PtsI.ext h6 (Below.drew (Below.refl _ _))
          have hB6 : Below w2.heap.size w4 W6 := by rw [hW6]; exact Below.drew ((Below.refl _ w4).setCell HA.out.lo _)
          have hx6 : W6.heap[wr.heap.size]? = some (.cells #[.int .i64 xo, .int .i64 xf, .int .i64 xl, .int .i64 xr] 162 (0, 0)) := by rw [hW6]; exact (Below.heap_setCell _ _ _ _ (HA.out.box HBX5.out)).trans HBX5.out
          have hk6 : k0 < (L.set k0 ⟨y.ob, y.off, yn + xl, y.pcs⟩).length := by rw [List.length_set]; exact HA.out.lt
          have HY6 : Hid ((L.set k0 ⟨y.ob, y.off, yn + xl, y.pcs⟩)[k0]? = some ⟨y.ob, y.off, yn + xl, y.pcs⟩) := Lib.hid (List.getElem?_set_self HA.out.lt)
          generalize L.set k0 ⟨y.ob, y.off, yn + xl, y.pcs⟩ = L6 at *
          clear h6 hW6 z2 z3 f2 f3 b0 b1 b2 b3
          obtain ⟨g6, c6, pv6, x6, ha6⟩ := hp6.lies hk6
          have hout6 := ha6.out
          simp only [Value.slice.injEq, Option.some.injEq, Addr.mk.injEq] at hout6
          obtain ⟨⟨rfl, -⟩, hm6, rfl⟩ := hout6
          have hB56 : Below w2.heap.size w2 W6 := HB5.out.trans hB6
          have hs6 := hB56.size
          have hba : Below W6.heap.size W6 (W6.alloc (.cells #[.int .i64 xo, .int .i64 xf, .int .i64 xl, .int .i64 xr] 162)).drew := Below.drew ((Below.refl _ W6).alloc (Nat.le_refl _) _)
          have HA7 := Lib.hid (ha6.ext hba)
          obtain ⟨-, -, -, r4⟩ := ha6.part HY6.out
          have z3 := ha6.cells 3 (by decide)
          have f3 := ha6.free (k0 * 4 + 3)
          have hg6 := ha6.hi
          obtain ⟨yo6, yf6, yn6, yv6⟩ := x6
          obtain ⟨va, vc, hyv6⟩ := r4.shape
          simp only [PvD.cells] at z3 hyv6
          simp at z3
          subst hyv6
          have HROW := Lib.hid (EnRow.ext r4 hba)
          have HNE := Lib.hid (ha6.ne r4)
          have HB6 := Lib.hid hB56
          have hpl6 : y.pcs.length ≤ 512 := by omega
          obtain ⟨⟨b0, -⟩, ⟨b1, -⟩, ⟨b2, -⟩, ⟨b3, -⟩⟩ := four_cells hx6
          clear r4 ha6 hp6 hx6 hB56 hB6 HA HBX5 HB5 hba
          subst hm6
          go_wp2
          go_region_law ((refine step_push _ (by rfl) _ _ 153 (by rfl) Enc.pc NoB w2.heap.size 162 i0 _ 32 Tryz.underlying153 hi hz0 hz1 hz2 (by rfl) (by decide) (by decide) _ y.pcs (by rfl) HROW.out W6.heap.size [.int .i64 xo, .int .i64 xf, .int .i64 xl, .int .i64 xr] 162 ⟨xo, xf, xl, xr⟩ (by rfl) (heap_alloc_new W6 _) rfl (by omega) (by simp; omega) (fun b hb => hb.elim) ?_; intro g7 c7 w7 hrow hgrow hbel hat; have m0 := (hgrow.cell_far ⟨g, k0 * 4 + 3, none⟩ HA7.out.hi (fun e => HNE.out e.symm)).trans (HA7.out.cells 3 (by decide)); have m1 := (hgrow.frozen_far ⟨g, k0 * 4 + 3, none⟩ HA7.out.hi (fun e => HNE.out e.symm)).trans (HA7.out.free (k0 * 4 + 3)); simp only [PvD.cells] at m0; simp at m0))
          all_goals
            have hset := HA7.out.setP HY6.out hgrow hrow hat
            simp only at hset
            rw [HFIN.out] at hset
            have hlast : Below w2.heap.size w2 (w7.setCell ⟨g, k0 * 4 + 3, none⟩ (.slice (some ⟨g7, 0, none⟩) (y.pcs.length + 1) c7)) := ((HB6.out.alloc hs6 _).drew.trans hbel).setCell HA7.out.lo _
            have HSET := Lib.hid hset
            have HLAST := Lib.hid hlast
            clear hset hlast hrow hgrow hbel hat m0 m1 b0 b1 b2 b3 z3 f3
            go_wp2
            go_roundw
            case rel => first | exact ⟨k + 1, by omega, by go_num, HSET.out, HLAST.out⟩ | exact ⟨k + 1, by omega, by go_num, HSET.out.ext (Below.drew (Below.refl _ _)), HLAST.out.drew⟩
            case measure => simp [intOf]; omega
      · obtain ⟨e1, e2⟩ := preP_none (p := ⟨xo, xf, xl, xr⟩) ((HIX.out.symm).trans hk0)
        rw [e1] at HPRE HTWO
        rw [e2] at HTWO
        have hba : Below w4.heap.size w4 (w4.alloc (.cells #[.int .i64 xo, .int .i64 xf, .int .i64 0, .slice none 0 0] 155)) := (Below.refl _ w4).alloc (Nat.le_refl _) _
        have HV5 := Lib.hid (EnRow.ext HV4.out hba)
        have HOF5 := Lib.hid (PcsOf.ext HOF4.out hba)
        have hbs4 := HB4.out.size
        clear hk0 e1 e2 HIX HV4 HOF4 HP4 HSH hba
        go_wp2_with (first | (at_builtin; refine stop_in ?_) | go_in)
        unfold Stop
        refine wpList_pushG _ (by rfl) (.tmp 27) (.tmp 33) 151 (by rfl) Enc.pv NoB w2.heap.size 155 j0 _ 48 Tryz.underlying151 ji jz0 jz1 jz2 (by rfl) (by decide) (by decide) _ pv (by rfl) HV5.out w4.heap.size [.int .i64 xo, .int .i64 xf, .int .i64 0, .slice none 0 0] 155 ⟨xo, xf, 0, .slice none 0 0⟩ (by rfl) (heap_alloc_new w4 _) ⟨rfl, rfl⟩ (by rw [HPL.out]; omega) (by simp; omega) (fun b hb => hb.elim) ?_
        intro g oc w5 hrow hgrow hbel hat
        rw [HPL.out] at hrow ⊢
        have hp5 : PtsI w2.heap.size w5 (.slice (some ⟨g, 0, none⟩) (l.length + 1) oc) (l ++ [⟨xo, xf, 0, []⟩]) := ⟨⟨_, hrow, HOF5.out.push HV5.out hgrow xo xf⟩⟩
        have HB5 : Hid (Below w2.heap.size w2 w5) := Lib.hid (Below.trans (HB4.out.alloc hbs4 _) hbel)
        have HBX5 : Hid (w5.heap[wr.heap.size]? = some (.cells #[.int .i64 xo, .int .i64 xf, .int .i64 xl, .int .i64 xr] 162 (0, 0))) := Lib.hid ((hgrow.block wr.heap.size (by simp; omega) (fun e => by
          have := EnRow.ne_blk (HV5.out) ((Below.heap_alloc _ _ _ hbxs).trans HBX.out) e.symm
          exact this)).trans ((Below.heap_alloc _ _ _ hbxs).trans HBX.out))
        obtain ⟨k0, hk0⟩ : ∃ k0, k0 = l.length := ⟨_, rfl⟩
        obtain ⟨L, hL⟩ : ∃ L : List PtD, L = l ++ [⟨xo, xf, 0, []⟩] := ⟨_, rfl⟩
        have hLm : k0 + 1 = L.length := by rw [hL, hk0]; simp
        rw [← hk0] at HTWO hp5 ⊢
        rw [hLm] at hp5 ⊢
        have HPRE' : Hid (L.length ≤ k + 1 ∧ ∀ y ∈ L, (0 ≤ y.n ∧ y.n ≤ 1000 * k) ∧ y.pcs.length ≤ k) := by rw [hL]; exact HPRE
        have HTWO' : Hid ((ps.take (k + 1)).foldl addPt [] = updP L k0 ⟨xo, xf, xl, xr⟩) := by rw [hL]; exact HTWO
        rw [← hL] at hp5
        clear HPRE HTWO
        have HPRE := HPRE'
        have HTWO := HTWO'
        clear HPRE' HTWO' hrow hgrow hbel hat HV5 HOF5 HPL HBX HB4
        have hk0L : k0 < L.length := by omega
        clear hL hk0 hbs4
        clear x0 x1 x2 x3 hbxs
        obtain ⟨g2, gc2, pv5, x, ha⟩ := hp5.lies hk0L
        have hout := ha.out
        simp only [Value.slice.injEq, Option.some.injEq, Addr.mk.injEq] at hout
        obtain ⟨⟨rfl, -⟩, -, rfl⟩ := hout
        have HA := Lib.hid ha
        clear ha hp5 hLm
        go_upto_region 9 with fail
        obtain ⟨y, hyL⟩ : ∃ y, L[k0]? = some y := ⟨_, List.getElem?_eq_getElem hk0L⟩
        have hyn := HPRE.out.2 y (List.mem_of_getElem? hyL)
        have HYL := Lib.hid hyL
        obtain ⟨q1, q2, q3, q4⟩ := HA.out.part hyL
        have z2 := HA.out.cells 2 (by decide)
        have z3 := HA.out.cells 3 (by decide)
        have f2 := HA.out.free (k0 * 4 + 2)
        have f3 := HA.out.free (k0 * 4 + 3)
        obtain ⟨yo, yf, yn, yv⟩ := x
        obtain ⟨ya, yc, hyv⟩ := q4.shape
        simp only [PvD.cells] at q3 z2 z3 hyv
        simp at z2 z3
        subst hyv
        have HQ4 := Lib.hid q4
        rw [← q3] at hyn
        obtain ⟨⟨n0, n1⟩, n2⟩ := hyn
        have hLk := HPRE.out.1
        have HQ3 := Lib.hid q3
        generalize L.length = m at *
        clear q1 q2 q3 q4 hyL
        have hki : (k0 : Int) < m := by omega
        obtain ⟨⟨b0, -⟩, ⟨b1, -⟩, ⟨b2, -⟩, ⟨b3, -⟩⟩ := four_cells HBX5.out
        have n3 : yn + xl ≤ 9223372036854775807 := by omega
        have n4 : -9223372036854775808 ≤ yn + xl := by omega
        go_region
        all_goals
          have h6 := HA.out.setN HYL.out (yn + xl)
          have HFIN : Hid ((L.set k0 ⟨y.ob, y.off, yn + xl, y.pcs⟩).set k0 ⟨y.ob, y.off, yn + xl, y.pcs ++ [⟨xo, xf, xl, xr⟩]⟩ = (ps.take (k + 1)).foldl addPt []) := by
            rw [List.set_set, HTWO.out]
            unfold updP
            rw [List.getD_eq_getElem?_getD, HYL.out, Option.getD_some, HQ3.out]
            exact Lib.hid rfl
          obtain ⟨W6, hW6⟩ : ∃ W6, W6 = (w5.setCell ⟨g, k0 * 4 + 2, none⟩ (.int .i64 (yn + xl))).drew := ⟨_, rfl⟩
          rw [← hW6]
          have hp6 : PtsI w2.heap.size W6 (.slice (some ⟨g, 0, none⟩) m oc) (L.set k0 ⟨y.ob, y.off, yn + xl, y.pcs⟩) := by rw [hW6]; exact PtsI.ext h6 (Below.drew (Below.refl _ _))
          have hB6 : Below w2.heap.size w5 W6 := by rw [hW6]; exact Below.drew ((Below.refl _ w5).setCell HA.out.lo _)
          have hx6 : W6.heap[wr.heap.size]? = some (.cells #[.int .i64 xo, .int .i64 xf, .int .i64 xl, .int .i64 xr] 162 (0, 0)) := by rw [hW6]; exact (Below.heap_setCell _ _ _ _ (HA.out.box HBX5.out)).trans HBX5.out
          have hk6 : k0 < (L.set k0 ⟨y.ob, y.off, yn + xl, y.pcs⟩).length := by rw [List.length_set]; exact HA.out.lt
          have HY6 : Hid ((L.set k0 ⟨y.ob, y.off, yn + xl, y.pcs⟩)[k0]? = some ⟨y.ob, y.off, yn + xl, y.pcs⟩) := Lib.hid (List.getElem?_set_self HA.out.lt)
          generalize L.set k0 ⟨y.ob, y.off, yn + xl, y.pcs⟩ = L6 at *
          clear h6 hW6 z2 z3 f2 f3 b0 b1 b2 b3
          obtain ⟨g6, c6, pv6, x6, ha6⟩ := hp6.lies hk6
          have hout6 := ha6.out
          simp only [Value.slice.injEq, Option.some.injEq, Addr.mk.injEq] at hout6
          obtain ⟨⟨rfl, -⟩, hm6, rfl⟩ := hout6
          have hB56 : Below w2.heap.size w2 W6 := HB5.out.trans hB6
          have hs6 := hB56.size
          have hba : Below W6.heap.size W6 (W6.alloc (.cells #[.int .i64 xo, .int .i64 xf, .int .i64 xl, .int .i64 xr] 162)).drew := Below.drew ((Below.refl _ W6).alloc (Nat.le_refl _) _)
          have HA7 := Lib.hid (ha6.ext hba)
          obtain ⟨-, -, -, r4⟩ := ha6.part HY6.out
          have z3 := ha6.cells 3 (by decide)
          have f3 := ha6.free (k0 * 4 + 3)
          have hg6 := ha6.hi
          obtain ⟨yo6, yf6, yn6, yv6⟩ := x6
          obtain ⟨va, vc, hyv6⟩ := r4.shape
          simp only [PvD.cells] at z3 hyv6
          simp at z3
          subst hyv6
          have HROW := Lib.hid (EnRow.ext r4 hba)
          have HNE := Lib.hid (ha6.ne r4)
          have HB6 := Lib.hid hB56
          have hpl6 : y.pcs.length ≤ 512 := by omega
          obtain ⟨⟨b0, -⟩, ⟨b1, -⟩, ⟨b2, -⟩, ⟨b3, -⟩⟩ := four_cells hx6
          clear r4 ha6 hp6 hx6 hB56 hB6 HA HBX5 HB5 hba
          subst hm6
          go_wp2
          go_region_law ((refine step_push _ (by rfl) _ _ 153 (by rfl) Enc.pc NoB w2.heap.size 162 i0 _ 32 Tryz.underlying153 hi hz0 hz1 hz2 (by rfl) (by decide) (by decide) _ y.pcs (by rfl) HROW.out W6.heap.size [.int .i64 xo, .int .i64 xf, .int .i64 xl, .int .i64 xr] 162 ⟨xo, xf, xl, xr⟩ (by rfl) (heap_alloc_new W6 _) rfl (by omega) (by simp; omega) (fun b hb => hb.elim) ?_; intro g7 c7 w7 hrow hgrow hbel hat; have m0 := (hgrow.cell_far ⟨g, k0 * 4 + 3, none⟩ HA7.out.hi (fun e => HNE.out e.symm)).trans (HA7.out.cells 3 (by decide)); have m1 := (hgrow.frozen_far ⟨g, k0 * 4 + 3, none⟩ HA7.out.hi (fun e => HNE.out e.symm)).trans (HA7.out.free (k0 * 4 + 3)); simp only [PvD.cells] at m0; simp at m0))
          all_goals
            have hset := HA7.out.setP HY6.out hgrow hrow hat
            simp only at hset
            rw [HFIN.out] at hset
            have hlast : Below w2.heap.size w2 (w7.setCell ⟨g, k0 * 4 + 3, none⟩ (.slice (some ⟨g7, 0, none⟩) (y.pcs.length + 1) c7)) := ((HB6.out.alloc hs6 _).drew.trans hbel).setCell HA7.out.lo _
            have HSET := Lib.hid hset
            have HLAST := Lib.hid hlast
            clear hset hlast hrow hgrow hbel hat m0 m1 b0 b1 b2 b3 z3 f3
            go_wp2
            go_roundw
            case rel => first | exact ⟨k + 1, by omega, by go_num, HSET.out, HLAST.out⟩ | exact ⟨k + 1, by omega, by go_num, HSET.out.ext (Below.drew (Below.refl _ _)), HLAST.out.drew⟩
            case measure => simp [intOf]; omega
    · obtain rfl : k = ps.length := by omega
      rw [List.take_length] at hpt HOK hl2
      have hg := grp_is ps
      have hobL : ∀ y ∈ ps.foldl addPt [], 0 ≤ y.ob ∧ y.ob < 512 := fun y hy => by
        obtain ⟨-, p, hp, e⟩ := hg.is y hy
        rw [← e]
        exact HOB.out p hp
      have HG := Lib.hid hg
      have HSO := Lib.hid (psort_any w2.heap.size _ _ wr hpt hobL (by omega))
      obtain ⟨oa, oc, rfl⟩ := hpt.shape
      clear hpt hobL hg
      generalize ps.foldl addPt [] = l at *
      go_wp2_with fail
      refine HSO.out.mono ?_
      rintro e w9 ⟨rfl, l', hperm, hsrt, hsl, hb9⟩
      have HE := Lib.hid (grp_sorted HG.out HOB.out hperm hsrt)
      have HS9 := Lib.hid hsl
      have HB9 := Lib.hid (HB.out.trans hb9)
      clear hperm hsrt hsl hb9
      go_wp2
      go_ret
      exact ⟨_, rfl, by rw [← HE.out]; exact HS9.out.weak fun b _ hb => Nat.le_trans HB2.out.size hb, HB2.out.trans (HB9.out.mono HB2.out.size)⟩
end Go.Proofs.YtlekdfajcpmolaaGreatDoor
namespace Go.Proofs.YtlekdfajcpmolaaGreatDoor
open Go.RowKit Go.WideShapes

/-- operations whose data lie in A2, too -/
def Enc.opD (A2 : Nat → Prop) : Enc OpD where
  size := 5
  rd := fun A w cs x => Enc.op.rd (fun b => A b ∧ A2 b) w cs x
  len := fun h => Enc.op.len h
  one := fun h => Enc.op.one h
  mono := fun h hs => Enc.op.mono h ⟨hs.1, fun b hb hl => hs.2 b hb.1 hl⟩
  weak := fun h hs => Enc.op.weak h fun b hl hb => ⟨hs b hl hb.1, hb.2⟩
/-- a row of operations as an element of a row -/
def Enc.opr (A2 : Nat → Prop) : Enc (List OpD) where
  size := 1
  rd := fun A w cs l => ∃ v, cs = [v] ∧ SlE (Enc.opD A2) A w v l
  len := fun ⟨v, h, _⟩ => by rw [h]; rfl
  one := fun ⟨v, h, hv⟩ u hu => by
    rw [h] at hu
    simp at hu
    subst hu
    obtain ⟨a, c, rfl⟩ := hv.shape
    rfl
  mono := fun ⟨v, h, hv⟩ hs => ⟨v, h, hv.mono hs⟩
  weak := fun ⟨v, h, hv⟩ hs => ⟨v, h, hv.weak hs⟩
theorem Oprs.at {A A2 : Nat → Prop} {w : World} {a : Option Addr} {n c : Nat} {l : List (List OpD)} (h : SlE (Enc.opr A2) A w (.slice a n c) l) {i : Nat} (hi : i < l.length) :
    ∃ b off xa xc, a = some ⟨b, off, none⟩ ∧ b < w.heap.size ∧ w.cell? ⟨b, off + i, none⟩ = some (.slice xa l[i].length xc) ∧ SlE (Enc.opD A2) A w (.slice xa l[i].length xc) l[i] := by
  obtain ⟨b, off, cap, cs, e, hb, hA, ⟨v, rfl, hv⟩, hc⟩ := h.at (i := i) (x := l[i]) (by simp [hi])
  simp only [Value.slice.injEq] at e
  obtain ⟨rfl, _, _⟩ := e
  obtain ⟨xa, xc, rfl⟩ := hv.shape
  have h0 := hc 0 (show 0 < 1 by decide)
  simp only [show (Enc.opr A2).size = 1 from rfl, Nat.mul_one, Nat.add_zero] at h0
  exact ⟨b, off, xa, xc, rfl, hb, h0, hv⟩
def sumL (ls : List (List OpD)) : Nat := ls.flatten.length
theorem sumL_take {ls : List (List OpD)} {k : Nat} (hk : k < ls.length) : sumL (ls.take (k + 1)) = sumL (ls.take k) + ls[k].length ∧ sumL (ls.take (k + 1)) ≤ sumL ls := by
  unfold sumL
  have h1 : (ls.take (k + 1)).flatten = (ls.take k).flatten ++ ls[k] := by rw [List.take_succ_eq_append_getElem hk, List.flatten_append]; simp
  refine ⟨by rw [h1, List.length_append], ?_⟩
  have h2 : ls = ls.take (k + 1) ++ ls.drop (k + 1) := (List.take_append_drop _ _).symm
  have : ls.flatten.length = (ls.take (k + 1)).flatten.length + (ls.drop (k + 1)).flatten.length := by
    rw [← List.length_append, ← List.flatten_append, ← h2]
  omega
/-- slices.Grow at nil -/
theorem grow_any (A2 A : Nat → Prop) (n : Nat) (hn : n ≤ 100000) (w : World) : Calls Tryz.prog 157 #[.slice none 0 0, .int .i64 n] w fun e w' => ∃ v, e = .returned v ∧ EnRow (Enc.opD A2) 47 A w.heap.size w' v [] ∧ Below w.heap.size w w' := by
  obtain ⟨i0, hi, hz0, hz1, hz2⟩ := info_parts infoOp
  by_cases h0 : n = 0
  · subst h0
    refine (Any8.slices_Grow_room Tryz.growO none 0 0 0 w (Nat.le_refl _) (by omega) (by omega) (by omega)).mono ?_
    rintro e w' ⟨rfl, rfl⟩
    exact ⟨_, rfl, EnRow.nil _ _ _ _ _, Below.refl _ _⟩
  · have hbig : (0 + n) * i0.bytes ≤ 140737488355328 := by
      rw [hz2]
      omega
    have h1 := Any8.slices_Grow_grow Tryz.growO i0 _ hi hz0 (by rw [hz1]; decide) none 0 0 n [] w (Nat.le_refl _) (by omega) hbig (by omega) (by simp) (fun _ => rfl) (fun a h => by cases h)
    refine (show Calls Tryz.prog 157 #[.slice none 0 0, .int .i64 n] w _ from h1).mono ?_
    rintro e w' ⟨rfl, rfl⟩
    have hge := grownCap_ge w (0 + n) 0 47
    have hle := grownCap_le_maxLen w (0 + n) 0 47 (by unfold maxLen; omega)
    refine ⟨_, rfl, ⟨⟨[], rfl, fun i x c h => by simp at h, by simp, .inr ⟨w.heap.size, _, _, rfl, Nat.le_refl _, heap_alloc_new w.drew _, Nat.zero_le _, hle, ?_, by simp⟩⟩⟩, Below.alloc (Below.drew (Below.refl _ _)) (Nat.le_refl _) _⟩
    simp only [Array.size_append, size_zeroCells]
    show 0 + (0 + n - 0) * 5 + (grownCap w (0 + n) 0 47 - (0 + n)) * 5 = grownCap w (0 + n) 0 47 * 5
    omega
set_option maxRecDepth 100000 in
set_option maxHeartbeats 1600000 in
theorem concat_any (A2 A : Nat → Prop) (a : Option Addr) (c : Nat) (ls : List (List OpD)) (w : World) (hv : SlE (Enc.opr A2) A w (.slice a ls.length c) ls) (hA : ∀ b, A b → b < w.heap.size) (hls : ls.length ≤ 1000) (hn : sumL ls ≤ 100000) :
    Calls Tryz.prog 98 #[.slice a ls.length c] w fun e w' => ∃ v, e = .returned v ∧ EnRow (Enc.opD A2) 47 A w.heap.size w' v ls.flatten ∧ Below w.heap.size w w' := by
  obtain ⟨i0, hi, hz0, hz1, hz2⟩ := info_parts infoOp
  have HV := Lib.hid hv
  have HA := Lib.hid hA
  have HST := Lib.hid (fun k (hk : k < ls.length) => sumL_take hk)
  clear hv hA
  go_enter Tryz.func98, Tryz.ntmps98
  go_wp2
  go_loop [3, 5, 11] (fun q3 _ q11 => ∃ k : Nat, k ≤ ls.length ∧ q11 = .int .i64 k ∧ q3 = .int .i64 (sumL (ls.take k) : Nat) ∧ sumL (ls.take k) ≤ sumL ls) (fun _ _ q => ls.length - (intOf q).toNat)
  case atStart => exact ⟨0, Nat.zero_le _, rfl, by simp [sumL], by simp [sumL]⟩
  case round =>
    obtain ⟨k, hk, rfl, rfl, hle⟩ := hrel
    by_cases hlt : k < ls.length
    · obtain ⟨b, off, xa, xc, rfl, hb, hc0, hx⟩ := Oprs.at HV.out hlt
      obtain ⟨s1, s2⟩ := HST.out k hlt
      generalize ls[k] = x at *
      have HS1 := Lib.hid s1
      have hb1 : ((sumL (ls.take k) : Nat) : Int) + x.length ≤ 100000 := by omega
      have hs12 : ((sumL (ls.take k) : Nat) : Int) + x.length = ((sumL (ls.take (k + 1)) : Nat) : Int) := by omega
      have HS12 := Lib.hid hs12
      clear s1 hs12
      generalize sumL (ls.take k) = S0 at *
      go_wp2
      go_round
      case rel => exact ⟨k + 1, by omega, by go_num, by rw [HS12.out], s2⟩
      case measure => simp [intOf]; omega
    · obtain rfl : k = ls.length := by omega
      rw [List.take_length] at hle ⊢
      have HG := Lib.hid (grow_any A2 A (sumL ls) hn w)
      generalize sumL ls = S0 at *
      go_wp2_with fail
      refine HG.out.mono ?_
      rintro e w1 ⟨v1, rfl, hr1, hb1⟩
      have HR1 := Lib.hid hr1
      have HB1 := Lib.hid hb1
      clear hr1 hb1
      go_wp2
      go_loopw [6, 8, 27] (fun q6 _ q27 wr => ∃ k : Nat, k ≤ ls.length ∧ q27 = .int .i64 k ∧ EnRow (Enc.opD A2) 47 A w.heap.size wr q6 (ls.take k).flatten ∧ Below w.heap.size w wr) (fun _ _ q _ => ls.length - (intOf q).toNat)
      case atStart => exact ⟨0, Nat.zero_le _, rfl, by simpa using HR1.out, HB1.out⟩
      case round =>
        rename_i wr
        obtain ⟨k, hk, rfl, hr, hb⟩ := hrel
        have HR := Lib.hid hr
        have HB := Lib.hid hb
        have hszr := hb.size
        obtain ⟨oa, oc, rfl⟩ := hr.shape
        clear hr hb HR1 HB1
        by_cases hlt : k < ls.length
        · obtain ⟨b, off, xa, xc, rfl, hb, hc0, hx⟩ := Oprs.at (HV.out.ext HB.out) hlt
          obtain ⟨s1, s2⟩ := HST.out k hlt
          have HTK : Hid ((ls.take (k + 1)).flatten = (ls.take k).flatten ++ ls[k]) := Lib.hid (by rw [List.take_succ_eq_append_getElem hlt, List.flatten_append]; simp)
          have hlen : (ls.take k).flatten.length + ls[k].length ≤ 100000 := by unfold sumL at *; omega
          have HX := Lib.hid hx
          have HLEN := Lib.hid hlen
          clear s1 s2 hx hlen
          generalize (ls.take k).flatten = L at *
          generalize ls[k] = x at *
          go_wp2_with (first | (at_builtin; refine stop_in ?_) | go_in)
          unfold Stop
          refine wpList_appE _ (by rfl) (.tmp 31) (.tmp 32) 40 (by rfl) (Enc.opD A2) A w.heap.size 47 i0 _ 64 Tryz.underlying40 hi hz0 hz1 hz2 (by rfl) (show 0 < 5 by decide) (by decide) _ L (by rfl) HR.out _ x (by rfl) HX.out (by have := HLEN.out; omega) hszr HA.out ?_
          intro v5 w5 hr5 hb5
          have HR5 := Lib.hid hr5
          have HB5 := Lib.hid (HB.out.trans hb5)
          clear hr5 hb5
          go_wp2
          go_roundw
          case rel => exact ⟨k + 1, by omega, by go_num, by rw [HTK.out]; exact HR5.out, HB5.out⟩
          case measure => simp [intOf]; omega
        · obtain rfl : k = ls.length := by omega
          rw [List.take_length] at HR ⊢
          go_wp2
          go_ret
          exact ⟨_, rfl, HR.out, HB.out⟩
end Go.Proofs.YtlekdfajcpmolaaGreatDoor
