/- The walk of terrazzolaw11.StorePlays. -/
import Derived.Test.YtohfckkgmijlnaaGreatDoorPU
import Derived.Test.YtohfckkgmijlnaaGreatDoorRfd11
namespace Go.Proofs.YtohfckkgmijlnaaGreatDoor
open Go.RowKit Go.Maps Go.WideShapes
attribute [local go_sem ↓] Go.wp_at_zero Go.wp_at_succ

/-- the law's store and the reference's, side by side; the reference's lies in the box q -/
structure PlAt (w W : World) (p b q : Nat) (s : StD) : Prop where
  mk ::
  st : StAt w W p b s
  qb : w.heap.size ≤ q
  ex : ∃ la lc, W.heap[q]? = some (.cells #[.int .i64 (s.room : Nat), .slice la s.l.length lc] 28 (0, 0)) ∧ SlE Enc.named (fun _ => True) W (.slice la s.l.length lc) s.l
theorem PlAt.ext {w W W' : World} {p b q : Nat} {s : StD} (h : PlAt w W p b q s) (hb : Below W.heap.size W W') : PlAt w W' p b q s := by
  obtain ⟨la, lc, h1, h2⟩ := h.ex
  exact ⟨h.st.ext hb, h.qb, la, lc, dblk hb h1, h2.ext hb⟩
theorem StAt.same {w0 W W' : World} {p b : Nat} {s : StD} (h : StAt w0 W p b s) (hf : Fr (fun k => k = b) W W') : Same (fun k => k < w0.heap.size) W W' :=
  ⟨hf.size, fun k hk hl => hf.block k hl fun e => by have e : k = b := e; have := h.nb; omega⟩
theorem box_early {w6 W w7 : World} {cs : Array Value} {t : TypeId} (hW : W = (w6.alloc (.cells cs t)).drew) (h : Below W.heap.size W w7) : w7.heap[w6.heap.size]? = some (.cells cs t (0, 0)) := by
  subst hW
  exact (h.block _ (by show w6.heap.size < (w6.alloc (.cells cs t)).heap.size; simp)).trans (heap_alloc_new w6 _)
theorem box_a2 {w w6 : World} {x y : Value} {t : TypeId} (hb : Below (w.alloc (.cells #[x, y] t)).drew.heap.size (w.alloc (.cells #[x, y] t)).drew w6) : w6.heap[w.heap.size]? = some (.cells #[x, y] t (0, 0)) :=
  (hb.block _ (by show w.heap.size < (w.alloc _).heap.size; simp)).trans (heap_alloc_new w _)
theorem box_b2 {w w6 : World} {x y : Value} {t : TypeId} (hb : Below (w.drew.alloc (.cells #[x, y] t)).heap.size (w.drew.alloc (.cells #[x, y] t)) w6) : w6.heap[w.heap.size]? = some (.cells #[x, y] t (0, 0)) :=
  (hb.block w.drew.heap.size (by simp)).trans (heap_alloc_new w.drew _)
theorem two_facts {w : World} {p : Nat} {a b : Value} {t : TypeId} (h : w.heap[p]? = some (.cells #[a, b] t (0, 0))) : (w.cell? ⟨p, 0, none⟩ = some a ∧ w.frozen? ⟨p, 0, none⟩ = false) ∧ (w.cell? ⟨p, 1, none⟩ = some b ∧ w.frozen? ⟨p, 1, none⟩ = false) :=
  ⟨blk_cell h, blk_cell h⟩
set_option maxRecDepth 100000 in
set_option maxHeartbeats 16000000 in
theorem plays_law (room : Int) (v : Value) (l : List TxD) (first : ByteArray) (w : World) (hE : ErrT w) (hl : SlE Enc.txn (fun b => b < w.heap.size) w v l) :
    Calls Tryz.prog 3 #[.int .i64 room, v, .string first] w (Says true w) := by
  obtain ⟨va, vc, rfl⟩ := hl.shape
  have HL := Lib.hid hl
  have HE := Lib.hid hE
  clear hl hE
  go_enter Tryz.func3, Tryz.ntmps3
  go_wp2_with fail
  refine (awake11_any _ HE.out).mono ?_
  rintro e w1 ⟨rfl, hb1⟩
  have HW1 := Lib.hid hb1
  clear hb1
  go_wp2_with fail
  refine (StAt.newC w w1 HW1.out room).mono ?_
  rintro e w2 ⟨p, b, rfl, hS2, -⟩
  have HS2 := Lib.hid hS2
  clear hS2 HW1
  go_wp2_with fail
  refine (rnew_any room w2).mono ?_
  rintro e w3 ⟨rfl, hb3⟩
  have hrn : min (max room 0) 300 = ((min (max room 0) 300).toNat : Int) := by omega
  rw [hrn]
  have HS3 := Lib.hid (HS2.out.ext hb3)
  clear hrn hb3 HS2
  generalize (min (max room 0) 300).toNat = R at *
  go_upto_region 6 with fail
  obtain ⟨w4, hw4⟩ : ∃ w4, w4 = w3.alloc (.cells #[.int .i64 (R : Nat), .slice none 0 0] 28) := ⟨_, rfl⟩
  rw [← hw4]
  have HP4 : Hid (PlAt w w4 p b w3.heap.size ⟨R, []⟩) := Lib.hid (by
    have hb4 : Below w3.heap.size w3 w4 := by rw [hw4]; exact (Below.refl _ w3).alloc (Nat.le_refl _) _
    exact ⟨HS3.out.ext hb4, HS3.out.bel.size, none, 0, by rw [hw4]; exact heap_alloc_new _ _, SlE.nil _ _ _⟩)
  clear hw4 HS3
  obtain ⟨q, hq⟩ : ∃ q, q = w3.heap.size := ⟨_, rfl⟩
  rw [← hq] at HP4 ⊢
  clear hq
  go_wp2_with fail
  go_loopw [10] (fun i wr => ∃ (k : Nat) (s : StD), k ≤ l.length ∧ k ≤ 30 ∧ i = .int .i64 k ∧ PlAt w wr p b q s) (fun i _ => l.length - (intOf i).toNat)
  case atStart => exact ⟨0, _, Nat.zero_le _, by omega, rfl, HP4.out⟩
  case round =>
    obtain ⟨k, s, hk, hk3, rfl, hP⟩ := hrel
    have HP := Lib.hid hP
    by_cases hlt : k < l.length
    · by_cases h30 : k < 30
      · have hlr := HL.out.mono (Same.of_below hP.st.bel (fun b h => h))
        obtain ⟨g, off, oa, oc, rfl, hg, hgA, c0, c1, ho⟩ := Txns.at hlr hlt
        have HO := Lib.hid ho
        have HG := Lib.hid hgA
        have hk5 : (k : Int) < l.length := by omega
        have hk6 : (k : Int) < 30 := by omega
        clear ho hlr hP hgA
        obtain ⟨t, ht⟩ : ∃ t, t = l[k] := ⟨_, rfl⟩
        rw [← ht] at c0 c1 HO
        have hfw := few11_any _ t _ wr HO.out
        have HF := Lib.hid hfw
        clear ht hfw
        go_wp2_with fail
        refine HF.out.mono ?_
        rintro e w5 ⟨y, rfl, hy, hb5⟩
        have HY := Lib.hid hy
        have HP5 := Lib.hid (HP.out.ext hb5)
        have HO5 := Lib.hid (HO.out.ext hb5)
        have d0 := cellExt hb5 c0
        have d1 := cellExt hb5 c1
        have hg5 : g < w5.heap.size := Nat.lt_of_lt_of_le hg hb5.size
        clear hy hb5 c0 c1 HP HO HF
        cases y with
        | false =>
          go_wp2
          go_ret
          exact ⟨rfl, HP5.out.st.bel⟩
        | true =>
          have HFW := Lib.hid (HY.out rfl)
          go_wp2_with fail
          refine (HP5.out.st.doC HE.out (t := t) HO5.out HFW.out.dat HFW.out.ob).mono ?_
          rintro e w6 ⟨rfl, hS6, hf6⟩
          obtain ⟨la, lc, hq5, hn5⟩ := HP5.out.ex
          have hq6 := HP5.out.st.blk hf6 hq5
          have hn6 := Named.soft hn5 (HP5.out.st.soft hf6)
          have HN6 := Lib.hid hn6
          have HS6 := Lib.hid hS6
          have HK5 := Lib.hid HP5.out.st.ok
          have hgb := HP5.out.st.nb
          obtain ⟨x0, e0⟩ := blk_cell (i := 0) hq6
          obtain ⟨x1, e1⟩ := blk_cell (i := 1) hq6
          simp at x0 x1
          have hsm := HP5.out.st.same hf6
          have ho6 := HO5.out.mono hsm
          have hg6 : g < w6.heap.size := Nat.lt_of_lt_of_le hg5 hf6.size
          have d0 := (hf6.cell (p := ⟨g, off + k * 2, none⟩) hg5 (fun e => by have e : g = b := e; have := HG.out; omega)).trans d0
          have d1 := (hf6.cell (p := ⟨g, off + k * 2 + 1, none⟩) hg5 (fun e => by have e : g = b := e; have := HG.out; omega)).trans d1
          have hdo : ∀ W, Below w6.heap.size w6 W → Calls Tryz.prog 14 #[.agg #[.int .i64 (s.room : Nat), .slice la s.l.length lc], .agg #[.string t.obj, .slice oa t.ops.length oc]] W (RDoO (stDo s t).1 (stDo s t).2 W) := fun W hW => rsdo_any _ s t _ _ W (HN6.out.ext hW) HK5.out (ho6.ext hW) HFW.out.dat
          have hok6 := HS6.out.ok
          obtain ⟨s', hs'⟩ : ∃ s', s' = (stDo s t).1 := ⟨_, rfl⟩
          obtain ⟨E, hE'⟩ : ∃ E, E = (stDo s t).2 := ⟨_, rfl⟩
          rw [← hs'] at HS6 hdo hok6
          rw [← hE'] at hdo ⊢
          have HC := Lib.hid hdo
          have HQ6 := Lib.hid hq6
          have HQB := Lib.hid HP5.out.qb
          have hcells : Hid (∀ W, Below w6.heap.size w6 W → Below w6.heap.size w6 W ∧ W.cell? ⟨q, 0, none⟩ = some (.int .i64 (s.room : Nat)) ∧ W.cell? ⟨q, 1, none⟩ = some (.slice la s.l.length lc) ∧ W.cell? ⟨g, off + k * 2, none⟩ = some (.string t.obj) ∧ W.cell? ⟨g, off + k * 2 + 1, none⟩ = some (.slice oa t.ops.length oc)) := Lib.hid fun W h =>
            ⟨h, cellExt h x0, cellExt h x1, cellExt h d0, cellExt h d1⟩
          have HD0 := Lib.hid d0
          have HK6 := Lib.hid hok6
          have hl3 : s'.l.length ≤ 300 := Nat.le_trans hok6.len hok6.room
          have hk7 : (0 : Int) ≤ k := by omega
          clear hS6 hf6 hq5 hn5 hn6 hsm ho6 hgb hdo hs' hE' hok6 x0 x1 e0 e1 d0 d1 hq6 HN6 HK5 HP5
          go_upto_region 13 with fail
          go_cut [13, 14] (fun s13 s14 wx => ∃ (g3 : Nat) (l7 : Option Addr) (c7 : Nat), s13 = .pointer (some ⟨g3, 0, none⟩) ∧ s14 = .int .i64 E ∧ w6.heap.size ≤ g3 ∧ wx.heap[g3]? = some (.cells #[.int .i64 (s'.room : Nat), .slice l7 s'.l.length c7] 28 (0, 0)) ∧
            SlE Enc.named (fun _ => True) wx (.slice l7 s'.l.length c7) s'.l ∧ Below w6.heap.size w6 wx)
          case first =>
            go_region_held3 (fun W => Below w6.heap.size w6 W ∧ W.cell? ⟨q, 0, none⟩ = some (.int .i64 (s.room : Nat)) ∧ W.cell? ⟨q, 1, none⟩ = some (.slice la s.l.length lc) ∧ W.cell? ⟨g, off + k * 2, none⟩ = some (.string t.obj) ∧ W.cell? ⟨g, off + k * 2 + 1, none⟩ = some (.slice oa t.ops.length oc))
              ((refine hcells.out _ ?_; first
                | (with_reducible exact Below.drew (Below.refl _ _))
                | (with_reducible exact Below.drew (below_nw (Below.refl _ _) _))
                | (with_reducible exact below_nw (Below.drew (Below.refl _ _)) _)
                | (with_reducible exact hz7)
                | (with_reducible exact below_nw hz7 _)
                | (with_reducible refine below2n hz7 ?_ _ _; exact Nat.le_refl _)
                | (rename_i hh _ _; with_reducible exact hh.1)))
              (first
                | (go_at_call 14; refine (HC.out _ (by first | exact Below.drew (Below.refl _ _) | exact below_nw (Below.drew (Below.refl _ _)) _ | exact Below.drew (below_nw (Below.refl _ _) _))).mono ?_; intro e w7 h7; obtain ⟨v7, rfl, hv7, hb7⟩ := h7; obtain ⟨l7, c7, rfl⟩ := hv7.shape; have hz7 : Below w6.heap.size w6 w7 := (by first | exact Below.trans (Below.drew (Below.refl w6.heap.size w6)) (Below.mono hb7 (Nat.le_refl _)) | exact Below.trans (below_nw (Below.drew (Below.refl w6.heap.size w6)) _) (Below.mono hb7 (Nat.le_succ _)) | exact Below.trans (Below.drew (below_nw (Below.refl w6.heap.size w6) _)) (Below.mono hb7 (by simp))); (first | (have hbx := box_a2 hb7; obtain ⟨⟨k0, l0⟩, ⟨k1, l1⟩⟩ := two_facts hbx) | (have hbx := box_b2 hb7; obtain ⟨⟨k0, l0⟩, ⟨k1, l1⟩⟩ := two_facts hbx) | skip)))
            all_goals
              go_wp2_with fail
              go_meet
              first
                | exact ⟨w7.heap.size, l7, c7, rfl, rfl, hz7.size, heap_alloc_new _ _, hv7.ext ((Below.refl _ _).alloc (Nat.le_refl _) _), below_nw hz7 _⟩
                | exact ⟨w6.heap.size, l7, c7, rfl, rfl, Nat.le_refl _, set2b hbx, Named.soft hv7 (soft2 hbx _ _), below2n hz7 (Nat.le_refl _) _ _⟩
          case rest =>
            obtain ⟨g3, l7, c7, rfl, rfl, hg3, hgb, hgv, hbc⟩ := hcut
            have HSC := Lib.hid (HS6.out.ext hbc)
            have HQC := Lib.hid (dblk hbc HQ6.out)
            have HDC := Lib.hid (cellExt hbc HD0.out)
            have HGV := Lib.hid hgv
            obtain ⟨y0, e0⟩ := blk_cell (i := 0) hgb
            obtain ⟨y1, e1⟩ := blk_cell (i := 1) hgb
            obtain ⟨x0, f0⟩ := blk_cell (i := 0) HQC.out
            obtain ⟨x1, f1⟩ := blk_cell (i := 1) HQC.out
            simp at y0 y1 x0 x1
            have hql := (Array.getElem?_eq_some_iff.1 HQC.out).1
            clear hgb hgv hbc hcells HC HS6 HQ6 HD0
            go_upto_region 15 with fail
            obtain ⟨w8, hw8⟩ : ∃ w8, w8 = (wc.setCell ⟨q, 0, none⟩ (.int .i64 (s'.room : Nat))).setCell ⟨q, 1, none⟩ (.slice l7 s'.l.length c7) := ⟨_, rfl⟩
            rw [← hw8]
            have hsf : Soft wc w8 := by rw [hw8]; exact soft2 HQC.out _ _
            have hqb8 : w8.heap[q]? = some (.cells #[.int .i64 (s'.room : Nat), .slice l7 s'.l.length c7] 28 (0, 0)) := by rw [hw8]; exact set2b HQC.out
            have hne : ∀ j, j ≠ q → w8.heap[j]? = wc.heap[j]? := fun j hj => by rw [hw8]; exact (Below.heap_setCell _ _ _ _ hj).trans (Below.heap_setCell _ _ _ _ hj)
            have hpq : p ≠ q := fun e => by
              have h1 := HSC.out.st.box
              rw [e, HQC.out] at h1
              simp at h1
            have hbq : b ≠ q := fun e => HSC.out.st.map.no_cells _ _ _ (by rw [e]; exact HQC.out)
            have HP8 : Hid (PlAt w w8 p b q s') := Lib.hid ⟨⟨HSC.out.st.soft hsf (hne p hpq) (hne b hbq), HSC.out.ok, HSC.out.nb, by rw [hw8]; exact below2n HSC.out.bel HQB.out _ _⟩, HQB.out, l7, c7, hqb8, Named.soft HGV.out hsf⟩
            have HD8 : Hid (w8.cell? ⟨g, off + k * 2, none⟩ = some (.string t.obj)) := Lib.hid ((World.cell?_of_block (hne g (fun e => by have := HG.out; have := HQB.out; omega))).trans HDC.out)
            have d0 := HD8.out
            clear hw8 hsf hqb8 hne hpq hbq y0 y1 e0 e1 x0 x1 f0 f1 HSC HQC HDC HGV hql
            go_wp2_with fail
            refine (HP8.out.st.getC t.obj HFW.out.ob).mono ?_
            rintro e w9 ⟨a9, c9, u9, q9, rfl, ho9, hb9, -⟩
            have HP9 := Lib.hid (HP8.out.ext hb9)
            have HD9 := Lib.hid (cellExt hb9 d0)
            have hov9 := ho9.obv
            clear hb9 ho9 HP8 HD8 d0
            go_upto_region 16 with fail
            obtain ⟨pg, hpg⟩ : ∃ pg, pg = w9.heap.size := ⟨_, rfl⟩
            obtain ⟨w10, hw10⟩ : ∃ w10, w10 = w9.alloc (.cells #[.slice a9 (s'.obj t.obj).data.length c9, .slice u9 (s'.obj t.obj).keys.length q9, .int .i64 (s'.obj t.obj).seq] 41) := ⟨_, rfl⟩
            rw [← hw10, ← hpg]
            have hb10 : Below w9.heap.size w9 w10 := by rw [hw10]; exact (Below.refl _ w9).alloc (Nat.le_refl _) _
            have HG10 := Lib.hid (show w10.heap[pg]? = some (.cells #[.slice a9 (s'.obj t.obj).data.length c9, .slice u9 (s'.obj t.obj).keys.length q9, .int .i64 (s'.obj t.obj).seq] 41 (0, 0)) from by rw [hw10, hpg]; exact heap_alloc_new _ _)
            have HV10 := Lib.hid (hov9.ext hb10)
            have HP10 := Lib.hid (HP9.out.ext hb10)
            have d0 := cellExt hb10 HD9.out
            obtain ⟨la', lc', hq10, hn10⟩ := HP10.out.ex
            obtain ⟨x0, -⟩ := blk_cell (i := 0) hq10
            obtain ⟨x1, -⟩ := blk_cell (i := 1) hq10
            simp at x0 x1
            have HQ10 := Lib.hid hq10
            have HN10 := Lib.hid hn10
            have HC : Hid (∀ W, Below w10.heap.size w10 W → _) := Lib.hid fun W hW => rsget_st s' (s'.room : Nat) _ t.obj W (HN10.out.ext hW) (by omega)
            have hcells : Hid (∀ W, Below w10.heap.size w10 W → Below w10.heap.size w10 W ∧ W.cell? ⟨q, 0, none⟩ = some (.int .i64 (s'.room : Nat)) ∧ W.cell? ⟨q, 1, none⟩ = some (.slice la' s'.l.length lc') ∧ W.cell? ⟨g, off + k * 2, none⟩ = some (.string t.obj)) := Lib.hid fun W h =>
              ⟨h, cellExt h x0, cellExt h x1, cellExt h d0⟩
            have HKO : Hid ((s'.obj t.obj).keys.length ≤ 100000) := Lib.hid (by have := (okl_of (HK6.out.obj t.obj)).keys; omega)
            have HNM : Hid (∀ p ∈ s'.l, p.1.size ≤ 1000) := Lib.hid fun p hp => by have := nameB_size (HK6.out.nm p hp); omega
            generalize s'.obj t.obj = o at *
            generalize s'.is t.obj = is at *
            clear hw10 hb10 HP9 HD9 hov9 x0 x1 d0 hq10 hn10 hpg
            go_cut [17, 18] (fun s17 s18 wx => ∃ (g7 : Nat) (da : Option Addr) (dc : Nat) (ka : Option Addr) (kc : Nat), s17 = .pointer (some ⟨g7, 0, none⟩) ∧ s18 = .bool is ∧ w10.heap.size ≤ g7 ∧ wx.heap[g7]? = some (.cells #[.slice da o.data.length dc, .slice ka o.keys.length kc, .int .i64 o.seq] 41 (0, 0)) ∧
              ObV (fun _ => True) wx (.agg #[.slice da o.data.length dc, .slice ka o.keys.length kc, .int .i64 o.seq]) o ∧ Below w10.heap.size w10 wx)
            case first =>
              go_region_held3 (fun W => Below w10.heap.size w10 W ∧ W.cell? ⟨q, 0, none⟩ = some (.int .i64 (s'.room : Nat)) ∧ W.cell? ⟨q, 1, none⟩ = some (.slice la' s'.l.length lc') ∧ W.cell? ⟨g, off + k * 2, none⟩ = some (.string t.obj))
                ((refine hcells.out _ ?_; first
                  | (with_reducible exact Below.drew (Below.refl _ _))
                  | (with_reducible exact Below.drew (below_nw (Below.refl _ _) _))
                  | (with_reducible exact below_nw (Below.drew (Below.refl _ _)) _)
                  | (with_reducible exact hz7)
                  | (with_reducible exact below_nw hz7 _)
                  | (with_reducible refine below3 hz7 ?_ _ _ _; exact Nat.le_refl _)
                  | (rename_i hh _ _; with_reducible exact hh.1)))
                (first
                  | (go_at_call 16; refine (HC.out _ (by first | exact Below.drew (Below.refl _ _) | exact below_nw (Below.drew (Below.refl _ _)) _ | exact Below.drew (below_nw (Below.refl _ _) _))).mono ?_; intro e w11 h11; obtain ⟨da, dc, ka, kc, rfl, hv11, hb11⟩ := h11; have hz7 : Below w10.heap.size w10 w11 := (by first | exact Below.trans (Below.drew (Below.refl w10.heap.size w10)) (Below.mono hb11 (Nat.le_refl _)) | exact Below.trans (below_nw (Below.drew (Below.refl w10.heap.size w10)) _) (Below.mono hb11 (Nat.le_succ _)) | exact Below.trans (Below.drew (below_nw (Below.refl w10.heap.size w10) _)) (Below.mono hb11 (by simp))); (first | (have hbx := box_a hb11; obtain ⟨⟨k0, l0⟩, ⟨k1, l1⟩, ⟨k2, l2⟩⟩ := six_facts hbx) | (have hbx := box_b hb11; obtain ⟨⟨k0, l0⟩, ⟨k1, l1⟩, ⟨k2, l2⟩⟩ := six_facts hbx) | skip)))
              all_goals
                go_wp2_with fail
                go_meet
                first
                  | exact ⟨w11.heap.size, da, dc, ka, kc, rfl, rfl, hz7.size, heap_alloc_new _ _, hv11.ext ((Below.refl _ _).alloc (Nat.le_refl _) _), below_nw hz7 _⟩
                  | exact ⟨w10.heap.size, da, dc, ka, kc, rfl, rfl, Nat.le_refl _, set3_blk hbx, hv11.past hbx (boxO3 _ _ _ _ _ _ _) (set3_past _ _ _).1 (set3_past _ _ _).2, below3 hz7 (Nat.le_refl _) _ _ _⟩
            case rest =>
              obtain ⟨wb, hwb⟩ : ∃ wb, wb = wc := ⟨_, rfl⟩
              subst hwb
              obtain ⟨g7, da, dc, ka, kc, rfl, rfl, hg7, hgb, hgv, hbc⟩ := hcut
              have HPX := Lib.hid (HP10.out.ext hbc)
              have HVA := Lib.hid (HV10.out.ext hbc)
              have HVB := Lib.hid hgv
              obtain ⟨la2, lc2, hqx, hnx⟩ := HPX.out.ex
              have HNX := Lib.hid hnx
              obtain ⟨x0, -⟩ := blk_cell (i := 0) hqx
              obtain ⟨x1, -⟩ := blk_cell (i := 1) hqx
              simp at x0 x1
              have hgx := dblk hbc HG10.out
              obtain ⟨y0, e0⟩ := blk_cell (i := 0) (hgx)
              obtain ⟨y1, e1⟩ := blk_cell (i := 1) (hgx)
              obtain ⟨y2, e2⟩ := blk_cell (i := 2) (hgx)
              simp at y0 y1 y2
              obtain ⟨t0, f0⟩ := blk_cell (i := 0) (hgb)
              obtain ⟨t1, f1⟩ := blk_cell (i := 1) (hgb)
              obtain ⟨t2, f2⟩ := blk_cell (i := 2) (hgb)
              simp at t0 t1 t2
              have HCE : Hid (∀ W, Below wb.heap.size wb W → Below wb.heap.size wb W ∧ W.cell? ⟨q, 0, none⟩ = some (.int .i64 (s'.room : Nat)) ∧ W.cell? ⟨q, 1, none⟩ = some (.slice la2 s'.l.length lc2) ∧ W.cell? ⟨pg, 0, none⟩ = _ ∧ W.cell? ⟨pg, 1, none⟩ = _ ∧ W.cell? ⟨pg, 2, none⟩ = _ ∧ W.cell? ⟨g7, 0, none⟩ = _ ∧ W.cell? ⟨g7, 1, none⟩ = _ ∧ W.cell? ⟨g7, 2, none⟩ = _) := Lib.hid fun W h =>
                ⟨h, cellExt h x0, cellExt h x1, cellExt h y0, cellExt h y1, cellExt h y2, cellExt h t0, cellExt h t1, cellExt h t2⟩
              have HSM : Hid (∀ W, Below wb.heap.size wb W → Calls Tryz.prog 17 #[_, _] W (Says true W)) := Lib.hid fun W hW => by
                have := rsame_any _ _ o o _ _ W (HVA.out.ext hW) (HVB.out.ext hW) HKO.out HKO.out
                rw [sameB_self] at this
                exact this
              have HLC : Hid (∀ W, Below wb.heap.size wb W → Calls Tryz.prog 18 #[.pointer (some ⟨p, 0, none⟩)] W fun e w' => e = .returned (.int .i64 s'.l.length) ∧ W = w') := Lib.hid fun W hW => (HPX.out.st.ext hW).lenC
              have HNA : Hid (∀ f W, Below wb.heap.size wb W → Calls Tryz.prog 20 #[.pointer (some ⟨p, 0, none⟩), .string f] W fun e w' => ∃ a c, e = .returned (.slice a (namesP f s'.l).length c) ∧ SlE Enc.str (fun _ => True) w' (.slice a (namesP f s'.l).length c) (namesP f s'.l) ∧ Below W.heap.size W w') := Lib.hid fun f W hW => ((HPX.out.st.ext hW).namesC f).mono fun e w' ⟨a, c, h1, h2, h3, _⟩ => ⟨a, c, h1, h2.weak fun _ _ _ => trivial, h3⟩
              have HNB : Hid (∀ f W, Below wb.heap.size wb W → Calls Tryz.prog 21 #[.agg #[.int .i64 (s'.room : Nat), .slice la2 s'.l.length lc2], .string f] W fun e w' => ∃ a c, e = .returned (.slice a (namesP f s'.l).length c) ∧ SlE Enc.str (fun _ => True) w' (.slice a (namesP f s'.l).length c) (namesP f s'.l) ∧ Below W.heap.size W w') := Lib.hid fun f W hW => (rnames_any _ _ _ _ f W (HNX.out.ext hW) (by omega) HNM.out).mono fun e w' ⟨v, h1, h2, h3⟩ => by
                obtain ⟨a, c, rfl⟩ := h2.shape
                exact ⟨a, c, h1, h2.weak fun _ _ _ => trivial, h3⟩
              have HST : Hid (∀ f va vb W, SlE Enc.str (fun _ => True) W va (namesP f s'.l) → SlE Enc.str (fun _ => True) W vb (namesP f s'.l) → Calls Tryz.prog 19 #[va, vb] W (Says true W)) := Lib.hid fun f va vb W h1 h2 => by
                have hl := namesP_len f s'.l
                have := rstr_any _ _ va vb _ _ W h1 h2 (by omega) (by omega)
                rw [decide_eq_true rfl] at this
                exact this
              have g0 : (E != E) = false := by simp
              have g1 : (is != is) = false := by simp
              have g2 : ((s'.l.length : Int) != s'.l.length) = false := by simp
              generalize hNF : namesP first s'.l = NF at *
              generalize hNE : namesP ⟨#[]⟩ s'.l = NE at *
              clear hgb hgv hbc hcells HC HP10 HV10 HG10 HQ10 HN10 hqx hnx hgx x0 x1 y0 y1 y2 e0 e1 e2 t0 t1 t2 f0 f1 f2 HNX
              go_upto_region 17 with fail
              have g0x : (E == E) = true := by simp
              have g1x : (is == is) = true := by simp
              have g2x : ((s'.l.length : Int) == s'.l.length) = true := by simp
              go_region_held3 (fun W => Below wb.heap.size wb W ∧ W.cell? ⟨q, 0, none⟩ = some (.int .i64 (s'.room : Nat)) ∧ W.cell? ⟨q, 1, none⟩ = some (.slice la2 s'.l.length lc2) ∧ W.cell? ⟨pg, 0, none⟩ = some (.slice a9 o.data.length c9) ∧ W.cell? ⟨pg, 1, none⟩ = some (.slice u9 o.keys.length q9) ∧ W.cell? ⟨pg, 2, none⟩ = some (.int .i64 o.seq) ∧ W.cell? ⟨g7, 0, none⟩ = some (.slice da o.data.length dc) ∧ W.cell? ⟨g7, 1, none⟩ = some (.slice ka o.keys.length kc) ∧ W.cell? ⟨g7, 2, none⟩ = some (.int .i64 o.seq))
                ((refine HCE.out _ ?_; first
                  | (with_reducible exact Below.drew (Below.refl _ _))
                  | (with_reducible exact hz8)
                  | (with_reducible exact hz7)
                  | (with_reducible exact hz6)
                  | (with_reducible exact hz5)
                  | (with_reducible exact hz4)
                  | (with_reducible exact hz3)
                  | (with_reducible exact hz2)
                  | (with_reducible exact hz1)
                  | (rename_i hh _ _; with_reducible exact hh.1)))
                (first
                  | (go_at_call 17; refine (HSM.out _ (Below.drew (Below.refl _ _))).mono ?_; rintro e wS ⟨rfl, hbS⟩; have hz1 : Below wb.heap.size wb wS := Below.trans (Below.drew (Below.refl wb.heap.size wb)) (Below.mono hbS (Nat.le_refl _)))
                  | (go_at_call 18; refine (HLC.out _ hz1).mono ?_; rintro e w' ⟨rfl, rfl⟩)
                  | (go_at_call 20; refine (HNA.out ⟨#[]⟩ _ hz4).mono ?_; rw [hNE]; rintro e wD ⟨nd, md, rfl, hnd, hbD⟩; have hz5 : Below wb.heap.size wb wD := Below.trans hz4 (Below.mono hbD hz4.size))
                  | (go_at_call 20; refine (HNA.out first _ hz1).mono ?_; rw [hNF]; rintro e wA ⟨na, ma, rfl, hna, hbA⟩; have hz2 : Below wb.heap.size wb wA := Below.trans hz1 (Below.mono hbA hz1.size))
                  | (go_at_call 21; refine (HNB.out ⟨#[]⟩ _ hz5).mono ?_; rw [hNE]; rintro e wE ⟨ne, me, rfl, hne, hbE⟩; have hz6 : Below wb.heap.size wb wE := Below.trans hz5 (Below.mono hbE hz5.size))
                  | (go_at_call 21; refine (HNB.out first _ hz2).mono ?_; rw [hNF]; rintro e wB ⟨nb, mb, rfl, hnb, hbB⟩; have hz3 : Below wb.heap.size wb wB := Below.trans hz2 (Below.mono hbB hz2.size))
                  | (go_at_call 19; refine (HST.out ⟨#[]⟩ _ _ _ (by rw [hNE]; exact hnd.ext hbE) (by rw [hNE]; exact hne)).mono ?_; rintro e wF ⟨rfl, hbF⟩; have hz7 : Below wb.heap.size wb wF := Below.trans hz6 (Below.mono hbF hz6.size))
                  | (go_at_call 19; refine (HST.out first _ _ _ (by rw [hNF]; exact hna.ext hbB) (by rw [hNF]; exact hnb)).mono ?_; rintro e wC ⟨rfl, hbC⟩; have hz4 : Below wb.heap.size wb wC := Below.trans hz3 (Below.mono hbC hz3.size)))
              go_wp2
              go_roundw
              case rel => exact ⟨k + 1, s', by omega, by omega, by go_num, HPX.out.ext hz7⟩
              case measure => simp [intOf]; omega
      · have hk6 : ¬ (k : Int) < 30 := by omega
        have hk5 : (k : Int) < l.length := by omega
        clear hP
        go_wp2
        go_ret
        exact ⟨rfl, HP.out.st.bel⟩
    · have hk5 : ¬ (k : Int) < l.length := by omega
      clear hP
      go_wp2
      go_ret
      exact ⟨rfl, HP.out.st.bel⟩
end Go.Proofs.YtohfckkgmijlnaaGreatDoor
