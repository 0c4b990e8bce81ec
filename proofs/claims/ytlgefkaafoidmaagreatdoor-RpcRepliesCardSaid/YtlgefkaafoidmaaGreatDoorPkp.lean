/- The walk of rpc.PackReply at any reply that is small enough to be asked about, to the sign. -/
import Derived.Test.YtlgefkaafoidmaaGreatDoorPkq
import Derived.Test.YtlgefkaafoidmaaGreatDoorMayP
import Derived.Test.YtlgefkaafoidmaaGreatDoorGI
namespace Go.Proofs.YtlgefkaafoidmaaGreatDoor
open Go.RowKit Go.WideShapes

/-- what stays while the writer writes -/
structure WsP (P : RpD) (dv kv : Value) (w0 : World) (p s1 s2 s3 s4 : Nat) (w : World) (L : List UInt8) : Prop where
  mk ::
  wr : IsWr p w p L
  q : w.heap[w0.heap.size]? = some (.cells (rpC P dv kv) 40 (0, 0))
  c1 : w.cell? ⟨s1, 0, none⟩ = some (.pointer (some ⟨p, 0, none⟩))
  c2 : w.cell? ⟨s2, 0, none⟩ = some (.int .i64 1)
  c3 : w.cell? ⟨s3, 0, none⟩ = some (.pointer (some ⟨p, 0, none⟩))
  c4 : w.cell? ⟨s4, 0, none⟩ = some (.int .i64 6)
  bw : Below w0.heap.size w0 w
theorem WsP.ext {P : RpD} {dv kv : Value} {w0 : World} {p s1 s2 s3 s4 : Nat} {w w' : World} {L : List UInt8} (h : WsP P dv kv w0 p s1 s2 s3 s4 w L) (hb : Below w.heap.size w w') : WsP P dv kv w0 p s1 s2 s3 s4 w' L :=
  ⟨h.wr.ext hb, (hb.block _ (Array.getElem?_eq_some_iff.1 h.q).1).trans h.q, cellExt hb h.c1, cellExt hb h.c2, cellExt hb h.c3, cellExt hb h.c4, h.bw.trans (hb.mono h.bw.size)⟩
/-- the writer has written -/
theorem WsP.step {P : RpD} {dv kv : Value} {w0 : World} {p s1 s2 s3 s4 : Nat} {w w' : World} {L L' : List UInt8} (h : WsP P dv kv w0 p s1 s2 s3 s4 w L) (x : Wfx w0 p s1 s2 s3 s4) (hf : Fr (fun k => k = p) w w') (hr : IsWr p w' p L') : WsP P dv kv w0 p s1 s2 s3 s4 w' L' :=
  ⟨hr, (hf.block _ (Array.getElem?_eq_some_iff.1 h.q).1 (by show ¬ (w0.heap.size = p); have := x.lo; omega)).trans h.q, fr_cell hf x.n1 h.c1, fr_cell hf x.n2 h.c2, fr_cell hf x.n3 h.c3, fr_cell hf x.n4 h.c4, h.bw.trans (hf.below h.bw.size fun j hj e => by have e : j = p := e; have := x.lo; omega)⟩
theorem two_cell (w : World) (a b : Nat) (t : TypeId) : ∀ (i : Nat) (hi : i < [a, b].length), (w.alloc (.cells #[.int .i64 (a : Nat), .int .i64 (b : Nat)] t)).cell? ⟨w.heap.size, 0 + i, none⟩ = some (.int .i64 ([a, b][i] : Nat)) := by
  intro i hi
  have : i < 2 := hi
  obtain rfl | rfl : i = 0 ∨ i = 1 := by omega
  all_goals simp
theorem all_two {P : Nat → Prop} {a b : Nat} (h : P a) (h1 : P b) : ∀ n ∈ [a, b], P n := by
  intro n hn
  simp at hn
  rcases hn with rfl | rfl <;> assumption
theorem mayB_parts {o : ObD} (h : mayB o = true) : o.data.length ≤ 64 ∧ o.keys.length ≤ 120 ∧ (0 ≤ o.seq ∧ o.seq ≤ 1099511627776) ∧ ∀ k ∈ o.keys, k.name.size ≤ 100 ∧ k.value.length ≤ 3000 := by
  obtain ⟨h1, h2, h3, h4, hf⟩ := (mayB_iff o).1 h
  refine ⟨by omega, by omega, by omega, fun k hk => ?_⟩
  obtain ⟨i, hi, rfl⟩ := List.getElem_of_mem hk
  have h5 := hf.key i _ (List.getElem?_eq_getElem hi)
  have h6 := nameB_len h5.1
  exact ⟨by omega, by have := h5.2; omega⟩
def pkL (L0 : List UInt8) (ks : List KyD) (k : Nat) : List UInt8 := L0 ++ (ks.take k).flatMap keyBytes
theorem pkL_zero (L0 : List UInt8) (ks : List KyD) : pkL L0 ks 0 = L0 := by simp [pkL]
theorem pkL_succ (L0 : List UInt8) {ks : List KyD} {k : Nat} (hk : k < ks.length) : pkL L0 ks (k + 1) = pkL L0 ks k ++ be 2 ks[k].name.data.toList.length ++ ks[k].name.data.toList ++ be 2 ks[k].value.length ++ ks[k].value := by
  unfold pkL
  rw [List.take_succ_eq_append_getElem hk, List.flatMap_append]
  simp [keyBytes, List.append_assoc]
theorem bodyOf_nat {c l s e n x th sq : Nat} {pt : Bool} {d : List UInt8} {ks : List KyD} (h : th = if pt then 1 else 0) :
    bodyOf ⟨(c : Int), (l : Int), (s : Int), (e : Int), (n : Int), (x : Int), pt, ⟨d, ks, (sq : Int)⟩⟩ = pkL ([] ++ catB 1 [c] ++ catB 4 [l] ++ catB 6 [s] ++ catB 2 [e] ++ catB 6 [n, x] ++ catB 1 [th] ++ catB 6 [sq] ++ be 2 d.length ++ d ++ catB 1 [ks.length]) ks ks.length := by
  subst h
  unfold pkL
  rw [List.take_length]
  rfl
set_option maxRecDepth 100000 in
set_option maxHeartbeats 8000000 in
theorem pkp_any (A B : Nat → Prop) (p : RpD) (dv kv : Value) (w : World) (hT : TabW w) (hg0 : 0 < w.heap.size) (hd : RB A w dv p.obj.data) (hk : SlE Enc.key B w kv p.obj.keys) (hlk : p.obj.keys.length ≤ 100000) :
    Calls Tryz.prog 15 #[rpV p dv kv] w (NewB w (pkpL p)) := by
  obtain ⟨da, dc, rfl⟩ := hd.shape
  obtain ⟨ka, kc, rfl⟩ := hk.shape
  obtain ⟨qc, ql, qs, qe, qn, qx, pt, ⟨pd, pk, qo⟩⟩ := p
  simp only at *
  have HD := Lib.hid hd
  have HK := Lib.hid hk
  have HT := Lib.hid hT
  have HG := Lib.hid hg0
  have HEND : Hid (∀ v W l, OB w.heap.size W v l → Below w.heap.size w W → pkpL ⟨qc, ql, qs, qe, qn, qx, pt, ⟨pd, pk, qo⟩⟩ = l → NewB w (pkpL ⟨qc, ql, qs, qe, qn, qx, pt, ⟨pd, pk, qo⟩⟩) (.returned v) W) := Lib.hid fun v W l h1 h2 h3 => ⟨v, rfl, by rw [h3]; exact h1, h2⟩
  clear hT hg0 hd hk
  simp only [rpV]
  go_enter Tryz.func15, Tryz.ntmps15
  go_wp2_with fail
  refine (mayp_any A B ⟨qc, ql, qs, qe, qn, qx, pt, ⟨pd, pk, qo⟩⟩ _ _ _ (HD.out.ext ((Below.refl _ _).alloc (Nat.le_refl _) _)) (HK.out.ext ((Below.refl _ _).alloc (Nat.le_refl _) _)) hlk).mono ?_
  rintro e w1 ⟨rfl, hb1⟩
  cases hmay : mayRP ⟨qc, ql, qs, qe, qn, qx, pt, ⟨pd, pk, qo⟩⟩ with
  | false =>
    have HB := Lib.hid (((Below.refl _ w).alloc (Nat.le_refl _) _).trans (hb1.mono (by simp)))
    have HP := Lib.hid (pkpL_no hmay)
    clear hb1 hmay
    go_wp2
    go_ret
    exact HEND.out _ _ [] (OB.nil _ _) HB.out HP.out
  | true =>
  have HMQ := Lib.hid hmay
  obtain ⟨⟨⟨⟨i1, i2⟩, ⟨i3, i4⟩, ⟨i5, i6⟩⟩, ⟨i7, i8⟩, ⟨i9, i10⟩, ⟨i11, i12⟩⟩, hmb⟩ := mayRP_N hmay
  obtain ⟨hdl, hkl, ⟨i13, i14⟩, hks⟩ := mayB_parts hmb
  simp only at i1 i2 i3 i4 i5 i6 i7 i8 i9 i10 i11 i12 i13 i14 hdl hkl hks
  have HKS := Lib.hid hks
  clear hmay hmb hks
  obtain ⟨c, rfl⟩ := Int.eq_ofNat_of_zero_le i1
  obtain ⟨l, rfl⟩ := Int.eq_ofNat_of_zero_le i3
  obtain ⟨s, rfl⟩ := Int.eq_ofNat_of_zero_le i5
  obtain ⟨pe, rfl⟩ := Int.eq_ofNat_of_zero_le i7
  obtain ⟨n, rfl⟩ := Int.eq_ofNat_of_zero_le i9
  obtain ⟨x, rfl⟩ := Int.eq_ofNat_of_zero_le i11
  obtain ⟨po, rfl⟩ := Int.eq_ofNat_of_zero_le i13
  have hnum : Hid ((c < 256 ^ 1 ∧ l < 256 ^ 4 ∧ s < 256 ^ 6) ∧ (pe < 256 ^ 2 ∧ n < 256 ^ 6 ∧ x < 256 ^ 6) ∧ po < 256 ^ 6 ∧ pk.length < 256 ^ 1) := by
    show _ ∧ _
    omega
  clear i1 i2 i3 i4 i5 i6 i7 i8 i9 i10 i11 i12 i13 i14
  have B1 : w1.heap[w.heap.size]? = some (.cells (rpC ⟨(c : Int), (l : Int), (s : Int), (pe : Int), (n : Int), (x : Int), pt, ⟨pd, pk, (po : Int)⟩⟩ (.slice da pd.length dc) (.slice ka pk.length kc)) 40 (0, 0)) := (hb1.block _ (by simp)).trans (heap_alloc_new _ _)
  have hbw1 : Below w.heap.size w w1 := by ((repeat' (first | exact Below.refl _ _ | refine below_drewN ?_ _ | refine Below.drew ?_ | refine Below.alloc ?_ ?_ _ | refine Below.trans ?_ (Below.mono (by assumption) ?_))); all_goals (first | exact Nat.le_refl _ | exact Below.size (by assumption) | omega | (simp; done) | (simp; omega)))
  have hs1 := hb1.size
  simp only [World.size_alloc] at hs1
  have HB1 := Lib.hid B1
  have HW1 := Lib.hid hbw1
  clear B1 hb1 hbw1
  go_wp2_with fail
  refine (num_mk w1.heap.size 1 _ (by simp)).mono ?_
  rintro e w2 ⟨s1, s2, rfl, d1, d2, n1, n2, l1, l2, hb2⟩
  have hs2 := hb2.size
  simp only [World.size_alloc] at hs2
  go_wp2_with fail
  refine (num_mk w1.heap.size 6 _ (by omega)).mono ?_
  rintro e w3 ⟨s3, s4, rfl, d3, d4, n3, n4, l3, l4, hb3⟩
  have HX : Hid (Wfx w w1.heap.size s1 s2 s3 s4) := ⟨n1, n2, n3, n4, by omega⟩
  have hst : WsP ⟨(c : Int), (l : Int), (s : Int), (pe : Int), (n : Int), (x : Int), pt, ⟨pd, pk, (po : Int)⟩⟩ (.slice da pd.length dc) (.slice ka pk.length kc) w w1.heap.size s1 s2 s3 s4 w3 [] := by
    have hP : w2.heap[w1.heap.size]? = some (.cells #[.slice none 0 0] 78 (0, 0)) := (hb2.block _ (by simp)).trans (heap_alloc_new _ _)
    have hA : Below w1.heap.size w1 w3 := (((Below.refl _ w1).alloc (Nat.le_refl _) _).trans (hb2.mono (by simp))).trans (hb3.mono (by omega))
    refine ⟨⟨⟨.slice none 0 0, (hb3.block _ (by omega)).trans hP, RB.nil _ _⟩, Nat.le_refl _⟩, (hA.block _ (by omega)).trans HB1.out, cellExt hb3 d1, cellExt hb3 d2, d3, d4, HW1.out.trans (hA.mono (by omega))⟩
  have HST := Lib.hid hst
  clear hst d1 d2 d3 d4 hb2 hb3
  obtain ⟨y0, y1, y2, y3, y4, y5, y6, y7, y8, y9, -⟩ := rp_cells HST.out.q
  simp only at y0 y1 y2 y3 y4 y5 y6 y7 y8 y9
  have hlq : w.heap.size < w3.heap.size := (Array.getElem?_eq_some_iff.1 HST.out.q).1
  have hlp : w1.heap.size < w3.heap.size := HST.out.wr.lt
  obtain ⟨u1, u2⟩ : w3.cell? ⟨s1, 0, none⟩ = _ ∧ w3.cell? ⟨s2, 0, none⟩ = _ := ⟨HST.out.c1, HST.out.c2⟩
  go_wp2_with fail
  refine (wnum_any w1.heap.size w1.heap.size s1 s2 1 _ 0 1 [c] _ _ (by omega) (by omega) (all_one (P := fun x => x < 256 ^ 1) hnum.out.1.1) (by simp) (by simp [catB_length, be_length] <;> omega) (HST.out.wr.ext ((Below.refl _ _).alloc (Nat.le_refl _) _)) (cellExt ((Below.refl _ _).alloc (Nat.le_refl _) _) HST.out.c1) (cellExt ((Below.refl _ _).alloc (Nat.le_refl _) _) HST.out.c2) HX.out.n1 HX.out.n2 (Nat.ne_of_gt hlp) (one_cell _ c _)).mono ?_
  rintro e w4 ⟨rfl, hr, hf⟩
  replace HST := Lib.hid ((HST.out.ext ((Below.refl _ _).alloc (Nat.le_refl _) _)).step HX.out hf hr)
  clear hr hf u1 u2 hlq hlp y0 y1 y2 y3 y4 y5 y6 y7 y8 y9
  obtain ⟨y0, y1, y2, y3, y4, y5, y6, y7, y8, y9, -⟩ := rp_cells HST.out.q
  simp only at y0 y1 y2 y3 y4 y5 y6 y7 y8 y9
  have hlq : w.heap.size < w4.heap.size := (Array.getElem?_eq_some_iff.1 HST.out.q).1
  have hlp : w1.heap.size < w4.heap.size := HST.out.wr.lt
  go_upto_region 6 with fail
  go_cut [] (fun wx => WsP ⟨(c : Int), (l : Int), (s : Int), (pe : Int), (n : Int), (x : Int), pt, ⟨pd, pk, (po : Int)⟩⟩ (.slice da pd.length dc) (.slice ka pk.length kc) w w1.heap.size s1 s2 s3 s4 wx (([] ++ catB 1 [c]) ++ catB 4 [l]))
  case first =>
    go_region_with (first
      | (go_at_call 37; refine (num_mk w1.heap.size 4 _ (by first | exact hlp | (simp; omega))).mono ?_; rintro e w5 ⟨s5, s6, rfl, d5, d6, n5, n6, l5, l6, hb5⟩; have hbx : Below w4.heap.size w4 w5 := (by first | exact ((Below.refl _ w4).drew).trans hb5 | exact (((Below.refl _ w4).drew).alloc (Nat.le_refl _) _).trans (hb5.mono (by simp)) | exact (((Below.refl _ w4).alloc (Nat.le_refl _) _).drew).trans (hb5.mono (by simp))); have yy := cellExt hbx y1; have hs5 := hbx.size; have hlq5 : w.heap.size < w5.heap.size := Nat.lt_of_lt_of_le hlq hs5; have hlp5 : w1.heap.size < w5.heap.size := Nat.lt_of_lt_of_le hlp hs5)
      | (go_at_call 69; refine (wnum_any w1.heap.size w1.heap.size s5 s6 4 _ 0 1 [l] _ _ (by omega) (by omega) (all_one (P := fun x => x < 256 ^ 4) hnum.out.1.2.1) (by simp) (by simp [catB_length, be_length]) (HST.out.wr.ext (by ((repeat' (first | exact Below.refl _ _ | refine below_drewN ?_ _ | refine Below.drew ?_ | refine Below.alloc ?_ ?_ _ | refine Below.trans ?_ (Below.mono (by assumption) ?_))); all_goals (first | exact Nat.le_refl _ | exact Below.size (by assumption) | omega | (simp; done) | (simp; omega))))) (by first | exact d5 | exact (World.cell?_alloc_lt _ _ _ l5).trans d5) (by first | exact d6 | exact (World.cell?_alloc_lt _ _ _ l6).trans d6) n5 n6 (by first | exact Nat.ne_of_gt hlp5 | exact Nat.ne_of_gt hlp | omega) (by first | exact one_cell _ _ _ | exact fun i hi => cellExt hb5 (one_cell _ _ _ i hi))).mono ?_; rintro e w6 ⟨rfl, hr6, hf6⟩; have HST6 := Lib.hid ((HST.out.ext (by ((repeat' (first | exact Below.refl _ _ | refine below_drewN ?_ _ | refine Below.drew ?_ | refine Below.alloc ?_ ?_ _ | refine Below.trans ?_ (Below.mono (by assumption) ?_))); all_goals (first | exact Nat.le_refl _ | exact Below.size (by assumption) | omega | (simp; done) | (simp; omega))))).step HX.out hf6 hr6)))
    all_goals
      go_wp2_with fail
      go_meet
      exact HST6.out
  case rest =>
    obtain ⟨w6, rfl⟩ : ∃ z, z = wc := ⟨_, rfl⟩
    replace HST := Lib.hid hcut
    clear hcut hlq hlp y0 y1 y2 y3 y4 y5 y6 y7 y8 y9
    obtain ⟨y0, y1, y2, y3, y4, y5, y6, y7, y8, y9, -⟩ := rp_cells HST.out.q
    simp only at y0 y1 y2 y3 y4 y5 y6 y7 y8 y9
    have hlq : w.heap.size < w6.heap.size := (Array.getElem?_eq_some_iff.1 HST.out.q).1
    have hlp : w1.heap.size < w6.heap.size := HST.out.wr.lt
    obtain ⟨u1, u2⟩ : w6.cell? ⟨s3, 0, none⟩ = _ ∧ w6.cell? ⟨s4, 0, none⟩ = _ := ⟨HST.out.c3, HST.out.c4⟩
    go_wp2_with fail
    refine (wnum_any w1.heap.size w1.heap.size s3 s4 6 _ 0 1 [s] _ _ (by omega) (by omega) (all_one (P := fun x => x < 256 ^ 6) hnum.out.1.2.2) (by simp) (by simp [catB_length, be_length] <;> omega) (HST.out.wr.ext ((Below.refl _ _).alloc (Nat.le_refl _) _)) (cellExt ((Below.refl _ _).alloc (Nat.le_refl _) _) HST.out.c3) (cellExt ((Below.refl _ _).alloc (Nat.le_refl _) _) HST.out.c4) HX.out.n3 HX.out.n4 (Nat.ne_of_gt hlp) (one_cell _ s _)).mono ?_
    rintro e w7 ⟨rfl, hr, hf⟩
    replace HST := Lib.hid ((HST.out.ext ((Below.refl _ _).alloc (Nat.le_refl _) _)).step HX.out hf hr)
    clear hr hf u1 u2 hlq hlp y0 y1 y2 y3 y4 y5 y6 y7 y8 y9
    obtain ⟨y0, y1, y2, y3, y4, y5, y6, y7, y8, y9, -⟩ := rp_cells HST.out.q
    simp only at y0 y1 y2 y3 y4 y5 y6 y7 y8 y9
    have hlq : w.heap.size < w7.heap.size := (Array.getElem?_eq_some_iff.1 HST.out.q).1
    have hlp : w1.heap.size < w7.heap.size := HST.out.wr.lt
    go_upto_region 8 with fail
    go_cut [] (fun wx => WsP ⟨(c : Int), (l : Int), (s : Int), (pe : Int), (n : Int), (x : Int), pt, ⟨pd, pk, (po : Int)⟩⟩ (.slice da pd.length dc) (.slice ka pk.length kc) w w1.heap.size s1 s2 s3 s4 wx (([] ++ catB 1 [c] ++ catB 4 [l] ++ catB 6 [s]) ++ catB 2 [pe]))
    case first =>
      go_region_with (first
        | (go_at_call 37; refine (num_mk w1.heap.size 2 _ (by first | exact hlp | (simp; omega))).mono ?_; rintro e w8 ⟨s5, s6, rfl, d5, d6, n5, n6, l5, l6, hb5⟩; have hbx : Below w7.heap.size w7 w8 := (by first | exact ((Below.refl _ w7).drew).trans hb5 | exact (((Below.refl _ w7).drew).alloc (Nat.le_refl _) _).trans (hb5.mono (by simp)) | exact (((Below.refl _ w7).alloc (Nat.le_refl _) _).drew).trans (hb5.mono (by simp))); have yy := cellExt hbx y3; have hs5 := hbx.size; have hlq5 : w.heap.size < w8.heap.size := Nat.lt_of_lt_of_le hlq hs5; have hlp5 : w1.heap.size < w8.heap.size := Nat.lt_of_lt_of_le hlp hs5)
        | (go_at_call 69; refine (wnum_any w1.heap.size w1.heap.size s5 s6 2 _ 0 1 [pe] _ _ (by omega) (by omega) (all_one (P := fun x => x < 256 ^ 2) hnum.out.2.1.1) (by simp) (by simp [catB_length, be_length]) (HST.out.wr.ext (by ((repeat' (first | exact Below.refl _ _ | refine below_drewN ?_ _ | refine Below.drew ?_ | refine Below.alloc ?_ ?_ _ | refine Below.trans ?_ (Below.mono (by assumption) ?_))); all_goals (first | exact Nat.le_refl _ | exact Below.size (by assumption) | omega | (simp; done) | (simp; omega))))) (by first | exact d5 | exact (World.cell?_alloc_lt _ _ _ l5).trans d5) (by first | exact d6 | exact (World.cell?_alloc_lt _ _ _ l6).trans d6) n5 n6 (by first | exact Nat.ne_of_gt hlp5 | exact Nat.ne_of_gt hlp | omega) (by first | exact one_cell _ _ _ | exact fun i hi => cellExt hb5 (one_cell _ _ _ i hi))).mono ?_; rintro e w9 ⟨rfl, hr6, hf6⟩; have HST6 := Lib.hid ((HST.out.ext (by ((repeat' (first | exact Below.refl _ _ | refine below_drewN ?_ _ | refine Below.drew ?_ | refine Below.alloc ?_ ?_ _ | refine Below.trans ?_ (Below.mono (by assumption) ?_))); all_goals (first | exact Nat.le_refl _ | exact Below.size (by assumption) | omega | (simp; done) | (simp; omega))))).step HX.out hf6 hr6)))
      all_goals
        go_wp2_with fail
        go_meet
        exact HST6.out
    case rest =>
      obtain ⟨w9, rfl⟩ : ∃ z, z = wc := ⟨_, rfl⟩
      replace HST := Lib.hid hcut
      clear hcut hlq hlp y0 y1 y2 y3 y4 y5 y6 y7 y8 y9
      obtain ⟨y0, y1, y2, y3, y4, y5, y6, y7, y8, y9, -⟩ := rp_cells HST.out.q
      simp only at y0 y1 y2 y3 y4 y5 y6 y7 y8 y9
      have hlq : w.heap.size < w9.heap.size := (Array.getElem?_eq_some_iff.1 HST.out.q).1
      have hlp : w1.heap.size < w9.heap.size := HST.out.wr.lt
      obtain ⟨u1, u2⟩ : w9.cell? ⟨s3, 0, none⟩ = _ ∧ w9.cell? ⟨s4, 0, none⟩ = _ := ⟨HST.out.c3, HST.out.c4⟩
      go_wp2_with fail
      refine (wnum_any w1.heap.size w1.heap.size s3 s4 6 _ 0 2 [n, x] _ _ (by omega) (by omega) (all_two (P := fun x => x < 256 ^ 6) hnum.out.2.1.2.1 hnum.out.2.1.2.2) (by simp) (by simp [catB_length, be_length] <;> omega) (HST.out.wr.ext ((Below.refl _ _).alloc (Nat.le_refl _) _)) (cellExt ((Below.refl _ _).alloc (Nat.le_refl _) _) HST.out.c3) (cellExt ((Below.refl _ _).alloc (Nat.le_refl _) _) HST.out.c4) HX.out.n3 HX.out.n4 (Nat.ne_of_gt hlp) (two_cell _ n x _)).mono ?_
      rintro e w10 ⟨rfl, hr, hf⟩
      replace HST := Lib.hid ((HST.out.ext ((Below.refl _ _).alloc (Nat.le_refl _) _)).step HX.out hf hr)
      clear hr hf u1 u2 hlq hlp y0 y1 y2 y3 y4 y5 y6 y7 y8 y9
      obtain ⟨th, hth, hth1⟩ : ∃ th : Nat, th = (if pt then 1 else 0) ∧ th < 256 ^ 1 := ⟨_, rfl, by cases pt <;> decide⟩
      have HTH := Lib.hid hth
      obtain ⟨y0, y1, y2, y3, y4, y5, y6, y7, y8, y9, -⟩ := rp_cells HST.out.q
      simp only at y0 y1 y2 y3 y4 y5 y6 y7 y8 y9
      have hlq : w.heap.size < w10.heap.size := (Array.getElem?_eq_some_iff.1 HST.out.q).1
      have hlp : w1.heap.size < w10.heap.size := HST.out.wr.lt
      go_upto_if 48 with fail
      go_cut [6] (fun s6 wx => s6 = .int .i64 (th : Nat) ∧ wx = w10)
      case first =>
        cases pt with
        | true =>
          simp only [if_true] at hth
          subst hth
          go_wp2_with fail
          go_meet
          exact ⟨rfl, rfl⟩
        | false =>
          simp only [if_false, Bool.false_eq_true] at hth
          subst hth
          go_wp2_with fail
          go_meet
          exact ⟨rfl, rfl⟩
      case rest =>
        obtain ⟨rfl, hwc⟩ := hcut
        replace hwc := hwc.symm
        subst hwc
        clear hth hlq hlp y0 y1 y2 y3 y4 y5 y6 y7 y8 y9
        obtain ⟨y0, y1, y2, y3, y4, y5, y6, y7, y8, y9, -⟩ := rp_cells HST.out.q
        simp only at y0 y1 y2 y3 y4 y5 y6 y7 y8 y9
        have hlq : w.heap.size < w10.heap.size := (Array.getElem?_eq_some_iff.1 HST.out.q).1
        have hlp : w1.heap.size < w10.heap.size := HST.out.wr.lt
        obtain ⟨u1, u2⟩ : w10.cell? ⟨s1, 0, none⟩ = _ ∧ w10.cell? ⟨s2, 0, none⟩ = _ := ⟨HST.out.c1, HST.out.c2⟩
        go_wp2_with fail
        refine (wnum_any w1.heap.size w1.heap.size s1 s2 1 _ 0 1 [th] _ _ (by omega) (by omega) (all_one (P := fun x => x < 256 ^ 1) hth1) (by simp) (by simp [catB_length, be_length] <;> omega) (HST.out.wr.ext ((Below.refl _ _).alloc (Nat.le_refl _) _)) (cellExt ((Below.refl _ _).alloc (Nat.le_refl _) _) HST.out.c1) (cellExt ((Below.refl _ _).alloc (Nat.le_refl _) _) HST.out.c2) HX.out.n1 HX.out.n2 (Nat.ne_of_gt hlp) (one_cell _ th _)).mono ?_
        rintro e w11 ⟨rfl, hr, hf⟩
        replace HST := Lib.hid ((HST.out.ext ((Below.refl _ _).alloc (Nat.le_refl _) _)).step HX.out hf hr)
        clear hr hf u1 u2 hlq hlp y0 y1 y2 y3 y4 y5 y6 y7 y8 y9
        obtain ⟨y0, y1, y2, y3, y4, y5, y6, y7, y8, y9, -⟩ := rp_cells HST.out.q
        simp only at y0 y1 y2 y3 y4 y5 y6 y7 y8 y9
        have hlq : w.heap.size < w11.heap.size := (Array.getElem?_eq_some_iff.1 HST.out.q).1
        have hlp : w1.heap.size < w11.heap.size := HST.out.wr.lt
        obtain ⟨u1, u2⟩ : w11.cell? ⟨s3, 0, none⟩ = _ ∧ w11.cell? ⟨s4, 0, none⟩ = _ := ⟨HST.out.c3, HST.out.c4⟩
        go_wp2_with fail
        refine (wnum_any w1.heap.size w1.heap.size s3 s4 6 _ 0 1 [po] _ _ (by omega) (by omega) (all_one (P := fun x => x < 256 ^ 6) hnum.out.2.2.1) (by simp) (by simp [catB_length, be_length] <;> omega) (HST.out.wr.ext ((Below.refl _ _).alloc (Nat.le_refl _) _)) (cellExt ((Below.refl _ _).alloc (Nat.le_refl _) _) HST.out.c3) (cellExt ((Below.refl _ _).alloc (Nat.le_refl _) _) HST.out.c4) HX.out.n3 HX.out.n4 (Nat.ne_of_gt hlp) (one_cell _ po _)).mono ?_
        rintro e w12 ⟨rfl, hr, hf⟩
        replace HST := Lib.hid ((HST.out.ext ((Below.refl _ _).alloc (Nat.le_refl _) _)).step HX.out hf hr)
        clear hr hf u1 u2 hlq hlp y0 y1 y2 y3 y4 y5 y6 y7 y8 y9
        obtain ⟨y0, y1, y2, y3, y4, y5, y6, y7, y8, y9, -⟩ := rp_cells HST.out.q
        simp only at y0 y1 y2 y3 y4 y5 y6 y7 y8 y9
        have hlq : w.heap.size < w12.heap.size := (Array.getElem?_eq_some_iff.1 HST.out.q).1
        have hlp : w1.heap.size < w12.heap.size := HST.out.wr.lt
        go_wp2_with fail
        refine (wblob_any w1.heap.size w1.heap.size A _ _ pd _ HST.out.wr (HD.out.ext HST.out.bw) (by simp [catB_length, be_length] <;> omega) (by omega)).mono ?_
        rintro e w13 ⟨rfl, hr, hf⟩
        replace HST := Lib.hid (HST.out.step HX.out hf hr)
        clear hr hf hlq hlp y0 y1 y2 y3 y4 y5 y6 y7 y8 y9
        obtain ⟨y0, y1, y2, y3, y4, y5, y6, y7, y8, y9, -⟩ := rp_cells HST.out.q
        simp only at y0 y1 y2 y3 y4 y5 y6 y7 y8 y9
        have hlq : w.heap.size < w13.heap.size := (Array.getElem?_eq_some_iff.1 HST.out.q).1
        have hlp : w1.heap.size < w13.heap.size := HST.out.wr.lt
        obtain ⟨u1, u2⟩ : w13.cell? ⟨s1, 0, none⟩ = _ ∧ w13.cell? ⟨s2, 0, none⟩ = _ := ⟨HST.out.c1, HST.out.c2⟩
        go_wp2_with fail
        refine (wnum_any w1.heap.size w1.heap.size s1 s2 1 _ 0 1 [pk.length] _ _ (by omega) (by omega) (all_one (P := fun x => x < 256 ^ 1) hnum.out.2.2.2) (by simp) (by simp [catB_length, be_length] <;> omega) (HST.out.wr.ext ((Below.refl _ _).alloc (Nat.le_refl _) _)) (cellExt ((Below.refl _ _).alloc (Nat.le_refl _) _) HST.out.c1) (cellExt ((Below.refl _ _).alloc (Nat.le_refl _) _) HST.out.c2) HX.out.n1 HX.out.n2 (Nat.ne_of_gt hlp) (one_cell _ pk.length _)).mono ?_
        rintro e w14 ⟨rfl, hr, hf⟩
        replace HST := Lib.hid ((HST.out.ext ((Below.refl _ _).alloc (Nat.le_refl _) _)).step HX.out hf hr)
        clear hr hf u1 u2 hlq hlp y0 y1 y2 y3 y4 y5 y6 y7 y8 y9
        obtain ⟨y0, y1, y2, y3, y4, y5, y6, y7, y8, y9, -⟩ := rp_cells HST.out.q
        simp only at y0 y1 y2 y3 y4 y5 y6 y7 y8 y9
        have hlq : w.heap.size < w14.heap.size := (Array.getElem?_eq_some_iff.1 HST.out.q).1
        have hlp : w1.heap.size < w14.heap.size := HST.out.wr.lt
        obtain ⟨L0, hL0⟩ : ∃ L0, L0 = ([] ++ catB 1 [c] ++ catB 4 [l] ++ catB 6 [s] ++ catB 2 [pe] ++ catB 6 [n, x] ++ catB 1 [th] ++ catB 6 [po] ++ be 2 pd.length ++ pd ++ catB 1 [pk.length]) := ⟨_, rfl⟩
        rw [← hL0] at HST
        have HL0 : Hid (L0.length ≤ 200) := by
          show _ ≤ _
          rw [hL0]
          simp [catB_length, be_length]
          omega
        have HBO : Hid (pkL L0 pk pk.length = bodyOf ⟨(c : Int), (l : Int), (s : Int), (pe : Int), (n : Int), (x : Int), pt, ⟨pd, pk, (po : Int)⟩⟩) := by
          show pkL _ _ _ = _
          rw [hL0]
          exact (bodyOf_nat HTH.out).symm
        clear hL0
        go_wp2
        go_loopw [75] (fun q wr => ∃ k : Nat, k ≤ pk.length ∧ q = .int .i64 k ∧ WsP ⟨(c : Int), (l : Int), (s : Int), (pe : Int), (n : Int), (x : Int), pt, ⟨pd, pk, (po : Int)⟩⟩ (.slice da pd.length dc) (.slice ka pk.length kc) w w1.heap.size s1 s2 s3 s4 wr (pkL L0 pk k) ∧ (pkL L0 pk k).length ≤ 200 + 3104 * k) (fun q _ => pk.length - (intOf q).toNat)
        case atStart => exact ⟨0, Nat.zero_le _, rfl, by rw [pkL_zero]; exact HST.out, by rw [pkL_zero]; exact HL0.out⟩
        case round =>
          obtain ⟨k, hk, rfl, hstr, hlen⟩ := hrel
          have HSR := Lib.hid hstr
          have HLR := Lib.hid hlen
          clear hstr hlen HST hlq hlp y0 y1 y2 y3 y4 y5 y6 y7 y8 y9
          by_cases hlt : k < pk.length
          · have HSU := Lib.hid (pkL_succ L0 hlt)
            have HKN := Lib.hid (HKS.out pk[k] (List.getElem_mem hlt))
            obtain ⟨b, off, v, rfl, hb, -, c3w, c4w, hv⟩ := Keys.at HK.out hlt
            have c3 := cellExt HSR.out.bw c3w
            have c4 := cellExt HSR.out.bw c4w
            obtain ⟨va, vc, rfl⟩ := hv.shape
            have HV := Lib.hid hv
            clear hv c3w c4w
            generalize pk[k] = ky at *
            obtain ⟨nm, vl⟩ := ky
            simp only at c3 c4 HSU HKN HV
            have hnl : nm.data.toList.length = nm.size := by simp
            have HNL := Lib.hid hnl
            have HLK : Hid (nm.size ≤ 100 ∧ vl.length ≤ 3000) := HKN.out
            clear hnl HKN
            have hcs := fun W : World => run_bytes_of_string (P := Tryz.prog) W 9 27 5 nm Tryz.underlying9 Tryz.underlying27 Tryz.underlying5
            go_upto_region 20 with fail
            obtain ⟨wk, hwk⟩ : ∃ wk, wk = wr.alloc (.cells #[.string nm, .slice va vl.length vc] 89) := ⟨_, rfl⟩
            rw [← hwk]
            have hbk : Below wr.heap.size wr wk := by rw [hwk]; exact (Below.refl _ _).alloc (Nat.le_refl _) _
            have K : wk.heap[wr.heap.size]? = some (.cells #[.string nm, .slice va vl.length vc] 89 (0, 0)) := by rw [hwk]; exact heap_alloc_new _ _
            have hlk : wr.heap.size < wk.heap.size := (Array.getElem?_eq_some_iff.1 K).1
            have hpr := HSR.out.wr.lt
            replace HSR := Lib.hid (HSR.out.ext hbk)
            obtain ⟨x0, f0⟩ := blk_cell (i := 0) K
            simp at x0
            have HKK := Lib.hid K
            clear hwk K hbk c3 c4 f0
            go_wp2_with fail
            refine (wblob_any w1.heap.size w1.heap.size (fun b => wk.heap.size ≤ b) _ _ nm.data.toList _ (HSR.out.wr.ext (str_below wk nm)) (str_row wk nm) (by have := HLR.out; omega) (by rw [HNL.out]; have := HLK.out.1; omega)).mono ?_
            rintro e wa ⟨rfl, hr, hf⟩
            have hkb := blkk (str_below wk nm) HKK.out
            have hka : wa.heap[wr.heap.size]? = some (.cells #[.string nm, .slice va vl.length vc] 89 (0, 0)) := (hf.block _ (Array.getElem?_eq_some_iff.1 hkb).1 (by show ¬ (wr.heap.size = w1.heap.size); omega)).trans hkb
            replace HSR := Lib.hid ((HSR.out.ext (str_below wk nm)).step HX.out hf hr)
            obtain ⟨x1, f1⟩ := blk_cell (i := 1) hka
            simp at x1
            have hlk : wr.heap.size < wa.heap.size := (Array.getElem?_eq_some_iff.1 hka).1
            clear hr hf hkb hka x0 f1 hcs
            go_wp2_with fail
            refine (wblob_any w1.heap.size w1.heap.size B _ _ vl _ HSR.out.wr (HV.out.ext HSR.out.bw) (by have := HLR.out; have := HLK.out.1; have := HNL.out; simp only [List.length_append, be_length]; omega) (by have := HLK.out.2; omega)).mono ?_
            rintro e wz ⟨rfl, hr, hf⟩
            replace HSR := Lib.hid (HSR.out.step HX.out hf hr)
            clear hr hf x1 hlk
            go_wp2
            go_roundw
            case rel =>
              refine ⟨k + 1, by omega, by go_num, by rw [HSU.out]; exact HSR.out, ?_⟩
              rw [HSU.out]
              have := HLR.out
              have := HLK.out
              have := HNL.out
              simp only [List.length_append, be_length]
              omega
            case measure => simp [intOf]; omega
          · obtain rfl : k = pk.length := by omega
            have hgr : 0 < wr.heap.size := Nat.lt_of_lt_of_le HG.out HSR.out.bw.size
            have HLF : Hid ((pkL L0 pk pk.length).length ≤ 8192 ∨ 8192 < (pkL L0 pk pk.length).length) := by show _ ∨ _; omega
            clear hlt
            rcases HLF.out with hle | hle
            · go_wp2_with fail
              refine (framed_any w1.heap.size w1.heap.size 2 _ _ HSR.out.wr (by omega) (tab_below HT.out HSR.out.bw HG.out) hgr hle).mono ?_
              rintro e wz ⟨vz, rfl, ho, hbz⟩
              have HO := Lib.hid ho
              have HBZ := Lib.hid hbz
              have HLE := Lib.hid hle
              clear ho hbz hle
              go_wp2
              go_ret
              exact HEND.out _ _ _ (HO.out.base_le HSR.out.bw.size) (HSR.out.bw.trans (HBZ.out.mono HSR.out.bw.size)) ((pkpL_if HMQ.out HBO.out.symm).trans (if_pos HLE.out))
            · go_wp2_with fail
              refine (framed_long w1.heap.size w1.heap.size 2 _ _ HSR.out.wr (by omega) hle).mono ?_
              rintro e wz ⟨vz, rfl, ho, hbz⟩
              have HO := Lib.hid ho
              have HBZ := Lib.hid hbz
              have HLE : Hid (¬ (pkL L0 pk pk.length).length ≤ 8192) := Lib.hid (Nat.not_le.2 hle)
              clear ho hbz hle
              go_wp2
              go_ret
              exact HEND.out _ _ _ (HO.out.base_le HSR.out.bw.size) (HSR.out.bw.trans (HBZ.out.mono HSR.out.bw.size)) ((pkpL_if HMQ.out HBO.out.symm).trans (if_neg HLE.out))
end Go.Proofs.YtlgefkaafoidmaaGreatDoor
