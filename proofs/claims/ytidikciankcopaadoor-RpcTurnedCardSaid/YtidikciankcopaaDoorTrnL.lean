/- The walk of terrazzolaw16.RpcTurned. -/
import Derived.Test.YtidikciankcopaaDoorPkqA
import Derived.Test.YtidikciankcopaaDoorTurn
import Derived.Test.YtidikciankcopaaDoorSameR
import Derived.Test.YtidikciankcopaaDoorAwk16
import Derived.Test.YtidikciankcopaaDoorMask16
import Derived.Deep.DeepCutAuto
namespace Go.Proofs.YtidikciankcopaaDoor
open Go.RowKit Go.WideShapes

/-- a byte of which one bit has turned, in the walk's words -/
theorem turn_u8 (b : UInt8) (j : Nat) (hj : j < 8) : ∃ c : UInt8, bits .xor .u8 (b.toNat : Int) ((2 : Int) ^ j % 256) = (c.toNat : Int) ∧ c ≠ b := by
  obtain ⟨y, hy, hy0⟩ : ∃ y : UInt8, ((2 : Int) ^ j % 256) = (y.toNat : Int) ∧ y ≠ 0 := by
    have h1 : ∀ i : Fin 8, ((2 : Int) ^ i.val % 256) = ((UInt8.ofNat (2 ^ i.val)).toNat : Int) := by decide
    have h2 : ∀ i : Fin 8, UInt8.ofNat (2 ^ i.val) ≠ 0 := by decide
    exact ⟨_, h1 ⟨j, hj⟩, h2 ⟨j, hj⟩⟩
  rw [hy]
  have e : bits .xor .u8 (b.toNat : Int) (y.toNat : Int) = IntKind.u8.wrap (((BitVec.ofInt IntKind.u8.bits (b.toNat : Int)) ^^^ (BitVec.ofInt IntKind.u8.bits (y.toNat : Int))).toNat : Int) := rfl
  have ho : ∀ a : UInt8, BitVec.ofInt IntKind.u8.bits (a.toNat : Int) = a.toBitVec := fun a => by
    apply BitVec.eq_of_toNat_eq
    rw [BitVec.ofInt_natCast, BitVec.toNat_ofNat]
    exact Nat.mod_eq_of_lt a.toBitVec.isLt
  refine ⟨b ^^^ y, ?_, ?_⟩
  · rw [e, ho, ho]
    have h : (b.toBitVec ^^^ y.toBitVec).toNat < 256 := (b.toBitVec ^^^ y.toBitVec).isLt
    exact IntWalk.u8_in ((b.toBitVec ^^^ y.toBitVec).toNat : Int) ⟨by omega, by omega⟩
  · intro h
    have h2 : b ^^^ (b ^^^ y) = y := by rw [← UInt8.xor_assoc, UInt8.xor_self, UInt8.zero_xor]
    rw [h, UInt8.xor_self] at h2
    exact hy0 h2.symm

set_option maxRecDepth 100000 in
set_option maxHeartbeats 16000000 in
theorem turned_law (A : Nat → Prop) (vq : Value) (q : RqD) (at_ bit : Int) (w : World) (hT : TabW w) (hg0 : 0 < w.heap.size) (hq : RqV A w vq q) (hb0 : 0 ≤ bit ∧ bit ≤ 255) :
    Calls Tryd.prog 4 #[vq, .int .i64 at_, .int .u8 bit] w (Yes w) := by
  obtain ⟨ov, rfl, ho⟩ := hq
  obtain ⟨oa, oc, rfl⟩ := ho.shape
  have HT := Lib.hid hT
  have HG := Lib.hid hg0
  have HO := Lib.hid ho
  clear hT hg0 ho
  obtain ⟨qc, ql, qs, qk, qi, qw, qn, ⟨qo, qops⟩⟩ := q
  simp only [rqV] at *
  go_enter Tryd.func4, Tryd.ntmps4
  go_wp2_with fail
  refine (awake_any _ (tab_below HT.out ((Below.refl _ _).alloc (Nat.le_refl _) _) HG.out) (by have := HG.out; rw [World.size_alloc]; omega)).mono ?_
  rintro e w1 ⟨rfl, hb1⟩
  have HW : Hid (Below w.heap.size w w1) := below_call ((Below.refl _ _).alloc (Nat.le_refl _) _) hb1
  have B1 : Hid (w1.heap[w.heap.size]? = some (.cells (rqC ⟨qc, ql, qs, qk, qi, qw, qn, ⟨qo, qops⟩⟩ (.slice oa qops.length oc)) 30 (0, 0))) := blkk hb1 (heap_alloc_new w _)
  clear hb1
  obtain ⟨-, -, -, -, -, -, -, x7, x8, l0⟩ := rq_cells B1.out
  simp only at x7 x8
  go_wp2_with fail
  refine (few_any A ⟨qo, qops⟩ _ _ (HO.out.ext HW.out)).mono ?_
  rintro e w2 ⟨f1, rfl, hfew, hb2⟩
  have HW2 : Hid (Below w.heap.size w w2) := below_call HW.out hb2
  have B2 := Lib.hid (blkk hb2 B1.out)
  clear hb2 B1 HW x7 x8 l0
  rcases f1 with _ | _
  · clear hfew
    go_wp2
    go_ret
    exact ⟨rfl, HW2.out⟩
  have HF := Lib.hid (hfew rfl)
  clear hfew
  obtain ⟨x0, x1, x2, x3, x4, x5, x6, x7, x8, l0⟩ := rq_cells B2.out
  simp only at x0 x1 x2 x3 x4 x5 x6 x7 x8
  go_wp2_with fail
  refine (pkq_any A ⟨qc, ql, qs, qk, qi, qw, qn, ⟨qo, qops⟩⟩ _ _ (tab_below HT.out HW2.out HG.out) (Nat.lt_of_lt_of_le HG.out HW2.out.size) (HO.out.ext HW2.out) HF.out.2.1).mono ?_
  rintro e w3 ⟨v3, l, rfl, ho3, hb3, hl⟩
  have HW3 : Hid (Below w.heap.size w w3) := below_call HW2.out hb3
  have hbs := HW2.out.size
  clear hb3 x0 x1 x2 x3 x4 x5 x6 x7 x8 l0 B2
  rcases ho3.2 with ⟨rfl, h0⟩ | ⟨g, cap, cur, rfl, hgb, hgr, hrest⟩
  · clear hl h0 ho3
    go_wp2
    go_ret
    exact ⟨rfl, HW3.out⟩
  rcases hl with rfl | ⟨body, hbody, rfl⟩
  · have HO3 := Lib.hid ho3
    clear ho3 hgr hrest
    simp only [List.length_nil]
    go_wp2
    go_ret
    exact ⟨rfl, HW3.out⟩
  have HO3 := Lib.hid ho3
  have HBODY := Lib.hid hbody
  clear ho3 hgr hrest hbody
  obtain ⟨N, hN⟩ : ∃ N, N = (frm 1 body).length := ⟨_, rfl⟩
  have hN12 : N = body.length + 12 := hN.trans (frm_length 1 body)
  rw [← hN] at HO3 ⊢
  have HR3 : Hid (RB (fun b => w2.heap.size ≤ b) w3 (.slice (some ⟨g, 0, none⟩) N cap) (frm 1 body)) := HO3.out.rb
  have hcapN : N ≤ cap := (RB.in_ HR3.out (by omega)).2.2.2
  have hgl : g < w3.heap.size := (RB.in_ HR3.out (by omega)).1
  have hN0 : 0 < N := by omega
  have hN1 : N ≤ 8204 := by have := HBODY.out; omega
  have HN := Lib.hid hN
  clear hN hN12
  obtain ⟨m, hm⟩ : ∃ m : Nat, m < 65536 ∧ bits .and .i64 at_ 65535 = (m : Int) := by
    have h : bits .and .i64 at_ 65535 = at_ % 65536 := i64_maskB at_ 16 (by omega)
    have h0 : 0 ≤ at_ % 65536 := Int.emod_nonneg _ (by decide)
    have h1 : at_ % 65536 < 65536 := Int.emod_lt_of_pos _ (by decide)
    obtain ⟨i, hi⟩ := Int.eq_ofNat_of_zero_le h0
    exact ⟨i, by omega, h.trans hi⟩
  obtain ⟨hm0, hm⟩ := hm
  obtain ⟨kk, hkk⟩ : ∃ kk : Nat, kk = m % N := ⟨_, rfl⟩
  have hkN : kk < N := by rw [hkk]; exact Nat.mod_lt _ hN0
  have hmod : (m : Int) % (N : Int) = (kk : Int) := by rw [hkk]; exact (Int.natCast_emod m N).symm
  clear hkk
  have hNz : ((N : Int) == 0) = false := by simp; omega
  have hk0 : (0 : Int) ≤ (kk : Int) := by omega
  have hkc : (kk : Int) ≤ (cap : Int) := by omega
  go_wp2_with fail
  refine (unq_bad (fun b => w2.heap.size ≤ b) _ ((frm 1 body).take kk) 10 _ (RB.take (by rw [← HN.out]; exact HR3.out) (by rw [← HN.out]; omega) cap (by omega) (by rw [← HN.out]; omega)) (by simp; omega) (tab_below HT.out HW3.out HG.out) (Nat.lt_of_lt_of_le HG.out HW3.out.size) (.inl ⟨next_short 1 body HBODY.out kk (by rw [← HN.out]; exact hkN), by decide⟩)).mono ?_
  rintro e w4 ⟨rfl, hb4⟩
  simp only [rqV, RqD.none, TxD.none]
  have HB4 := Lib.hid hb4
  clear hb4
  go_upto_region 12 with fail
  obtain ⟨w5, hw5⟩ : ∃ w5, w5 = w4.alloc (.cells #[Value.int IntKind.i64 0, Value.int IntKind.i64 0, Value.int IntKind.i64 0, Value.int IntKind.i64 0, Value.int IntKind.i64 0, Value.int IntKind.i64 0, Value.int IntKind.i64 0, Value.string ByteArray.empty, Value.slice none 0 0] 30) := ⟨_, rfl⟩
  rw [← hw5]
  have HB5 : Hid (Below w3.heap.size w3 w5) := Lib.hid (by rw [hw5]; exact HB4.out.alloc HB4.out.size _)
  have hs5 : w3.heap.size ≤ w5.heap.size := HB5.out.size
  clear hw5
  obtain ⟨i0, hi, hz0, hz1, hz2⟩ := info_parts infoByte
  go_wp2_with (first | (at_builtin; refine wpList_append_sl rfl _ _ 34 rfl w5.heap.size 5 i0 (.int .u8 0) 1 1 Tryd.underlying34 hi hz0 hz1 hz2 rfl (by decide) _ 0 [] rfl (World.ownsRow_made w5 #[] 0 (Nat.le_refl _) (by decide) rfl) (fun b => w2.heap.size ≤ b) (.slice (some ⟨g, 0, none⟩) N cap) N ((frm 1 body).map bv) rfl ?c1 (one_bytes _) ?c2 ?c3 ?c4 ?_) | go_in)
  case c1 =>
    have h := HR3.out.ext (HB5.out.trans ((Below.refl w5.heap.size w5).alloc (Nat.le_refl _) (.cells #[] 5) |>.mono hs5))
    unfold RB at h
    rw [← HN.out] at h
    exact h
  case c2 => unfold maxLen; omega
  case c3 => omega
  case c4 => simp
  intro v6 w6 ho6 hg6
  have HB6 : Hid (Below w5.heap.size w5 w6) := ((Below.refl _ w5).alloc (Nat.le_refl _) _).grown hg6 (by simp) fun j hj => by
    simp [Value.ownBlock] at hj; omega
  have HO6 := Lib.hid ho6
  have hs6 : w5.heap.size ≤ w6.heap.size := HB6.out.size
  clear hg6 ho6
  obtain ⟨x, hx⟩ : ∃ x : UInt8, at_ % 256 = (x.toNat : Int) := by
    have h0 : 0 ≤ at_ % 256 := Int.emod_nonneg _ (by decide)
    have h1 : at_ % 256 < 256 := Int.emod_lt_of_pos _ (by decide)
    refine ⟨UInt8.ofNat (at_ % 256).toNat, ?_⟩
    simp only [UInt8.toNat_ofNat']
    omega
  go_wp2_with (first | (at_builtin; refine wpList_append_own _ rfl _ _ 34 rfl w5.heap.size 5 i0 (.int .u8 0) 1 1 Tryd.underlying34 hi hz0 hz1 hz2 rfl (by decide) _ _ _ rfl (HO6.out.alloc _) ⟨w6.heap.size, 0, none⟩ 1 1 [.int .u8 (x.toNat : Int)] rfl rfl ?c1 ?c2 ?c3 ?c4 ?c5 ?_) | go_in)
  case c1 => exact cells_new w6 [.int .u8 (x.toNat : Int)] _
  case c2 => simp [Value.oneCell']
  case c3 => unfold maxLen; omega
  case c4 => omega
  case c5 => simp; omega
  intro v7 w7 ho7 hg7 hn7
  have HO7 : Hid (OB w5.heap.size w7 v7 (frm 1 body ++ [x])) := OB.cast ho7 (by rw [HN.out]; simp) (by simp [bv])
  have HB7 : Hid (Below w5.heap.size w5 w7) := (HB6.out.alloc hs6 _).grown hg7 (by simp; omega) fun j hj => (HO6.out.lt j hj).1
  clear ho7 hg7 hn7 HO6 HB6
  have HW5 : Hid (Below w.heap.size w w5) := below_call HW3.out HB5.out
  have HW7 : Hid (Below w.heap.size w w7) := below_call HW5.out HB7.out
  go_wp2_with fail
  refine (unq_bad (fun b => w5.heap.size ≤ b) _ (frm 1 body ++ [x]) 11 _ HO7.out.rb (by rw [List.length_append, ← HN.out]; simp; omega) (tab_below HT.out HW7.out HG.out) (Nat.lt_of_lt_of_le HG.out HW7.out.size) (.inr ⟨by rw [next_frm_gen 1 body [x] (by decide) HBODY.out], by rw [next_frm_gen 1 body [x] (by decide) HBODY.out]; simp, rfl⟩)).mono ?_
  rintro e w8 ⟨rfl, hb8⟩
  simp only [rqV, RqD.none, TxD.none]
  have HB8 : Hid (Below w5.heap.size w5 w8) := below_call HB7.out hb8
  clear hb8 HO7 HW7 HB7 hs6
  go_upto_region 13 with fail
  obtain ⟨w9, hw9⟩ : ∃ w9, w9 = w8.alloc (.cells #[Value.int IntKind.i64 0, Value.int IntKind.i64 0, Value.int IntKind.i64 0, Value.int IntKind.i64 0, Value.int IntKind.i64 0, Value.int IntKind.i64 0, Value.int IntKind.i64 0, Value.string ByteArray.empty, Value.slice none 0 0] 30) := ⟨_, rfl⟩
  rw [← hw9]
  have HB9 : Hid (Below w3.heap.size w3 w9) := below_call HB5.out (by rw [hw9]; exact HB8.out.alloc HB8.out.size _)
  have HR9 : Hid (OB w2.heap.size w9 (.slice (some ⟨g, 0, none⟩) N cap) (frm 1 body)) := HO3.out.ext HB9.out
  clear hw9 HB8 HO3 HR3 HB5 hs5 hx
  have hkl : kk < (frm 1 body).length := by rw [← HN.out]; exact hkN
  obtain ⟨b, hbd⟩ : ∃ b, b = (frm 1 body)[kk] := ⟨_, rfl⟩
  have hown9 : w9.ownsRow w2.heap.size 5 1 (.slice (some ⟨g, 0, none⟩) N cap) N ((frm 1 body).map bv) := by
    have h := HR9.out
    unfold OB at h
    rw [← HN.out] at h
    exact h
  have hc9 : w9.cell? ⟨g, kk, none⟩ = some (.int .u8 (b.toNat : Int)) := by
    have h := World.ownsRow.cellAt hown9 kk (by omega)
    rw [h, List.getElem?_map, List.getElem?_eq_getElem hkl, ← hbd]
    rfl
  have hz9 : w9.frozen? ⟨g, kk, none⟩ = false := World.ownsRow.frozenAt hown9 kk
  have HS9 := Lib.hid (owns_set hown9 kk)
  have HBD := Lib.hid hbd

  clear hown9 hbd
  have hb8 : ∃ j : Nat, j < 8 ∧ bit % 8 = (j : Int) := ⟨(bit % 8).toNat, by omega, by omega⟩
  obtain ⟨j, hj8, hj⟩ := hb8
  have hk1 : (kk : Int) < (N : Int) := by omega
  obtain ⟨c, hcx, hcb⟩ := turn_u8 b j hj8
  have HCB := Lib.hid hcb
  clear hcb hj8
  have HW9 : Hid (Below w.heap.size w w9) := below_call HW3.out HB9.out
  clear HB9 HR9 HW5
  go_upto_region 14 with fail
  obtain ⟨w10, hw10⟩ : ∃ w10, w10 = w9.setCell ⟨g, kk, none⟩ (.int .u8 (c.toNat : Int)) := ⟨_, rfl⟩
  rw [← hw10]
  have HO10 : Hid (OB w2.heap.size w10 (.slice (some ⟨g, 0, none⟩) N cap) ((frm 1 body).set kk c)) := by
    have h := HS9.out (bv c)
    rw [show w9.setCell ⟨g, kk, none⟩ (bv c) = w10 from hw10.symm] at h
    exact OB.cast h (by rw [HN.out]; simp) (by simp [List.map_set])
  have HW10 : Hid (Below w.heap.size w w10) := by
    rw [hw10]
    exact HW9.out.setCell (p := ⟨g, kk, none⟩) (Nat.le_trans hbs hgb) _
  clear hw10 HS9 HW9 hc9 hz9 hcx hj
  obtain ⟨z, hz⟩ : ∃ z, z = (nextB ((frm 1 body).set kk c)).e := ⟨_, rfl⟩
  have hzn : z ≠ 0 := by
    rw [hz]
    exact next_turned 1 body HBODY.out kk hkl c (by rw [← HBD.out]; exact HCB.out)
  go_wp2_with fail
  refine (unq_bad (fun b => w2.heap.size ≤ b) _ ((frm 1 body).set kk c) z _ HO10.out.rb (by rw [List.length_set, ← HN.out]; omega) (tab_below HT.out HW10.out HG.out) (Nat.lt_of_lt_of_le HG.out HW10.out.size) (.inl ⟨hz.symm, hzn⟩)).mono ?_
  rintro e w11 ⟨rfl, hb11⟩
  simp only [rqV, RqD.none, TxD.none]
  have HW11 : Hid (Below w.heap.size w w11) := below_call HW10.out hb11
  clear hb11 hz HO10 HW10
  have hz0 : ((z : Int) == 0) = false := by simp; omega
  have hz1 : ((z : Int) != 0) = true := by simp; omega
  go_upto_region 15 with fail
  obtain ⟨w12, hw12⟩ : ∃ w12, w12 = w11.alloc (.cells #[Value.int IntKind.i64 0, Value.int IntKind.i64 0, Value.int IntKind.i64 0, Value.int IntKind.i64 0, Value.int IntKind.i64 0, Value.int IntKind.i64 0, Value.int IntKind.i64 0, Value.string ByteArray.empty, Value.slice none 0 0] 30) := ⟨_, rfl⟩
  rw [← hw12]
  have B12 : w12.heap[w11.heap.size]? = some (.cells (rqC RqD.none (.slice none 0 0)) 30 (0, 0)) := by rw [hw12]; exact heap_alloc_new w11 _
  have HW12 : Hid (Below w.heap.size w w12) := by rw [hw12]; exact below_new HW11.out _
  clear hw12 HW11
  obtain ⟨x0, x1, x2, x3, x4, x5, x6, x7, x8, l0⟩ := rq_cells (q := RqD.none) (ov := .slice none 0 0) B12
  simp only [RqD.none, TxD.none] at x0 x1 x2 x3 x4 x5 x6 x7 x8
  go_wp2_with fail
  refine (samerq_yes (fun _ => False) (fun _ => False) RqD.none _ _ _ ⟨.slice none 0 0, rfl, SlE.nil _ _ _⟩ ⟨.slice none 0 0, rfl, SlE.nil _ _ _⟩ (by simp [RqD.none, TxD.none])).mono ?_
  rintro e w13 ⟨rfl, hb13⟩
  have HW13 : Hid (Below w.heap.size w w13) := below_call HW12.out hb13
  clear hb13 B12 x0 x1 x2 x3 x4 x5 x6 x7 x8 l0
  go_wp2
  go_ret
  exact ⟨rfl, HW13.out⟩
end Go.Proofs.YtidikciankcopaaDoor
