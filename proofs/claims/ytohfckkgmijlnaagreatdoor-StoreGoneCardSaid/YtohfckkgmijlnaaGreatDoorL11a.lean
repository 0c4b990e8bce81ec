/- The walk of terrazzolaw11.StoreGone. -/
import Derived.Test.YtohfckkgmijlnaaGreatDoorPU
import Derived.Test.YtohfckkgmijlnaaGreatDoorPK
import Derived.Test.YtohfckkgmijlnaaGreatDoorPL
namespace Go.Proofs.YtohfckkgmijlnaaGreatDoor
open Go.RowKit Go.Maps Go.WideShapes
attribute [local go_sem ↓] Go.wp_at_zero Go.wp_at_succ

theorem opR_dat : ∀ op ∈ opR, op.data.length ≤ 50000 := by
  intro o ho
  simp [opR] at ho
  subst ho
  exact Nat.zero_le _
set_option maxRecDepth 100000 in
set_option maxHeartbeats 8000000 in
theorem gone_law (v vb : Value) (l : List TxD) (nm : ByteArray) (bs : List UInt8) (w : World) (hE : ErrT w) (hl : SlE Enc.txn (fun b => b < w.heap.size) w v l) (hb : RB (fun b => b < w.heap.size) w vb bs) :
    Calls Tryz.prog 6 #[v, .string nm, vb] w (Says true w) := by
  obtain ⟨va, vc, rfl⟩ := hl.shape
  obtain ⟨ba, bc, rfl⟩ := hb.shape
  have HL := Lib.hid hl
  have HE := Lib.hid hE
  have HB := Lib.hid hb
  clear hl hE hb
  go_enter Tryz.func6, Tryz.ntmps6
  go_wp2_with fail
  refine (awake11_any _ HE.out).mono ?_
  rintro e w1 ⟨rfl, hb1⟩
  have HW1 := Lib.hid hb1
  clear hb1
  by_cases h1 : 50 < nm.size
  · have h1' : (50 : Int) < nm.size := by omega
    go_wp2
    go_ret
    exact ⟨rfl, HW1.out⟩
  have h1' : ¬ (50 : Int) < nm.size := by omega
  by_cases h2 : 64 < bs.length
  · have h2' : (64 : Int) < bs.length := by omega
    go_wp2
    go_ret
    exact ⟨rfl, HW1.out⟩
  have h2' : ¬ (64 : Int) < bs.length := by omega
  go_wp2_with fail
  refine (rname_any _ _).mono ?_
  rintro e w' ⟨rfl, rfl⟩
  cases hn : nameB nm with
  | false =>
    go_wp2
    go_ret
    exact ⟨rfl, HW1.out⟩
  | true =>
    have HN := Lib.hid hn
    clear hn
    go_wp2_with fail
    refine (behind_any w w1 HW1.out HE.out 100 _ l HL.out).mono ?_
    rintro e w2 ⟨p, b, s, rfl, hS, hroom, hlen⟩
    have HS := Lib.hid hS
    have HR : Hid (s.room = 100) := Lib.hid hroom
    have HLN := Lib.hid hlen
    clear hS hroom hlen HW1
    go_wp2_with fail
    obtain ⟨w3, hw3⟩ : ∃ w3, w3 = w2.alloc (.cells #[.int .i64 13, .int .i64 0, .int .i64 0, .string ⟨#[]⟩, .slice none 0 0] 57) := ⟨_, rfl⟩
    rw [← hw3]
    have hb3 : Below w2.heap.size w2 w3 := by rw [hw3]; exact (Below.refl _ w2).alloc (Nat.le_refl _) _
    have ho3 : SlE Enc.op (fun _ => True) w3 (.slice (some ⟨w2.heap.size, 0, none⟩) 1 1) opR := by
      rw [hw3]
      exact sle_one (E := Enc.op) (y := ⟨13, 0, 0, ⟨#[]⟩, []⟩) [.int .i64 13, .int .i64 0, .int .i64 0, .string ⟨#[]⟩, .slice none 0 0] ⟨_, rfl, RB.nil _ _⟩ (heap_alloc_new _ _) trivial (Nat.le_refl _)
    have HS3 := Lib.hid (HS.out.ext hb3)
    have HO3 := Lib.hid ho3
    clear hw3 hb3 ho3
    refine (HS3.out.doC HE.out (t := ⟨nm, opR⟩) HO3.out opR_dat (by show nm.size ≤ _; omega)).mono ?_
    rintro e w4 ⟨rfl, hS4, -⟩
    have hg := st_gone HS.out.ok HN.out
    rw [hg] at hS4 ⊢
    obtain ⟨s4, hs4⟩ : ∃ s4 : StD, s4 = ⟨s.room, delS nm s.l⟩ := ⟨_, rfl⟩
    simp only [← hs4] at hS4 ⊢
    have HS4 := Lib.hid hS4
    have HI4 : Hid (s4.is nm = false) := Lib.hid (by rw [hs4]; exact is_del s nm s.room)
    have HR4 : Hid (s4.l.length < s4.room) := Lib.hid (by rw [hs4]; have := delS_len nm s.l; have := HR.out; have := HLN.out; show (delS nm s.l).length < s.room; omega)
    clear hS4 hg hs4 HS3 HO3 HS
    go_wp2_with fail
    refine (HS4.out.getC nm (by omega)).mono ?_
    rintro e w5 ⟨a5, c5, u5, q5, rfl, ho5, hb5, hS5⟩
    rw [HI4.out]
    have HS5 := Lib.hid hS5
    clear ho5 hb5 hS5 HS4
    go_upto_region 9 with fail
    obtain ⟨w6, hw6⟩ : ∃ w6, w6 = w5.alloc (.cells #[.slice a5 (s4.obj nm).data.length c5, .slice u5 (s4.obj nm).keys.length q5, .int .i64 (s4.obj nm).seq] 41) := ⟨_, rfl⟩
    rw [← hw6]
    have hb6 : Below w5.heap.size w5 w6 := by rw [hw6]; exact (Below.refl _ w5).alloc (Nat.le_refl _) _
    have HS6 := Lib.hid (HS5.out.ext hb6)
    clear hw6 hb6 HS5
    have hln := HS6.out.lenC
    have HLC := Lib.hid hln
    clear hln
    go_wp2_with fail
    refine HLC.out.mono ?_
    rintro e w' ⟨rfl, rfl⟩
    have hcv := conv_bytes HB.out w6 HS6.out.bel
    go_wp2_with fail
    refine (write11_any nm ⟨bs.toArray⟩ w6).mono ?_
    rintro e w7 ⟨a7, c7, rfl, ho7, hb7⟩
    have HO7 : Hid (SlE Enc.op (fun _ => True) w7 (.slice a7 1 c7) (opW bs)) := Lib.hid (by simpa [opW] using ho7)
    have HS7 := Lib.hid (HS6.out.ext hb7)
    clear ho7 hb7 HS6 hcv HLC
    go_wp2_with fail
    refine (HS7.out.doC HE.out (t := ⟨nm, opW bs⟩) HO7.out (opW_dat (by omega)) (by show nm.size ≤ _; omega)).mono ?_
    rintro e w8 ⟨rfl, hS8, -⟩
    have hg := st_anew HS7.out.ok HN.out HI4.out HR4.out (by omega : bs.length ≤ 64)
    rw [hg] at hS8 ⊢
    have hup := HS7.out.ok.up
    obtain ⟨s8, hs8⟩ : ∃ s8 : StD, s8 = ⟨s4.room, putS nm ⟨bs, [], 0⟩ s4.l⟩ := ⟨_, rfl⟩
    have hoi := obj_put (s := s4) (nm := nm) (o := ⟨bs, [], 0⟩) (r := s4.room) hup
    have hpl := len_put (nm := nm) (o := ⟨bs, [], 0⟩) (is_none HI4.out)
    simp only [← hs8] at hS8 hoi ⊢
    have HL8 : Hid (s8.l.length = s4.l.length + 1) := Lib.hid (by rw [hs8]; exact hpl)
    have HS8 := Lib.hid hS8
    have HO8 := Lib.hid hoi.1
    have HI8 := Lib.hid hoi.2
    clear hS8 hg hs8 hoi hpl hup HS7 HO7
    go_wp2_with fail
    refine (HS8.out.getC nm (by omega)).mono ?_
    rw [HO8.out, HI8.out]
    rintro e w9 ⟨a9, c9, u9, q9, rfl, ho9, hb9, hS9⟩
    have hv9 := ho9.obv
    have HS9 := Lib.hid hS9
    clear ho9 hb9 hS9 HS8
    simp only [List.length_nil] at hv9 ⊢
    go_upto_region 12 with fail
    obtain ⟨w10, hw10⟩ : ∃ w10, w10 = w9.alloc (.cells #[.slice a9 bs.length c9, .slice u9 0 q9, .int .i64 0] 41) := ⟨_, rfl⟩
    rw [← hw10]
    have hb10 : Below w9.heap.size w9 w10 := by rw [hw10]; exact (Below.refl _ w9).alloc (Nat.le_refl _) _
    have R10 : w10.heap[w9.heap.size]? = some (.cells #[.slice a9 bs.length c9, .slice u9 0 q9, .int .i64 0] 41 (0, 0)) := by rw [hw10]; exact heap_alloc_new _ _
    have HS10 := Lib.hid (HS9.out.ext hb10)
    have HV10 := Lib.hid (hv9.ext hb10)
    obtain ⟨y0, e0⟩ := blk_cell (i := 0) (R10)
    obtain ⟨y1, e1⟩ := blk_cell (i := 1) (R10)
    obtain ⟨y2, e2⟩ := blk_cell (i := 2) (R10)
    simp at y0 y1 y2
    clear hw10 hb10 HS9 hv9 R10
    have hsm := rsame_any _ _ ⟨bs, [], 0⟩ ⟨bs, [], 0⟩ _ (.agg #[.slice ba bs.length bc, .slice none 0 0, .int .i64 0]) w10 HV10.out ⟨_, _, rfl, HB.out.mono (Same.of_ext HS10.out.bel), SlE.nil _ (fun b => b < w.heap.size) _⟩ (by simp) (by simp)
    rw [(sameB_iff _ _).2 rfl] at hsm
    have HSM := Lib.hid hsm
    clear hsm
    go_wp2_with fail
    refine HSM.out.mono ?_
    rintro e w11 ⟨rfl, hb11⟩
    have HS11 := Lib.hid (HS10.out.ext hb11)
    have hln := HS11.out.lenC
    rw [HL8.out] at hln
    have HLC := Lib.hid hln
    clear hln hb11
    go_wp2_with fail
    refine HLC.out.mono ?_
    rintro e w' ⟨rfl, rfl⟩
    have hl4 : s4.l.length ≤ 1000 := by
      have := HS11.out.ok.len
      have := HS11.out.ok.room
      have := HL8.out
      omega
    have hwr : wrap64 ((s4.l.length : Int) + 1) = (s4.l.length : Int) + 1 := by
      unfold wrap64
      omega
    go_wp2
    go_ret
    exact ⟨rfl, HS11.out.bel⟩
end Go.Proofs.YtohfckkgmijlnaaGreatDoor
