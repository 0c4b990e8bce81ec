/- The walk of objmap.Pack. The walk of objmap.Unpack. The walks of terrazzoref05.Pack. -/
import Derived.Test.YtlekdfajcpmolaaGreatDoorOt19
import Derived.Test.YtlekdfajcpmolaaGreatDoorRdr
import Derived.Test.YtlekdfajcpmolaaGreatDoorGCF
namespace Go.Proofs.YtlekdfajcpmolaaGreatDoor
open Go.RowKit Go.WideShapes

theorem bv_nat (n : Nat) (h : n < 256) : bv (UInt8.ofNat n) = .int .u8 (n : Nat) := by
  unfold bv
  rw [u8_back n h]
theorem ob_blk {base g n : Nat} {w : World} {l : List UInt8} (h : w.heap[g]? = some (.cells (l.map bv).toArray 5 (0, 0))) (hb : base ≤ g) (hn : l.length = n) (hm : n ≤ 1000000) : OB base w (.slice (some ⟨g, 0, none⟩) n n) l :=
  OB.of_blk (t := []) (by rw [List.append_nil]; exact h) hb hn rfl hm
theorem mpL_start (r : List Int) (N : Nat) (hN : N = 2 + (r.length + 3) / 4) (hr : r.length ≤ 512) : ((Array.replicate N (Value.int .u8 0)).setIfInBounds 0 (.int .u8 ((r.length : Int) / 256))).setIfInBounds 1 (.int .u8 ((r.length : Int) % 256)) = ((mpL r 0).map bv).toArray := by
  subst hN
  rw [mpL_zero, List.map_set, List.map_set, List.map_replicate, bv_nat _ (by omega), bv_nat _ (by omega)]
  apply Array.ext'
  simp [bv]
set_option maxRecDepth 100000 in
set_option maxHeartbeats 4000000 in
theorem ppack_any (A : Nat → Prop) (a : Option Addr) (c : Nat) (m : List Int) (w : World) (hv : IntsA A w (.slice a m.length c) m) (hl : m.length ≤ 1000000) : Calls Tryz.prog 111 #[.slice a m.length c] w (NewB w (mPack m)) := by
  have HRow := Lib.hid (prow_any A a c m w hv hl)
  obtain ⟨r1, r2, -⟩ := may_parts (row_may m)
  have HMP : Hid (mPack m = mPackR (mRow m)) := Lib.hid rfl
  generalize mRow m = r at *
  have HR1 := Lib.hid r1
  clear hv r1
  go_enter Tryz.func111, Tryz.ntmps111
  go_wp2_with fail
  refine HRow.out.mono ?_
  rintro e w1 ⟨v1, rfl, h1, hb1⟩
  have HB1 := Lib.hid hb1
  obtain ⟨ra, rc, rfl⟩ := h1.shape
  have H1 := Lib.hid h1
  clear h1 hb1
  obtain ⟨N, hN⟩ : ∃ N : Nat, 2 + ((r.length : Int) + 3) / 4 = (N : Int) := ⟨2 + (r.length + 3) / 4, by omega⟩
  have hmk := make_bytes N (by omega)
  have h0N : 0 < N := by omega
  have h1N : 1 < N := by omega
  have HP0 := Lib.hid (mpL_start r N (by omega) r2)
  have HNr : Hid (N = 2 + (r.length + 3) / 4) := Lib.hid (by omega)
  go_wp2
  obtain ⟨W2, hW2⟩ : ∃ W2, W2 = w1.alloc (.cells (((Array.replicate N (Value.int .u8 0)).setIfInBounds 0 (.int .u8 ((r.length : Int) / 256))).setIfInBounds 1 (.int .u8 ((r.length : Int) % 256))) 5) := ⟨_, rfl⟩
  have hb2 : Below w1.heap.size w1 W2 := by rw [hW2]; exact (Below.refl _ _).alloc (Nat.le_refl _) _
  have ho2 : OB w1.heap.size W2 (.slice (some ⟨w1.heap.size, 0, none⟩) N N) (mpL r 0) := by
    refine ob_blk ?_ (Nat.le_refl _) (by have := HNr.out; rw [mpL_len]; omega) (by omega)
    rw [hW2, HP0.out]
    exact heap_alloc_new _ _
  rw [← hW2]
  clear hW2 HP0 HRow hmk hN
  have HO2 := Lib.hid ho2
  have HB2 := Lib.hid hb2
  clear ho2 hb2
  go_loopw [28] (fun q wr => ∃ k : Nat, k ≤ r.length ∧ q = .int .i64 k ∧ OB w1.heap.size wr (.slice (some ⟨w1.heap.size, 0, none⟩) N N) (mpL r k) ∧ Below w1.heap.size w1 wr) (fun q _ => r.length - (intOf q).toNat)
  case atStart => exact ⟨0, Nat.zero_le _, rfl, HO2.out, HB2.out⟩
  case round =>
    obtain ⟨k, hk, rfl, ho, hb⟩ := hrel
    have HO := Lib.hid ho
    have HB := Lib.hid hb
    have hs := hb.size
    by_cases hlt : k < r.length
    · obtain ⟨g, cc, hv, hgl, hg, hcap, hcell, -⟩ := (H1.out.ext hb).lies (by omega)
      simp only [Value.slice.injEq] at hv
      obtain ⟨rfl, -, rfl⟩ := hv
      have hck := hcell k hlt
      obtain ⟨g2, c2, hv2, -, hg2, hcap2, hcell2, hfr2⟩ := ho.lies (by rw [mpL_len]; omega)
      simp only [Value.slice.injEq, Option.some.injEq, Addr.mk.injEq] at hv2
      obtain ⟨⟨rfl, -, -⟩, -, rfl⟩ := hv2
      have hko := hcell2 (2 + k / 4) (by rw [mpL_len]; omega)
      have hlow := mCell_low HR1.out k
      have hfrk := hfr2 (2 + k / 4)
      rw [List.getElem?_map, mpL_at r k hlt] at hko
      have hx := may_getD HR1.out k
      have HPS := Lib.hid (mpL_set r k)
      obtain ⟨x, hxe⟩ : ∃ x, r.getD k 0 = x := ⟨_, rfl⟩
      rw [hxe] at hck hx HPS
      obtain ⟨old, hold⟩ : ∃ old, mCell (r.take k) (k / 4) = old := ⟨_, rfl⟩
      rw [hold] at hko hlow HPS
      have ho64 : old < 64 := by
        have : 4 ^ (k % 4) ≤ 4 ^ 3 := Nat.pow_le_pow_right (by decide) (by omega)
        omega
      simp only [Option.map_some] at hko
      rw [bv_nat _ (by omega)] at hko
      have hqN : ((2 + k / 4 : Nat) : Int) < N := by have := HNr.out; omega
      have hqN2 : 2 + k / 4 < N := by have := HNr.out; omega
      have hq1 : 2 + (k : Int) / 4 = ((2 + k / 4 : Nat) : Int) := by omega
      have hqw : IntKind.i64.wrap (2 + (k : Int) / 4) = ((2 + k / 4 : Nat) : Int) := by rw [hq1, IntKind.wrap_i64]; omega
      have hkl : (k : Int) < r.length := by omega
      generalize 2 + k / 4 = Q at *
      clear hold hxe hcell hcell2 hfr2 ho hb
      have h4 : k % 4 = 0 ∨ k % 4 = 1 ∨ k % 4 = 2 ∨ k % 4 = 3 := by omega
      have h3 : x = 0 ∨ x = 1 ∨ x = 2 := by omega
      rcases h4 with h4 | h4 | h4 | h4
      all_goals
        rw [h4] at hlow HPS
        rcases h3 with rfl | rfl | rfl
      · have hkm : (k : Int) % 4 = 0 := by omega
        (have hor : bits .or .u8 ((old : Nat) : Int) 0 = ((old + 0 : Nat) : Int) := or_u8 ⟨0, by decide⟩ ⟨0, by decide⟩ ⟨old, by omega⟩ (by simpa using hlow)
         have hset : bv (UInt8.ofNat (old + 0)) = .int .u8 ((old + 0 : Nat) : Int) := bv_nat _ (by omega)
         have HSET := Lib.hid hset
         have HST : Hid ((mpL r k).set Q (UInt8.ofNat (old + 0)) = mpL r (k + 1)) := Lib.hid (by rw [← HPS.out]; rfl)
         clear hset hlow
         go_wp2
         go_roundw
         case rel =>
           refine ⟨k + 1, by omega, by go_num, ?_, ?_⟩
           · rw [← HST.out]
             have := HO.out.set Q (UInt8.ofNat (old + 0))
             rw [HSET.out] at this
             exact this
           · exact HB.out.setCell (Nat.le_refl _ : _ ≤ (⟨w1.heap.size, _, none⟩ : Addr).block) _
         case measure => simp [intOf]; omega)
      · have hkm : (k : Int) % 4 = 0 := by omega
        (have hor : bits .or .u8 ((old : Nat) : Int) 1 = ((old + 1 : Nat) : Int) := or_u8 ⟨0, by decide⟩ ⟨1, by decide⟩ ⟨old, by omega⟩ (by simpa using hlow)
         have hset : bv (UInt8.ofNat (old + 1)) = .int .u8 ((old + 1 : Nat) : Int) := bv_nat _ (by omega)
         have HSET := Lib.hid hset
         have HST : Hid ((mpL r k).set Q (UInt8.ofNat (old + 1)) = mpL r (k + 1)) := Lib.hid (by rw [← HPS.out]; rfl)
         clear hset hlow
         go_wp2
         go_roundw
         case rel =>
           refine ⟨k + 1, by omega, by go_num, ?_, ?_⟩
           · rw [← HST.out]
             have := HO.out.set Q (UInt8.ofNat (old + 1))
             rw [HSET.out] at this
             exact this
           · exact HB.out.setCell (Nat.le_refl _ : _ ≤ (⟨w1.heap.size, _, none⟩ : Addr).block) _
         case measure => simp [intOf]; omega)
      · have hkm : (k : Int) % 4 = 0 := by omega
        (have hor : bits .or .u8 ((old : Nat) : Int) 2 = ((old + 2 : Nat) : Int) := or_u8 ⟨0, by decide⟩ ⟨2, by decide⟩ ⟨old, by omega⟩ (by simpa using hlow)
         have hset : bv (UInt8.ofNat (old + 2)) = .int .u8 ((old + 2 : Nat) : Int) := bv_nat _ (by omega)
         have HSET := Lib.hid hset
         have HST : Hid ((mpL r k).set Q (UInt8.ofNat (old + 2)) = mpL r (k + 1)) := Lib.hid (by rw [← HPS.out]; rfl)
         clear hset hlow
         go_wp2
         go_roundw
         case rel =>
           refine ⟨k + 1, by omega, by go_num, ?_, ?_⟩
           · rw [← HST.out]
             have := HO.out.set Q (UInt8.ofNat (old + 2))
             rw [HSET.out] at this
             exact this
           · exact HB.out.setCell (Nat.le_refl _ : _ ≤ (⟨w1.heap.size, _, none⟩ : Addr).block) _
         case measure => simp [intOf]; omega)
      · have hkm : (k : Int) % 4 = 1 := by omega
        (have hor : bits .or .u8 ((old : Nat) : Int) 0 = ((old + 0 : Nat) : Int) := or_u8 ⟨1, by decide⟩ ⟨0, by decide⟩ ⟨old, by omega⟩ (by simpa using hlow)
         have hset : bv (UInt8.ofNat (old + 0)) = .int .u8 ((old + 0 : Nat) : Int) := bv_nat _ (by omega)
         have HSET := Lib.hid hset
         have HST : Hid ((mpL r k).set Q (UInt8.ofNat (old + 0)) = mpL r (k + 1)) := Lib.hid (by rw [← HPS.out]; rfl)
         clear hset hlow
         go_wp2
         go_roundw
         case rel =>
           refine ⟨k + 1, by omega, by go_num, ?_, ?_⟩
           · rw [← HST.out]
             have := HO.out.set Q (UInt8.ofNat (old + 0))
             rw [HSET.out] at this
             exact this
           · exact HB.out.setCell (Nat.le_refl _ : _ ≤ (⟨w1.heap.size, _, none⟩ : Addr).block) _
         case measure => simp [intOf]; omega)
      · have hkm : (k : Int) % 4 = 1 := by omega
        (have hor : bits .or .u8 ((old : Nat) : Int) 4 = ((old + 4 : Nat) : Int) := or_u8 ⟨1, by decide⟩ ⟨1, by decide⟩ ⟨old, by omega⟩ (by simpa using hlow)
         have hset : bv (UInt8.ofNat (old + 4)) = .int .u8 ((old + 4 : Nat) : Int) := bv_nat _ (by omega)
         have HSET := Lib.hid hset
         have HST : Hid ((mpL r k).set Q (UInt8.ofNat (old + 4)) = mpL r (k + 1)) := Lib.hid (by rw [← HPS.out]; rfl)
         clear hset hlow
         go_wp2
         go_roundw
         case rel =>
           refine ⟨k + 1, by omega, by go_num, ?_, ?_⟩
           · rw [← HST.out]
             have := HO.out.set Q (UInt8.ofNat (old + 4))
             rw [HSET.out] at this
             exact this
           · exact HB.out.setCell (Nat.le_refl _ : _ ≤ (⟨w1.heap.size, _, none⟩ : Addr).block) _
         case measure => simp [intOf]; omega)
      · have hkm : (k : Int) % 4 = 1 := by omega
        (have hor : bits .or .u8 ((old : Nat) : Int) 8 = ((old + 8 : Nat) : Int) := or_u8 ⟨1, by decide⟩ ⟨2, by decide⟩ ⟨old, by omega⟩ (by simpa using hlow)
         have hset : bv (UInt8.ofNat (old + 8)) = .int .u8 ((old + 8 : Nat) : Int) := bv_nat _ (by omega)
         have HSET := Lib.hid hset
         have HST : Hid ((mpL r k).set Q (UInt8.ofNat (old + 8)) = mpL r (k + 1)) := Lib.hid (by rw [← HPS.out]; rfl)
         clear hset hlow
         go_wp2
         go_roundw
         case rel =>
           refine ⟨k + 1, by omega, by go_num, ?_, ?_⟩
           · rw [← HST.out]
             have := HO.out.set Q (UInt8.ofNat (old + 8))
             rw [HSET.out] at this
             exact this
           · exact HB.out.setCell (Nat.le_refl _ : _ ≤ (⟨w1.heap.size, _, none⟩ : Addr).block) _
         case measure => simp [intOf]; omega)
      · have hkm : (k : Int) % 4 = 2 := by omega
        (have hor : bits .or .u8 ((old : Nat) : Int) 0 = ((old + 0 : Nat) : Int) := or_u8 ⟨2, by decide⟩ ⟨0, by decide⟩ ⟨old, by omega⟩ (by simpa using hlow)
         have hset : bv (UInt8.ofNat (old + 0)) = .int .u8 ((old + 0 : Nat) : Int) := bv_nat _ (by omega)
         have HSET := Lib.hid hset
         have HST : Hid ((mpL r k).set Q (UInt8.ofNat (old + 0)) = mpL r (k + 1)) := Lib.hid (by rw [← HPS.out]; rfl)
         clear hset hlow
         go_wp2
         go_roundw
         case rel =>
           refine ⟨k + 1, by omega, by go_num, ?_, ?_⟩
           · rw [← HST.out]
             have := HO.out.set Q (UInt8.ofNat (old + 0))
             rw [HSET.out] at this
             exact this
           · exact HB.out.setCell (Nat.le_refl _ : _ ≤ (⟨w1.heap.size, _, none⟩ : Addr).block) _
         case measure => simp [intOf]; omega)
      · have hkm : (k : Int) % 4 = 2 := by omega
        (have hor : bits .or .u8 ((old : Nat) : Int) 16 = ((old + 16 : Nat) : Int) := or_u8 ⟨2, by decide⟩ ⟨1, by decide⟩ ⟨old, by omega⟩ (by simpa using hlow)
         have hset : bv (UInt8.ofNat (old + 16)) = .int .u8 ((old + 16 : Nat) : Int) := bv_nat _ (by omega)
         have HSET := Lib.hid hset
         have HST : Hid ((mpL r k).set Q (UInt8.ofNat (old + 16)) = mpL r (k + 1)) := Lib.hid (by rw [← HPS.out]; rfl)
         clear hset hlow
         go_wp2
         go_roundw
         case rel =>
           refine ⟨k + 1, by omega, by go_num, ?_, ?_⟩
           · rw [← HST.out]
             have := HO.out.set Q (UInt8.ofNat (old + 16))
             rw [HSET.out] at this
             exact this
           · exact HB.out.setCell (Nat.le_refl _ : _ ≤ (⟨w1.heap.size, _, none⟩ : Addr).block) _
         case measure => simp [intOf]; omega)
      · have hkm : (k : Int) % 4 = 2 := by omega
        (have hor : bits .or .u8 ((old : Nat) : Int) 32 = ((old + 32 : Nat) : Int) := or_u8 ⟨2, by decide⟩ ⟨2, by decide⟩ ⟨old, by omega⟩ (by simpa using hlow)
         have hset : bv (UInt8.ofNat (old + 32)) = .int .u8 ((old + 32 : Nat) : Int) := bv_nat _ (by omega)
         have HSET := Lib.hid hset
         have HST : Hid ((mpL r k).set Q (UInt8.ofNat (old + 32)) = mpL r (k + 1)) := Lib.hid (by rw [← HPS.out]; rfl)
         clear hset hlow
         go_wp2
         go_roundw
         case rel =>
           refine ⟨k + 1, by omega, by go_num, ?_, ?_⟩
           · rw [← HST.out]
             have := HO.out.set Q (UInt8.ofNat (old + 32))
             rw [HSET.out] at this
             exact this
           · exact HB.out.setCell (Nat.le_refl _ : _ ≤ (⟨w1.heap.size, _, none⟩ : Addr).block) _
         case measure => simp [intOf]; omega)
      · have hkm : (k : Int) % 4 = 3 := by omega
        (have hor : bits .or .u8 ((old : Nat) : Int) 0 = ((old + 0 : Nat) : Int) := or_u8 ⟨3, by decide⟩ ⟨0, by decide⟩ ⟨old, by omega⟩ (by simpa using hlow)
         have hset : bv (UInt8.ofNat (old + 0)) = .int .u8 ((old + 0 : Nat) : Int) := bv_nat _ (by omega)
         have HSET := Lib.hid hset
         have HST : Hid ((mpL r k).set Q (UInt8.ofNat (old + 0)) = mpL r (k + 1)) := Lib.hid (by rw [← HPS.out]; rfl)
         clear hset hlow
         go_wp2
         go_roundw
         case rel =>
           refine ⟨k + 1, by omega, by go_num, ?_, ?_⟩
           · rw [← HST.out]
             have := HO.out.set Q (UInt8.ofNat (old + 0))
             rw [HSET.out] at this
             exact this
           · exact HB.out.setCell (Nat.le_refl _ : _ ≤ (⟨w1.heap.size, _, none⟩ : Addr).block) _
         case measure => simp [intOf]; omega)
      · have hkm : (k : Int) % 4 = 3 := by omega
        (have hor : bits .or .u8 ((old : Nat) : Int) 64 = ((old + 64 : Nat) : Int) := or_u8 ⟨3, by decide⟩ ⟨1, by decide⟩ ⟨old, by omega⟩ (by simpa using hlow)
         have hset : bv (UInt8.ofNat (old + 64)) = .int .u8 ((old + 64 : Nat) : Int) := bv_nat _ (by omega)
         have HSET := Lib.hid hset
         have HST : Hid ((mpL r k).set Q (UInt8.ofNat (old + 64)) = mpL r (k + 1)) := Lib.hid (by rw [← HPS.out]; rfl)
         clear hset hlow
         go_wp2
         go_roundw
         case rel =>
           refine ⟨k + 1, by omega, by go_num, ?_, ?_⟩
           · rw [← HST.out]
             have := HO.out.set Q (UInt8.ofNat (old + 64))
             rw [HSET.out] at this
             exact this
           · exact HB.out.setCell (Nat.le_refl _ : _ ≤ (⟨w1.heap.size, _, none⟩ : Addr).block) _
         case measure => simp [intOf]; omega)
      · have hkm : (k : Int) % 4 = 3 := by omega
        (have hor : bits .or .u8 ((old : Nat) : Int) 128 = ((old + 128 : Nat) : Int) := or_u8 ⟨3, by decide⟩ ⟨2, by decide⟩ ⟨old, by omega⟩ (by simpa using hlow)
         have hset : bv (UInt8.ofNat (old + 128)) = .int .u8 ((old + 128 : Nat) : Int) := bv_nat _ (by omega)
         have HSET := Lib.hid hset
         have HST : Hid ((mpL r k).set Q (UInt8.ofNat (old + 128)) = mpL r (k + 1)) := Lib.hid (by rw [← HPS.out]; rfl)
         clear hset hlow
         go_wp2
         go_roundw
         case rel =>
           refine ⟨k + 1, by omega, by go_num, ?_, ?_⟩
           · rw [← HST.out]
             have := HO.out.set Q (UInt8.ofNat (old + 128))
             rw [HSET.out] at this
             exact this
           · exact HB.out.setCell (Nat.le_refl _ : _ ≤ (⟨w1.heap.size, _, none⟩ : Addr).block) _
         case measure => simp [intOf]; omega)
    · obtain rfl : k = r.length := by omega
      have HE : Hid (mpL r r.length = mPack m) := Lib.hid (by rw [mpL_all, HMP.out])
      clear ho hb
      go_wp2
      go_ret
      exact ⟨_, rfl, by rw [← HE.out]; exact HO.out.base_le HB1.out.size, HB1.out.trans (HB.out.mono HB1.out.size)⟩
end Go.Proofs.YtlekdfajcpmolaaGreatDoor
namespace Go.Proofs.YtlekdfajcpmolaaGreatDoor
open Go.RowKit Go.WideShapes

theorem unp2_any (n : Int) (w : World) : Calls Tryz.prog 193 #[.int .i64 n] w fun e w' => e = .returned (.bool (notZ n)) ∧ w = w' := by
  have HW : Hid (notZ n = !(n == 0)) := Lib.hid (by unfold notZ; by_cases h : n = 0 <;> simp [h])
  go_enter Tryz.func193, Tryz.ntmps193
  go_wp2
  go_ret
  exact ⟨by rw [HW.out]; rfl, rfl⟩
set_option maxRecDepth 100000 in
set_option maxHeartbeats 1600000 in
theorem idxN_any (A : Nat → Prop) (a : Option Addr) (c : Nat) (l : List Int) (w : World) (hv : IntsA A w (.slice a l.length c) l) (hl : l.length ≤ 1000000) :
    Calls Tryz.prog 211 #[.slice a l.length c, .func (.func 193) #[] #[]] w fun e w' => (∃ r : Int, e = .returned (.int .i64 r) ∧ l.any (notZ) = decide (0 ≤ r)) ∧ w = w' := by
  have HV := Lib.hid hv
  clear hv
  go_enter Tryz.func211, Tryz.ntmps211
  go_wp2
  go_loop [8] (fun q => ∃ k : Nat, k ≤ l.length ∧ q = .int .i64 k ∧ ∀ j, j < k → (notZ) (l.getD j 0) = false) (fun q => l.length - (intOf q).toNat)
  case atStart => exact ⟨0, Nat.zero_le _, rfl, fun j hj => by omega⟩
  case round =>
    obtain ⟨k, hk, rfl, hall⟩ := hrel
    have HA := Lib.hid hall
    clear hall
    by_cases hlt : k < l.length
    · obtain ⟨b, off, rfl, hbl, -, hc⟩ := Ints.at HV.out hlt
      have HM := fun h => Lib.hid (anI_hit (notZ) hlt h)
      obtain ⟨x, hx⟩ : ∃ x, l.getD k 0 = x := ⟨_, rfl⟩
      have HX := Lib.hid hx
      rw [hx] at hc HM
      clear hx
      cases hp : (notZ) x
      · have HP := Lib.hid hp
        clear HM hp
        go_wp2_with fail
        refine (show Calls Tryz.prog 193 #[.int .i64 x] _ _ from unp2_any x _).mono ?_
        rw [HP.out]
        rintro e w1 ⟨rfl, rfl⟩
        go_wp2
        go_round
        case rel => exact ⟨k + 1, by omega, by go_num, fun j hj => by
          rcases Nat.lt_or_ge j k with g | g
          · exact HA.out j g
          · obtain rfl : j = k := by omega
            rw [HX.out]
            exact HP.out⟩
        case measure => simp [intOf]; omega
      · have HP := Lib.hid hp
        have HM2 := HM hp
        clear HM hp
        go_wp2_with fail
        refine (show Calls Tryz.prog 193 #[.int .i64 x] _ _ from unp2_any x _).mono ?_
        rw [HP.out]
        rintro e w1 ⟨rfl, rfl⟩
        go_wp2
        go_ret
        exact ⟨⟨_, rfl, by rw [HM2.out]; simp⟩, rfl⟩
    · obtain rfl : k = l.length := by omega
      have HM := Lib.hid (anI_miss (notZ) (l := l) HA.out)
      go_wp2
      go_ret
      exact ⟨⟨_, rfl, by rw [HM.out]; rfl⟩, rfl⟩
set_option maxRecDepth 100000 in
theorem contN_any (A : Nat → Prop) (a : Option Addr) (c : Nat) (l : List Int) (w : World) (hv : IntsA A w (.slice a l.length c) l) (hl : l.length ≤ 1000000) :
    Calls Tryz.prog 189 #[.slice a l.length c, .func (.func 193) #[] #[]] w fun e w' => e = .returned (.bool (l.any (notZ))) ∧ w = w' := by
  have HV := Lib.hid hv
  clear hv
  go_enter Tryz.func189, Tryz.ntmps189
  go_wp2_with fail
  refine (idxN_any A a c l _ HV.out hl).mono ?_
  rintro e w1 ⟨⟨r, rfl, hr⟩, rfl⟩
  have HR := Lib.hid hr
  clear hr
  go_wp2
  go_ret
  exact ⟨by rw [HR.out]; rfl, rfl⟩
theorem and3_nat (x : Nat) (hx : x < 256) : bits .and .i64 (x : Int) 3 = ((x % 4 : Nat) : Int) := by
  have := i64_and_nat x 3 (by omega) (by omega)
  rw [show ((3 : Nat) : Int) = 3 from rfl] at this
  rw [this, show (3 : Nat) = 2 ^ 2 - 1 from rfl, Nat.and_two_pow_sub_one_eq_mod]
theorem and3_div (x d : Nat) (hx : x < 256) : bits .and .i64 ((x : Int) / (d : Nat)) 3 = ((x / d % 4 : Nat) : Int) := by
  have := and3_nat (x / d) (Nat.lt_of_le_of_lt (Nat.div_le_self _ _) hx)
  rw [← this]
  rfl
set_option maxRecDepth 100000 in
theorem unp1_any (A : Nat → Prop) (a : Option Addr) (c : Nat) (b : List UInt8) (i : Nat) (pp : Addr) (w : World) (hp : w.cell? pp = some (.slice a b.length c)) (hv : RB A w (.slice a b.length c) b) (hi : 2 + i / 4 < b.length) (hi6 : i ≤ 1000000) :
    Calls Tryz.prog 192 #[.int .i64 (i : Nat), .pointer (some pp)] w fun e w' => e = .returned (.int .i64 ((dig4 (b.getD (2 + i / 4) 0).toNat (i % 4) : Nat) : Int)) ∧ w = w' := by
  obtain ⟨g, off, rfl, hg, -, hcap, hc⟩ := RB.lie hv (by omega)
  have hck := hc (2 + i / 4) hi
  rw [List.getElem?_map, List.getElem?_eq_getElem hi, Option.map_some] at hck
  have hb : b.getD (2 + i / 4) 0 = b[2 + i / 4] := by rw [List.getD_eq_getElem?_getD, List.getElem?_eq_getElem hi]; rfl
  rw [hb]
  have hx : b[2 + i / 4].toNat < 256 := b[2 + i / 4].toNat_lt
  have hq1 : 2 + (i : Int) / 4 = ((2 + i / 4 : Nat) : Int) := by omega
  have hqw : IntKind.i64.wrap (2 + (i : Int) / 4) = ((2 + i / 4 : Nat) : Int) := by rw [hq1, IntKind.wrap_i64]; omega
  have hqi : ((2 + i / 4 : Nat) : Int) < b.length := by omega
  generalize b[2 + i / 4] = y at *
  generalize 2 + i / 4 = Q at *
  unfold bv at hck
  generalize y.toNat = x at *
  have HX := Lib.hid hx
  have h4 : i % 4 = 0 ∨ i % 4 = 1 ∨ i % 4 = 2 ∨ i % 4 = 3 := by omega
  have a0 : bits .and .i64 (x : Int) 3 = ((dig4 x 0 : Nat) : Int) := by rw [and3_nat x hx]; simp [dig4]
  have a1 : bits .and .i64 ((x : Int) / 4) 3 = ((dig4 x 1 : Nat) : Int) := and3_div x 4 hx
  have a2 : bits .and .i64 ((x : Int) / 16) 3 = ((dig4 x 2 : Nat) : Int) := and3_div x 16 hx
  have a3 : bits .and .i64 ((x : Int) / 64) 3 = ((dig4 x 3 : Nat) : Int) := and3_div x 64 hx
  have i0 : (x : Int) < 256 := by omega
  have i1 : (x : Int) / 4 < 256 := by omega
  have i2 : (x : Int) / 16 < 256 := by omega
  have i3 : (x : Int) / 64 < 256 := by omega
  have j1 : 0 ≤ (x : Int) / 4 := by omega
  have j2 : 0 ≤ (x : Int) / 16 := by omega
  have j3 : 0 ≤ (x : Int) / 64 := by omega
  clear hc hb hv hx
  rcases h4 with h4 | h4 | h4 | h4
  · have hm : (i : Int) % 4 = 0 := by omega
    rw [h4]
    clear h4
    go_enter Tryz.func192, Tryz.ntmps192
    go_wp2
    go_ret
    exact ⟨rfl, rfl⟩
  · have hm : (i : Int) % 4 = 1 := by omega
    rw [h4]
    clear h4
    go_enter Tryz.func192, Tryz.ntmps192
    go_wp2
    go_ret
    exact ⟨rfl, rfl⟩
  · have hm : (i : Int) % 4 = 2 := by omega
    rw [h4]
    clear h4
    go_enter Tryz.func192, Tryz.ntmps192
    go_wp2
    go_ret
    exact ⟨rfl, rfl⟩
  · have hm : (i : Int) % 4 = 3 := by omega
    rw [h4]
    clear h4
    go_enter Tryz.func192, Tryz.ntmps192
    go_wp2
    go_ret
    exact ⟨rfl, rfl⟩
set_option maxRecDepth 100000 in
set_option maxHeartbeats 1600000 in
theorem eachU_any (n : Nat) (hn : n ≤ 10000) (g : Nat → Int) (p0 : Addr) (w : World) (hf : ∀ (W : World) (i : Nat), i < n → Below w.heap.size w W → Calls Tryz.prog 192 #[.int .i64 (i : Nat), .pointer (some p0)] W fun e w' => e = .returned (.int .i64 (g i)) ∧ W = w') :
    Calls Tryz.prog 161 #[.int .i64 n, .func (.func 192) #[] #[.pointer (some p0)]] w (EachO w ((List.range n).map g)) := by
  have hmk := make_ints n (by omega)
  have HF := Lib.hid hf
  clear hf
  go_enter Tryz.func161, Tryz.ntmps161
  go_wp2_with go_in
  go_loopw [10] (fun q wr => ∃ k : Nat, k ≤ n ∧ q = .int .i64 k ∧ wr.heap[w.heap.size]? = some (.cells (eachL g n k).toArray 3 (0, 0)) ∧ Below w.heap.size w wr) (fun q _ => n - (intOf q).toNat)
  case atStart => exact ⟨0, Nat.zero_le _, rfl, by rw [eachL_zero]; exact heap_alloc_new w _, (Below.refl _ w).alloc (Nat.le_refl _) _⟩
  case round =>
    obtain ⟨k, hk, rfl, hg, hb⟩ := hrel
    have HG := Lib.hid hg
    have HB := Lib.hid hb
    by_cases hlt : k < n
    · obtain ⟨u, hu⟩ : ∃ u, (eachL g n k)[k]? = some u := ⟨_, List.getElem?_eq_getElem (by rw [eachL_len g hk]; exact hlt)⟩
      have hc : wr.cell? ⟨w.heap.size, k, none⟩ = some u := (blk_cell hg).1.trans (by simpa using hu)
      have hfz := (blk_cell (i := k) hg).2
      have HS := Lib.hid (eachL_set g hlt)
      clear hu hg hb
      go_wp2_with fail
      refine (HF.out _ k hlt HB.out).mono ?_
      rintro e w2 ⟨rfl, rfl⟩
      go_wp2
      go_roundw
      case rel => exact ⟨k + 1, by omega, by go_num, by rw [← HS.out]; simpa using setI_blk (j := k) (v := .int .i64 (g k)) HG.out, HB.out.setCell (Nat.le_refl _ : _ ≤ (⟨w.heap.size, k, none⟩ : Addr).block) _⟩
      case measure => simp [intOf]; omega
    · obtain rfl : k = n := by omega
      clear hg hb
      go_wp2
      go_ret
      refine ⟨by simp, ?_, HB.out⟩
      rw [← eachL_all]
      exact HG.out
theorem mVals_take (b : List UInt8) (N n : Nat) (h : n ≤ N) : (mVals b N).take n = mVals b n := by
  unfold mVals
  rw [← List.map_take, List.take_range]
  congr 2
  omega
theorem ints_cells {A : Nat → Prop} {w : World} {g off c : Nat} {l : List Int} (hc : ∀ j, j < l.length → w.cell? ⟨g, off + j, none⟩ = some (.int .i64 (l.getD j 0))) (hg : g < w.heap.size) (hA : A g) (hcap : l.length ≤ c) : IntsA A w (.slice (some ⟨g, off, none⟩) l.length c) l := by
  refine SlE.of_flat (cs := l.map fun x => [Value.int .i64 x]) (by simp) (fun i x c hi hc => ?_) ?_
  · rw [List.getElem?_map, hi] at hc
    cases hc
    rfl
  · have e : (l.map fun x => [Value.int .i64 x]).flatten = l.map (Value.int .i64) := by
      clear hc hcap
      induction l with
      | nil => rfl
      | cons x l ih => simp only [List.map_cons, List.flatten_cons, ih]; rfl
    rw [e]
    refine ⟨by simp [Enc.int], .inr ⟨g, off, c, rfl, hg, hA, hcap, fun j hj => ?_⟩⟩
    have hj : j < l.length := by simpa [Enc.int] using hj
    rw [hc j hj, List.getElem?_map, List.getElem?_eq_getElem hj, List.getD_eq_getElem?_getD, List.getElem?_eq_getElem hj]
    rfl
def UnO (w : World) (x : Option (List Int)) (e : Ending) (w' : World) : Prop := ∃ v : Value, e = .returned (.tuple #[v, .bool x.isSome]) ∧ NI w.heap.size w' v (x.getD []) ∧ Below w.heap.size w w'
theorem UnO.none {w w' : World} (h : Below w.heap.size w w') : UnO w none (.returned (.tuple #[.slice none 0 0, .bool false])) w' := ⟨_, rfl, NI.nil _ _, h⟩
set_option maxRecDepth 100000 in
set_option maxHeartbeats 4000000 in
theorem punpack_any (A : Nat → Prop) (a : Option Addr) (c : Nat) (b : List UInt8) (w : World) (hv : RB A w (.slice a b.length c) b) (hl : b.length ≤ 1000000) : Calls Tryz.prog 173 #[.slice a b.length c] w (UnO w (mUn b)) := by
  obtain ⟨W1, hW1⟩ : ∃ W1, W1 = w.alloc (.cells #[.slice a b.length c] 28) := ⟨_, rfl⟩
  have hb1 : Below w.heap.size w W1 := by rw [hW1]; exact (Below.refl _ w).alloc (Nat.le_refl _) _
  have hc1 : W1.cell? ⟨w.heap.size, 0, none⟩ = some (.slice a b.length c) := by rw [hW1]; simp
  have hs1 : W1.heap.size = w.heap.size + 1 := by rw [hW1]; simp
  have hv1 := RB.ext hv hb1
  have HW1 := Lib.hid hW1
  have HB1 := Lib.hid hb1
  have HS1 := Lib.hid hs1
  have HV1 := Lib.hid hv1
  by_cases h2 : b.length < 2
  · have HX : Hid (mUn b = none) := Lib.hid (by unfold mUn; rw [if_pos (by omega)])
    have h2i : (b.length : Int) < 2 := by omega
    clear hv hv1 hW1 hb1 hs1 h2
    go_enter Tryz.func173, Tryz.ntmps173
    go_wp2
    go_ret2
    rw [HX.out]
    exact UnO.none (by ((repeat' (first | exact Below.refl _ _ | refine below_drewN ?_ _ | refine Below.drew ?_ | refine Below.alloc ?_ ?_ _ | refine Below.trans ?_ (Below.mono (by assumption) ?_))); all_goals (first | exact Nat.le_refl _ | exact Below.size (by assumption) | omega | (simp; done) | (simp; omega))))
  · obtain ⟨g, off, rfl, hg, -, hcap, hc⟩ := RB.lie hv1 (by omega)
    have k0 := hc 0 (by omega)
    have k1 := hc 1 (by omega)
    obtain ⟨y0, hy0⟩ : ∃ y, b[0]? = some y := ⟨_, List.getElem?_eq_getElem (by omega)⟩
    obtain ⟨y1, hy1⟩ : ∃ y, b[1]? = some y := ⟨_, List.getElem?_eq_getElem (by omega)⟩
    rw [List.getElem?_map, hy0, Option.map_some] at k0
    rw [List.getElem?_map, hy1, Option.map_some] at k1
    unfold bv at k0 k1
    have hn : mNum b = 256 * y0.toNat + y1.toNat := by
      unfold mNum
      rw [List.getD_eq_getElem?_getD, List.getD_eq_getElem?_getD, hy0, hy1]
      rfl
    have e01 := or_byte y0.toNat y1.toNat y1.toNat_lt (by have := y0.toNat_lt; omega)
    have hx0 : y0.toNat < 256 := y0.toNat_lt
    have hx1 : y1.toNat < 256 := y1.toNat_lt
    generalize y0.toNat = x0 at *
    generalize y1.toNat = x1 at *
    obtain ⟨n, hnn⟩ : ∃ n, x0 * 256 + x1 = n := ⟨_, rfl⟩
    have hnb : mNum b = n := by omega
    have hn5 : n < 65536 := by omega
    rw [hnn] at e01
    clear hn hnn hy0 hy1 hc y0 y1
    have h2' : (2 : Int) ≤ b.length := by omega
    have hx0' : (0 : Int) ≤ x0 := by omega
    have hx0'' : (x0 : Int) < 256 := by omega
    rw [Nat.add_zero] at k0
    clear hv hv1 hW1 hb1 hs1 h2
    by_cases h5 : 512 < n ∨ b.length ≠ 2 + (n + 3) / 4
    · have HX : Hid (mUn b = none) := Lib.hid (by unfold mUn; rw [hnb, if_pos (by omega)])
      have h5' : (512 : Int) < n ∨ ((n : Int) ≤ 512 ∧ ((b.length : Int) == 2 + ((n : Int) + 3) / 4) = false ∧ ((b.length : Int) != 2 + ((n : Int) + 3) / 4) = true) := by
        by_cases h : 512 < n
        · exact .inl (by omega)
        · exact .inr ⟨by omega, beq_eq_false_iff_ne.2 (by omega), bne_iff_ne.2 (by omega)⟩
      clear h5 hnb
      rcases h5' with h5 | ⟨h5, h6, h7⟩
      all_goals
        go_enter Tryz.func173, Tryz.ntmps173
        go_wp2
        rw [← HW1.out]
        go_quiet (fail)
        go_wp2
        go_ret2
        rw [HX.out]
        exact UnO.none (below_drewN HB1.out _)
    · have hn5' : n ≤ 512 := by omega
      have hbl : b.length = 2 + (n + 3) / 4 := by omega
      have h5i : (n : Int) ≤ 512 := by omega
      have h6 : ((b.length : Int) == 2 + ((n : Int) + 3) / 4) = true := beq_iff_eq.2 (by omega)
      have h7 : ((b.length : Int) != 2 + ((n : Int) + 3) / 4) = false := by rw [bne, h6]; rfl
      obtain ⟨N, hN⟩ : ∃ N, (n + 3) / 4 * 4 = N := ⟨_, rfl⟩
      have hNi : ((n : Int) + 3) / 4 * 4 = (N : Int) := by omega
      have hN5 : N ≤ 512 := by omega
      have hnN : n ≤ N := by omega
      have HM : Hid (mUn b = if ((mVals b N).drop n).any notZ || !mMay (mVals b n) then none else some (mVals b n)) := Lib.hid (by
        unfold mUn
        rw [hnb, if_neg (by omega), hN]
        rfl)
      have HE : Hid (∀ nq, Calls Tryz.prog 161 #[.int .i64 N, .func (.func 192) #[] #[.pointer (some ⟨w.heap.size, 0, none⟩)]] (W1.drewN nq) (EachO (W1.drewN nq) (mVals b N))) := Lib.hid fun nq =>
        eachU_any N (by omega) (fun i => ((dig4 (b.getD (2 + i / 4) 0).toNat (i % 4) : Nat) : Int)) ⟨w.heap.size, 0, none⟩ (W1.drewN nq) (fun W i hi hW => unp1_any A _ c b i _ W (cellExt hW hc1) (RB.ext (RB.ext HV1.out (below_drewN (Below.refl _ _) nq)) hW) (by omega) (by omega))
      have hlen : (mVals b N).length = N := mVals_len b N
      have HT := Lib.hid (mVals_take b N n hnN)
      have hln := mVals_len b n
      have HLN := Lib.hid hlen
      have HLn := Lib.hid hln
      clear hbl hN hnb hlen hln
      generalize mVals b N = L at *
      generalize mVals b n = l at *
      go_enter Tryz.func173, Tryz.ntmps173
      go_wp2
      rw [← HW1.out]
      go_quiet (fail)
      go_wp2_with fail
      refine (HE.out _).mono ?_
      rintro e w2 ⟨rfl, hg2, hb2⟩
      have hgs : (W1.drewN nq).heap.size = W1.heap.size := rfl
      rw [hgs] at hg2 hb2 ⊢
      have HB2 : Hid (Below w.heap.size w w2) := Lib.hid (HB1.out.trans ((below_drewN (Below.refl W1.heap.size W1) nq).trans hb2 |>.mono HB1.out.size))
      have hgl : w.heap.size ≤ W1.heap.size := HB1.out.size
      have hg2s : W1.heap.size < w2.heap.size := (Array.getElem?_eq_some_iff.1 hg2).1
      have hcl := cell_blkI hg2
      have HNI := Lib.hid (ni_blk hg2 (base := w.heap.size) hgl)
      have HD1 : Hid (IntsA (fun _ => True) w2 (.slice (some ⟨W1.heap.size, n, none⟩) (N - n) (N - n)) (L.drop n)) := Lib.hid (by
        have := ints_cells (A := fun _ => True) (w := w2) (g := W1.heap.size) (off := n) (c := N - n) (l := L.drop n) (fun j hj => by
          rw [List.length_drop] at hj
          rw [hcl (n + j) (by omega), List.getD_eq_getElem?_getD, List.getD_eq_getElem?_getD, List.getElem?_drop]) hg2s trivial (by rw [List.length_drop, HLN.out]; exact Nat.le_refl _)
        rwa [List.length_drop, HLN.out] at this)
      have HD0 : Hid (n = N → IntsA (fun _ => True) w2 (.slice (some ⟨W1.heap.size, 0, none⟩) 0 0) (L.drop n)) := Lib.hid fun h => by
        have e : L.drop n = [] := by rw [List.drop_eq_nil_iff, HLN.out]; omega
        rw [e]
        exact ⟨[], rfl, fun i x c hx => by simp at hx, by simp, .inl ⟨⟨_, rfl⟩, rfl⟩⟩
      have HC : Hid (IntsA (fun _ => True) w2 (.slice (some ⟨W1.heap.size, 0, none⟩) n N) l) := Lib.hid (by
        have := ints_cells (A := fun _ => True) (w := w2) (g := W1.heap.size) (off := 0) (c := N) (l := l) (fun j hj => by
          rw [HLn.out] at hj
          rw [Nat.zero_add, hcl j (by rw [HLN.out]; omega), ← HT.out, List.getD_eq_getElem?_getD, List.getD_eq_getElem?_getD, List.getElem?_take, if_pos (by omega)]) hg2s trivial (by rw [HLn.out]; omega)
        rwa [HLn.out] at this)
      have HTK : Hid (NI w.heap.size w2 (.slice (some ⟨W1.heap.size, 0, none⟩) n n) l) := Lib.hid (by
        rw [← HT.out]
        have := HNI.out.take n (by rw [HLN.out]; omega)
        exact this)
      clear hg2 hb2 hcl HNI hg2s hgs HE HV1
      rw [HLN.out]
      generalize W1.heap.size = g0 at *
      have hni : (n : Int) ≤ N := by omega
      have HCF : Hid (∀ K a c, K = N - n → IntsA (fun _ => True) w2 (.slice a K c) (L.drop n) → Calls Tryz.prog 189 #[.slice a K c, .func (.func 193) #[] #[]] w2 fun e w' => e = .returned (.bool ((L.drop n).any notZ)) ∧ w2 = w') := Lib.hid fun K a c hK h => by
        have hl : (L.drop n).length = K := by rw [List.length_drop, HLN.out, hK]
        rw [← hl] at h ⊢
        exact contN_any _ a c _ w2 h (by omega)
      have HCC := Lib.hid (HLn.out ▸ pcheck_any (fun _ => True) (some ⟨g0, 0, none⟩) N l w2 (HLn.out.symm ▸ HC.out) (by rw [HLn.out]; omega))
      have HHD : Hid (∃ K a c, K = N - n ∧ IntsA (fun _ => True) w2 (.slice a K c) (L.drop n) ∧ ((¬ N = n ∧ a = some ⟨g0, n, none⟩ ∧ c = N - n ∧ K = N - n) ∨ (n = N ∧ a = some ⟨g0, 0, none⟩ ∧ c = 0 ∧ K = 0))) := Lib.hid (by
        by_cases h : n = N
        · exact ⟨0, _, _, by omega, HD0.out h, .inr ⟨h, rfl, rfl, rfl⟩⟩
        · exact ⟨_, _, _, rfl, HD1.out, .inl ⟨fun e => h e.symm, rfl, rfl, rfl⟩⟩)
      clear HD0 HD1 HB1 HT HC hc1
      obtain ⟨K, sa, sc, hK, hsd, hway⟩ := HHD.out
      have HD := Lib.hid hsd

      clear hsd HHD hK
      cases hany : (L.drop n).any notZ
      · have HANY := Lib.hid hany
        cases hmay : mMay l
        · have HMAY := Lib.hid hmay
          have HX : Hid (mUn b = none) := Lib.hid (by rw [HM.out, hany, hmay]; rfl)
          clear hany hmay HM
          rcases hway with ⟨hci, rfl, rfl, rfl⟩ | ⟨rfl, rfl, rfl, rfl⟩
          all_goals
            go_wp2_with fail
            refine (HCF.out _ _ _ (by omega) HD.out).mono ?_
            rw [HANY.out]
            rintro e w3 ⟨rfl, rfl⟩
            go_wp2_with fail
            refine HCC.out.mono ?_
            rw [HMAY.out]
            rintro e w3 ⟨rfl, rfl⟩
            go_wp2
            go_ret2
            rw [HX.out]
            exact UnO.none HB2.out
        · have HMAY := Lib.hid hmay
          have HX : Hid (mUn b = some l) := Lib.hid (by rw [HM.out, hany, hmay]; rfl)
          clear hany hmay HM
          rcases hway with ⟨hci, rfl, rfl, rfl⟩ | ⟨rfl, rfl, rfl, rfl⟩
          all_goals
            go_wp2_with fail
            refine (HCF.out _ _ _ (by omega) HD.out).mono ?_
            rw [HANY.out]
            rintro e w3 ⟨rfl, rfl⟩
            go_wp2_with fail
            refine HCC.out.mono ?_
            rw [HMAY.out]
            rintro e w3 ⟨rfl, rfl⟩
            go_wp2
            go_ret2
            rw [HX.out]
            exact ⟨_, rfl, HTK.out, HB2.out⟩
      · have HANY := Lib.hid hany
        have HX : Hid (mUn b = none) := Lib.hid (by rw [HM.out, hany]; rfl)
        clear hany HM
        rcases hway with ⟨hci, rfl, rfl, rfl⟩ | ⟨rfl, rfl, rfl, rfl⟩
        all_goals
          go_wp2_with fail
          refine (HCF.out _ _ _ (by omega) HD.out).mono ?_
          rw [HANY.out]
          rintro e w3 ⟨rfl, rfl⟩
          go_wp2
          go_ret2
          rw [HX.out]
          exact UnO.none HB2.out
end Go.Proofs.YtlekdfajcpmolaaGreatDoor
namespace Go.Proofs.YtlekdfajcpmolaaGreatDoor
open Go.RowKit Go.WideShapes

/-- the reference's bytes, behind q cells -/
def packR (r : List Int) (q : Nat) : List UInt8 := UInt8.ofNat (r.length / 256) :: UInt8.ofNat (r.length % 256) :: (List.range q).map fun q => UInt8.ofNat (mCell r q)
theorem packR_all (r : List Int) : packR r ((r.length + 3) / 4) = mPackR r := rfl
theorem packR_succ (r : List Int) (q : Nat) : packR r (q + 1) = packR r q ++ [UInt8.ofNat (mCell r q)] := by simp [packR, List.range_succ]
theorem mCell_get {r : List Int} (h : mMay r = true) (q : Nat) : ((mCell r q : Nat) : Int) = mGet r ((4 * q : Nat) : Int) + 4 * mGet r ((4 * q + 1 : Nat) : Int) + 16 * mGet r ((4 * q + 2 : Nat) : Int) + 64 * mGet r ((4 * q + 3 : Nat) : Int) := by
  have g := may_getD (may_parts h).1
  have g0 := g (4 * q)
  have g1 := g (4 * q + 1)
  have g2 := g (4 * q + 2)
  have g3 := g (4 * q + 3)
  rw [mGet_may h, mGet_may h, mGet_may h, mGet_may h]
  unfold mCell
  omega
theorem bv_int (n : Nat) (h : n < 256) (z : Int) (e : ((n : Nat) : Int) = z) : [Value.int .u8 z] = [bv (UInt8.ofNat n)] := by rw [bv_nat n h, e]
set_option maxRecDepth 100000 in
set_option maxHeartbeats 4000000 in
theorem rpack_any (A : Nat → Prop) (a : Option Addr) (c : Nat) (m : List Int) (w : World) (hv : IntsA A w (.slice a m.length c) m) (hl : m.length ≤ 1000000) : Calls Tryz.prog 67 #[.slice a m.length c] w (NewB w (mPack m)) := by
  have HRow := Lib.hid (rrow_any A a c m w hv hl)
  have hmay := row_may m
  obtain ⟨r1, r2, -⟩ := may_parts hmay
  have HMP : Hid (mPack m = mPackR (mRow m)) := Lib.hid rfl
  generalize mRow m = r at *
  have HMay := Lib.hid hmay
  have HC := Lib.hid (cell_lt r1)
  clear hv hmay r1
  go_enter Tryz.func67, Tryz.ntmps67
  go_wp2_with fail
  refine HRow.out.mono ?_
  rintro e w1 ⟨v1, rfl, h1, hb1⟩
  have HB1 := Lib.hid hb1
  obtain ⟨ra, rc, rfl⟩ := h1.ni.shape
  have H1 := Lib.hid h1.ni.sle
  clear h1 hb1
  go_wp2
  obtain ⟨W2, hW2⟩ : ∃ W2, W2 = w1.alloc (.cells #[.int .u8 ((r.length : Int) / 256), .int .u8 ((r.length : Int) % 256)] 5) := ⟨_, rfl⟩
  have hb2 : Below w1.heap.size w1 W2 := by rw [hW2]; exact (Below.refl _ _).alloc (Nat.le_refl _) _
  have ho2 : OB w1.heap.size W2 (.slice (some ⟨w1.heap.size, 0, none⟩) 2 2) (packR r 0) := by
    refine ob_blk ?_ (Nat.le_refl _) rfl (by omega)
    rw [hW2, heap_alloc_new]
    simp only [packR, List.range_zero, List.map_nil, List.map_cons]
    rw [bv_nat _ (by omega), bv_nat _ (by omega)]
    rfl
  rw [← hW2]
  clear hW2 HRow
  have HO2 := Lib.hid ho2
  have HB2 := Lib.hid hb2
  clear ho2 hb2
  go_loopw [4, 5] (fun out i wr => ∃ q : Nat, q ≤ (r.length + 3) / 4 ∧ i = .int .i64 (4 * (q : Int)) ∧ OB w1.heap.size wr out (packR r q) ∧ Below w1.heap.size w1 wr) (fun _ i _ => (r.length + 4 - (intOf i).toNat))
  case atStart => exact ⟨0, Nat.zero_le _, rfl, HO2.out, HB2.out⟩
  case round =>
    obtain ⟨q, hq, rfl, ho, hb⟩ := hrel
    have HO := Lib.hid ho
    have HB := Lib.hid hb
    have hs := hb.size
    by_cases hlt : 4 * q < r.length
    · have hlti : 4 * (q : Int) < r.length := by omega
      have HG := Lib.hid (mCell_get HMay.out q)
      have HN := Lib.hid (HC.out q)
      have HS := Lib.hid (packR_succ r q)
      have H1r := Lib.hid (SlE.ext H1.out hb)
      have b0 := mGet_ways r ((4 * q : Nat) : Int)
      have b1 := mGet_ways r ((4 * q + 1 : Nat) : Int)
      have b2 := mGet_ways r ((4 * q + 2 : Nat) : Int)
      have b3 := mGet_ways r ((4 * q + 3 : Nat) : Int)
      obtain ⟨x0, e0⟩ : ∃ x, mGet r ((4 * q : Nat) : Int) = x := ⟨_, rfl⟩
      obtain ⟨x1, e1⟩ : ∃ x, mGet r ((4 * q + 1 : Nat) : Int) = x := ⟨_, rfl⟩
      obtain ⟨x2, e2⟩ : ∃ x, mGet r ((4 * q + 2 : Nat) : Int) = x := ⟨_, rfl⟩
      obtain ⟨x3, e3⟩ : ∃ x, mGet r ((4 * q + 3 : Nat) : Int) = x := ⟨_, rfl⟩
      rw [e0] at b0
      rw [e1] at b1
      rw [e2] at b2
      rw [e3] at b3
      rw [e0, e1, e2, e3] at HG
      have c0 : Hid (∀ W, Below wr.heap.size wr W → Calls Tryz.prog 119 #[.slice ra r.length rc, .int .i64 (4 * (q : Int))] W fun e w' => e = .returned (.int .i64 x0) ∧ W = w') := Lib.hid fun W h => by
        have := rmget_any _ ra rc r ((4 * q : Nat) : Int) W (SlE.ext H1r.out h)
        rw [e0, show ((4 * q : Nat) : Int) = 4 * (q : Int) by omega] at this
        exact this
      have c1 : Hid (∀ W, Below wr.heap.size wr W → Calls Tryz.prog 119 #[.slice ra r.length rc, .int .i64 (4 * (q : Int) + 1)] W fun e w' => e = .returned (.int .i64 x1) ∧ W = w') := Lib.hid fun W h => by
        have := rmget_any _ ra rc r ((4 * q + 1 : Nat) : Int) W (SlE.ext H1r.out h)
        rw [e1, show ((4 * q + 1 : Nat) : Int) = 4 * (q : Int) + 1 by omega] at this
        exact this
      have c2 : Hid (∀ W, Below wr.heap.size wr W → Calls Tryz.prog 119 #[.slice ra r.length rc, .int .i64 (4 * (q : Int) + 2)] W fun e w' => e = .returned (.int .i64 x2) ∧ W = w') := Lib.hid fun W h => by
        have := rmget_any _ ra rc r ((4 * q + 2 : Nat) : Int) W (SlE.ext H1r.out h)
        rw [e2, show ((4 * q + 2 : Nat) : Int) = 4 * (q : Int) + 2 by omega] at this
        exact this
      have c3 : Hid (∀ W, Below wr.heap.size wr W → Calls Tryz.prog 119 #[.slice ra r.length rc, .int .i64 (4 * (q : Int) + 3)] W fun e w' => e = .returned (.int .i64 x3) ∧ W = w') := Lib.hid fun W h => by
        have := rmget_any _ ra rc r ((4 * q + 3 : Nat) : Int) W (SlE.ext H1r.out h)
        rw [e3, show ((4 * q + 3 : Nat) : Int) = 4 * (q : Int) + 3 by omega] at this
        exact this
      obtain ⟨b00, b01⟩ := b0
      obtain ⟨b10, b11⟩ := b1
      obtain ⟨b20, b21⟩ := b2
      obtain ⟨b30, b31⟩ := b3
      have hln : (packR r q).length ≤ 1000 := by simp [packR]; omega
      have HLN := Lib.hid hln
      clear e0 e1 e2 e3 ho hb hln
      go_wp2_with fail
      refine (c0.out _ (Below.refl _ _)).mono ?_
      rintro e w2 ⟨rfl, rfl⟩
      go_wp2_with fail
      refine (c1.out _ (Below.refl _ _)).mono ?_
      rintro e w2 ⟨rfl, rfl⟩
      go_wp2_with fail
      refine (c2.out _ (Below.refl _ _)).mono ?_
      rintro e w2 ⟨rfl, rfl⟩
      go_wp2_with fail
      refine (c3.out _ (Below.refl _ _)).mono ?_
      rintro e w2 ⟨rfl, rfl⟩
      go_wp2_with (first | (at_builtin; refine wpList_pushB _ rfl _ _ rfl w1.heap.size _ (packR r q) (by rfl) HO.out _ _ (UInt8.ofNat (mCell r q)) (bv_int _ HN.out _ HG.out) (by rfl) (by have := HLN.out; omega) hs ?_; intro v2 w2 ho2 hb2) | go_in)
      have HO2 := Lib.hid ho2
      have HB2 := Lib.hid hb2
      clear ho2 hb2
      go_wp2
      go_roundw
      case rel => exact ⟨q + 1, by omega, by go_num, by rw [HS.out]; exact HO2.out, HB.out.trans HB2.out⟩
      case measure => simp [intOf]; omega
    · have hge : (r.length : Int) ≤ 4 * (q : Int) := by omega
      obtain rfl : q = (r.length + 3) / 4 := by omega
      have HE : Hid (packR r ((r.length + 3) / 4) = mPack m) := Lib.hid (by rw [packR_all, HMP.out])
      clear hlt ho hb
      go_wp2
      go_ret
      exact ⟨_, rfl, by rw [← HE.out]; exact HO.out.base_le HB1.out.size, HB1.out.trans (HB.out.mono HB1.out.size)⟩
end Go.Proofs.YtlekdfajcpmolaaGreatDoor
