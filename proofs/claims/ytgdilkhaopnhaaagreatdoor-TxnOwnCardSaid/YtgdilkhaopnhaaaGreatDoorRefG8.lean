/- The walks of terrazzoref08.data: noughts, a cut; of terrazzoref08.Read. -/
import Derived.Test.YtgdilkhaopnhaaaGreatDoorRefF8
import Derived.Test.YtgdilkhaopnhaaaGreatDoorMF
import Derived.Test.YtgdilkhaopnhaaaGreatDoorMG
namespace Go.Proofs.YtgdilkhaopnhaaaGreatDoor
open Go.RowKit Go.WideShapes

theorem zero_fin (d : List UInt8) (f m t : Nat) (ht : t = min (f + m) d.length - f) : d.take f ++ List.replicate t 0 ++ d.drop (f + t) = zeroD d f m := by
  subst ht
  unfold zeroD
  congr 1
  rcases Nat.lt_or_ge (f + m) d.length with h | h
  · rw [Nat.min_eq_left (by omega), show f + (f + m - f) = f + m by omega]
  · rw [Nat.min_eq_right h, List.drop_of_length_le (by omega), List.drop_of_length_le (by omega)]
theorem zero_set (d : List UInt8) (f t : Nat) (h : f + t < d.length) : (d.take f ++ List.replicate t 0 ++ d.drop (f + t)).set (f + t) 0 = d.take f ++ List.replicate (t + 1) 0 ++ d.drop (f + (t + 1)) := by
  have h1 : (d.take f ++ List.replicate t (0 : UInt8)).length = f + t := by simp; omega
  rw [List.set_append_right _ _ (by omega), h1, Nat.sub_self, List.drop_eq_getElem_cons h, List.set_cons_zero, List.replicate_succ', Nat.add_assoc]
  simp only [List.append_assoc, List.singleton_append]
set_option maxRecDepth 100000 in
set_option maxHeartbeats 8000000 in
theorem rdata_zero (A : Nat → Prop) (da : Option Addr) (dc : Nat) (d : List UInt8) (off n : Int) (nm : ByteArray) (oa : Option Addr) (ol oc : Nat) (w : World)
    (hd : RB A w (.slice da d.length dc) d) (hl : d.length ≤ 1000) :
    Calls Tryz.prog 57 #[.slice da d.length dc, opV 6 off n nm oa ol oc] w (GetRR A (if spotB off n then some (zeroD d off.toNat n.toNat) else none) w) := by
  have HD := Lib.hid hd
  unfold opV
  clear hd
  rcases spot_ways off n with ⟨hs, h1, h2, h3, h4, h5⟩ | ⟨hs, h1⟩ | ⟨hs, h1, h2⟩ | ⟨hs, h1, h2, h3⟩ | ⟨hs, h1, h2, h3, h4⟩ | ⟨hs, h1, h2, h3, h4, h5⟩
  case inr.inl | inr.inr.inl | inr.inr.inr.inl | inr.inr.inr.inr.inl | inr.inr.inr.inr.inr =>
    rw [hs]
    clear hs
    go_enter Tryz.func57, Tryz.ntmps57
    go_wp2_with (first | (at_builtin; refine wpList_appB _ rfl _ _ rfl (w.heap.size + 1) _ [] (by rfl) (OB.nil _ _) A _ d (by rfl) (RB.ext HD.out ((Below.refl _ _).alloc (Nat.le_refl _) _)) (by simp; omega) (by simp) ?_; intro v1 w1 ho1 hb1; rw [List.nil_append] at ho1; obtain ⟨va1, vc1, rfl⟩ := ho1.rb.shape; have hcap1 := RB.capl ho1.rb; skip; have K1 := (hb1.block _ (Nat.lt_succ_self _)).trans (heap_alloc_new w _); obtain ⟨z0, z1, z2, z3, z4⟩ := five_cells K1; have HK1 := Lib.hid K1; have HO1 := Lib.hid ho1; have HW1 := Lib.hid (((Below.refl _ w).alloc (Nat.le_refl _) _).trans (hb1.mono (by simp))); have HB1 := Lib.hid hb1; clear ho1 hb1 K1) | go_in)
    go_wp2
    go_ret2
    exact GetRR.no HW1.out
  obtain ⟨f, rfl⟩ : ∃ f : Nat, off = f := ⟨off.toNat, by omega⟩
  obtain ⟨m, rfl⟩ : ∃ m : Nat, n = m := ⟨n.toNat, by omega⟩
  rw [hs, if_pos rfl]
  have HR : Hid (∀ t, t = min (f + m) d.length - f → d.take f ++ List.replicate t 0 ++ d.drop (f + t) = zeroD d (f : Int).toNat (m : Int).toNat) := Lib.hid fun t ht => zero_fin d f m t ht
  generalize zeroD d (f : Int).toNat (m : Int).toNat = R at *
  clear hs
  go_enter Tryz.func57, Tryz.ntmps57
  go_wp2_with (first | (at_builtin; refine wpList_appB _ rfl _ _ rfl (w.heap.size + 1) _ [] (by rfl) (OB.nil _ _) A _ d (by rfl) (RB.ext HD.out ((Below.refl _ _).alloc (Nat.le_refl _) _)) (by simp; omega) (by simp) ?_; intro v1 w1 ho1 hb1; rw [List.nil_append] at ho1; obtain ⟨va1, vc1, rfl⟩ := ho1.rb.shape; have hcap1 := RB.capl ho1.rb; skip; have K1 := (hb1.block _ (Nat.lt_succ_self _)).trans (heap_alloc_new w _); obtain ⟨z0, z1, z2, z3, z4⟩ := five_cells K1; have HK1 := Lib.hid K1; have HO1 := Lib.hid ho1; have HW1 := Lib.hid (((Below.refl _ w).alloc (Nat.le_refl _) _).trans (hb1.mono (by simp))); have HB1 := Lib.hid hb1; clear ho1 hb1 K1) | go_in)
  go_wp2
  obtain ⟨b1, hb1e⟩ : ∃ b1, b1 = w.heap.size + 1 := ⟨_, rfl⟩
  have HBE := Lib.hid hb1e
  rw [← hb1e] at HO1
  have hb1s : b1 ≤ w1.heap.size := by have := (Array.getElem?_eq_some_iff.1 HK1.out).1; omega
  obtain ⟨ga, hga⟩ : ∃ ga, ga = va1 := ⟨_, rfl⟩
  obtain ⟨gc, hgc⟩ : ∃ gc, gc = vc1 := ⟨_, rfl⟩
  subst hga hgc
  clear hb1e HB1 z0 z1 z2 z3 z4
  go_loopw [10] (fun q wr => ∃ t : Nat, t ≤ min (f + m) d.length - f ∧ q = .int .i64 ((f + t : Nat) : Int) ∧ OB b1 wr (.slice ga d.length gc) (d.take f ++ List.replicate t 0 ++ d.drop (f + t)) ∧ Below b1 w1 wr) (fun q _ => (f + m) - (intOf q).toNat)
  case atStart => exact ⟨0, Nat.zero_le _, rfl, by simpa using HO1.out, Below.refl _ _⟩
  case round =>
    obtain ⟨t, ht, rfl, hor, hbr⟩ := hrel
    have HOR := Lib.hid hor
    have HBR := Lib.hid hbr
    clear hor hbr
    by_cases hlt : f + t < f + m ∧ f + t < d.length
    · obtain ⟨hl1, hl2⟩ := hlt
      obtain ⟨g, c', e, hg1, hg2, -, hcc, hff⟩ := HOR.out.lies (by simp; omega)
      simp only [Value.slice.injEq] at e
      obtain ⟨rfl, -, -⟩ := e
      have yk : wr.cell? ⟨g, f + t, none⟩ = some (.int .u8 ((d.take f ++ List.replicate t 0 ++ d.drop (f + t))[f + t]'(by simp; omega)).toNat) := (hcc (f + t) (by simp; omega)).trans (bv_at _)
      have fk := hff (f + t)
      have HS3 := Lib.hid (HOR.out.set (f + t) 0)
      rw [zero_set d f t hl2] at HS3
      have HB4 : Hid (Below b1 w1 (wr.setCell ⟨g, f + t, none⟩ (bv 0))) := Lib.hid (HBR.out.setCell (show b1 ≤ g from hg1) _)
      generalize (d.take f ++ List.replicate t 0 ++ d.drop (f + t))[f + t]'(by simp; omega) = y at *
      have hz : bv 0 = .int .u8 0 := rfl
      rw [hz] at HS3 HB4
      have hl1' : (((f + t : Nat) : Int)) < f + m := by omega
      have hl2' : (((f + t : Nat) : Int)) < d.length := by omega
      clear hcc hff HOR hz
      go_wp2
      go_roundw
      case rel => exact ⟨t + 1, by omega, by go_num, HS3.out, HB4.out⟩
      case measure => simp [intOf]; omega
    · have hte : t = min (f + m) d.length - f := by omega
      have HO4 : Hid (OB b1 wr (.slice ga d.length gc) R) := Lib.hid (by have h := HOR.out; rw [HR.out t hte] at h; exact h)
      have HW4 := Lib.hid (HW1.out.trans (HBR.out.mono (by have := HBE.out; omega)))
      clear hte
      by_cases hl1 : f + t < f + m
      · have hl2' : ¬ (((f + t : Nat) : Int)) < d.length := by omega
        have hl1' : (((f + t : Nat) : Int)) < f + m := by omega
        clear hlt hl1
        go_wp2
        go_ret2
        exact GetRR.ok (by have := HBE.out; omega) HO4.out HW4.out
      · have hl1' : ¬ (((f + t : Nat) : Int)) < f + m := by omega
        clear hlt hl1
        go_wp2
        go_ret2
        exact GetRR.ok (by have := HBE.out; omega) HO4.out HW4.out
set_option maxRecDepth 100000 in
set_option maxHeartbeats 8000000 in
theorem rdata_cut (A : Nat → Prop) (da : Option Addr) (dc : Nat) (d : List UInt8) (off n : Int) (nm : ByteArray) (oa : Option Addr) (ol oc : Nat) (w : World)
    (hd : RB A w (.slice da d.length dc) d) (hl : d.length ≤ 1000) :
    Calls Tryz.prog 57 #[.slice da d.length dc, opV 7 off n nm oa ol oc] w (GetRR A (if spotB 0 n then some (d.take n.toNat) else none) w) := by
  have HD := Lib.hid hd
  unfold opV
  clear hd
  rcases spot_ways 0 n with ⟨hs, h1, h2, h3, h4, h5⟩ | ⟨hs, h1⟩ | ⟨hs, h1, h2⟩ | ⟨hs, h1, h2, h3⟩ | ⟨hs, h1, h2, h3, h4⟩ | ⟨hs, h1, h2, h3, h4, h5⟩
  case inr.inl | inr.inr.inl => omega
  case inr.inr.inr.inr.inr => omega
  case inr.inr.inr.inl | inr.inr.inr.inr.inl =>
    rw [hs]
    clear hs
    go_enter Tryz.func57, Tryz.ntmps57
    go_wp2_with (first | (at_builtin; refine wpList_appB _ rfl _ _ rfl (w.heap.size + 1) _ [] (by rfl) (OB.nil _ _) A _ d (by rfl) (RB.ext HD.out ((Below.refl _ _).alloc (Nat.le_refl _) _)) (by simp; omega) (by simp) ?_; intro v1 w1 ho1 hb1; rw [List.nil_append] at ho1; obtain ⟨va1, vc1, rfl⟩ := ho1.rb.shape; have hcap1 := RB.capl ho1.rb; skip; have K1 := (hb1.block _ (Nat.lt_succ_self _)).trans (heap_alloc_new w _); obtain ⟨z0, z1, z2, z3, z4⟩ := five_cells K1; have HK1 := Lib.hid K1; have HO1 := Lib.hid ho1; have HW1 := Lib.hid (((Below.refl _ w).alloc (Nat.le_refl _) _).trans (hb1.mono (by simp))); have HB1 := Lib.hid hb1; clear ho1 hb1 K1) | go_in)
    go_wp2
    go_ret2
    exact GetRR.no HW1.out
  obtain ⟨m, rfl⟩ : ∃ m : Nat, n = m := ⟨n.toNat, by omega⟩
  rw [hs, if_pos rfl]
  have hm : (m : Int).toNat = m := by omega
  rw [hm]
  clear hs h1 h2 hm
  by_cases hlt : m < d.length
  · have hlt' : (m : Int) < d.length := by omega
    go_enter Tryz.func57, Tryz.ntmps57
    go_wp2_with (first | (at_builtin; refine stop_in ?_) | go_in)
    unfold Stop
    refine wpList_appB _ rfl _ _ rfl (w.heap.size + 1) _ [] (by rfl) (OB.nil _ _) A _ d (by rfl) (RB.ext HD.out ((Below.refl _ _).alloc (Nat.le_refl _) _)) (by simp; omega) (by simp) ?_
    intro v1 w1 ho1 hb1
    rw [List.nil_append] at ho1
    obtain ⟨va1, vc1, rfl⟩ := ho1.rb.shape
    have hcap1 := RB.capl ho1.rb
    obtain ⟨g, c', e, -⟩ := ho1.lies (by omega)
    simp only [Value.slice.injEq] at e
    obtain ⟨rfl, -, -⟩ := e
    have hmc1 : m ≤ vc1 := by omega
    have K1 := (hb1.block _ (Nat.lt_succ_self _)).trans (heap_alloc_new w _)
    obtain ⟨z0, z1, z2, z3, z4⟩ := five_cells K1
    have HK1 := Lib.hid K1
    have HO1 := Lib.hid ho1
    have HW1 := Lib.hid (((Below.refl _ w).alloc (Nat.le_refl _) _).trans (hb1.mono (by simp)))
    have HB1 := Lib.hid hb1
    clear ho1 hb1 K1
    have HO4 := Lib.hid (HO1.out.cutN (k := m) (by omega))
    go_wp2
    go_ret2
    exact GetRR.ok (Nat.le_succ _) HO4.out HW1.out
  · have hlt' : ¬ (m : Int) < d.length := by omega
    have HT : Hid (d.take m = d) := Lib.hid (List.take_of_length_le (by omega))
    go_enter Tryz.func57, Tryz.ntmps57
    go_wp2_with (first | (at_builtin; refine wpList_appB _ rfl _ _ rfl (w.heap.size + 1) _ [] (by rfl) (OB.nil _ _) A _ d (by rfl) (RB.ext HD.out ((Below.refl _ _).alloc (Nat.le_refl _) _)) (by simp; omega) (by simp) ?_; intro v1 w1 ho1 hb1; rw [List.nil_append] at ho1; obtain ⟨va1, vc1, rfl⟩ := ho1.rb.shape; have hcap1 := RB.capl ho1.rb; skip; have K1 := (hb1.block _ (Nat.lt_succ_self _)).trans (heap_alloc_new w _); obtain ⟨z0, z1, z2, z3, z4⟩ := five_cells K1; have HK1 := Lib.hid K1; have HO1 := Lib.hid ho1; have HW1 := Lib.hid (((Below.refl _ w).alloc (Nat.le_refl _) _).trans (hb1.mono (by simp))); have HB1 := Lib.hid hb1; clear ho1 hb1 K1) | go_in)
    go_ret2
    rw [HT.out]
    exact GetRR.ok (Nat.le_succ _) HO1.out HW1.out
theorem pad_len (d : List UInt8) (f m : Nat) (h : m ≤ 64) : (padD d f m).length = m := by
  unfold padD
  simp
  omega
theorem pad_get? {d : List UInt8} {f m k : Nat} (hm : k < m) : (padD d f m)[k]? = some (if h : f + k < d.length then d[f + k] else 0) := by
  unfold padD
  split
  · rename_i h
    rw [List.getElem?_append_left (by simp; omega), List.getElem?_take, if_pos hm, List.getElem?_drop, List.getElem?_eq_getElem h]
  · rename_i h
    rw [List.getElem?_append_right (by simp; omega), List.getElem?_replicate, if_pos (by simp; omega)]
theorem pad_get {d : List UInt8} {f m k : Nat} (hk : k < (padD d f m).length) (hm : k < m) : (padD d f m)[k] = if h : f + k < d.length then d[f + k] else 0 :=
  Option.some.inj ((List.getElem?_eq_getElem hk).symm.trans (pad_get? hm))
theorem rdl_set {l : List UInt8} {k m : Nat} (hk : k < l.length) (hm : l.length = m) : (l.take k ++ List.replicate (m - k) 0).set k l[k] = l.take (k + 1) ++ List.replicate (m - (k + 1)) 0 := by
  rw [List.set_append_right _ _ (by simp; omega), List.length_take, Nat.min_eq_left (by omega), Nat.sub_self, show m - k = (m - (k + 1)) + 1 by omega, List.replicate_succ, List.set_cons_zero, List.take_succ_eq_append_getElem hk]
  simp only [List.append_assoc, List.singleton_append]
theorem rdl_skip {l : List UInt8} {k m : Nat} (hk : k < l.length) (hm : l.length = m) (h0 : l[k] = 0) : l.take k ++ List.replicate (m - k) 0 = l.take (k + 1) ++ List.replicate (m - (k + 1)) 0 := by
  rw [show m - k = (m - (k + 1)) + 1 by omega, List.replicate_succ, List.take_succ_eq_append_getElem hk, h0]
  simp only [List.append_assoc, List.singleton_append]
end Go.Proofs.YtgdilkhaopnhaaaGreatDoor
