/- The walks of terrazzoref08.data: noughts, a cut; of terrazzoref08.Read. -/
import Derived.Test.YtfefnfgppgohgaaDoorRefF8
import Derived.Test.YtfefnfgppgohgaaDoorRead8
import Derived.Test.YtfefnfgppgohgaaDoorDatB8
namespace Go.Proofs.YtfefnfgppgohgaaDoor
open Go.RowKit Go.WideShapes

theorem zero_fin (d : List UInt8) (f m t : Nat) (ht : t = min (f + m) d.length - f) : d.take f ++ List.replicate t 0 ++ d.drop (f + t) = zeroD d f m := by
  subst ht
  unfold zeroD
  congr 1
  rcases Nat.lt_or_ge (f + m) d.length with h | h
  · rw [Nat.min_eq_left (by omega), show f + (f + m - f) = f + m by omega]
  · rw [Nat.min_eq_right h, List.drop_of_length_le (by omega), List.drop_of_length_le (by omega)]
theorem zero_set (d : List UInt8) (f t : Nat) (h : f + t < d.length) : (d.take f ++ List.replicate t 0 ++ d.drop (f + t)).set (f + t) 0 = d.take f ++ List.replicate (t + 1) 0 ++ d.drop (f + (t + 1)) := by
  have h1 : (d.take f ++ List.replicate t (0 : UInt8)).length = f + t := by simp; omega
  rw [List.set_append_right _ _ (by omega), h1, Nat.sub_self, List.drop_eq_getElem_cons h, List.set_cons_zero, List.replicate_succ', Nat.add_assoc]
  simp only [List.append_assoc, List.singleton_append]
set_option maxRecDepth 100000 in
set_option maxHeartbeats 8000000 in
theorem rdata_zero (A : Nat → Prop) (da : Option Addr) (dc : Nat) (d : List UInt8) (off n : Int) (nm : ByteArray) (oa : Option Addr) (ol oc : Nat) (w : World)
    (hd : RB A w (.slice da d.length dc) d) (hl : d.length ≤ 1000) :
    Calls Tryd.prog 29 #[.slice da d.length dc, opV 6 off n nm oa ol oc] w (GetRR A (if spotB off n then some (zeroD d off.toNat n.toNat) else none) w) := by
  have HD := Lib.hid hd
  unfold opV
  clear hd
  rcases spot_ways off n with ⟨hs, h1, h2, h3, h4, h5⟩ | ⟨hs, h1⟩ | ⟨hs, h1, h2⟩ | ⟨hs, h1, h2, h3⟩ | ⟨hs, h1, h2, h3, h4⟩ | ⟨hs, h1, h2, h3, h4, h5⟩
  case inr.inl | inr.inr.inl | inr.inr.inr.inl | inr.inr.inr.inr.inl | inr.inr.inr.inr.inr =>
    rw [hs]
    clear hs
    go_enter Tryd.func29, Tryd.ntmps29
    go_wp2_with (first | (at_builtin; refine wpList_appB _ rfl _ _ rfl (w.heap.size + 1) _ [] (by rfl) (OB.nil _ _) A _ d (by rfl) (RB.ext HD.out ((Below.refl _ _).alloc (Nat.le_refl _) _)) (by simp; omega) (by simp) ?_; intro v1 w1 ho1 hb1; rw [List.nil_append] at ho1; obtain ⟨va1, vc1, rfl⟩ := ho1.rb.shape; have hcap1 := RB.capl ho1.rb; skip; have K1 := (hb1.block _ (Nat.lt_succ_self _)).trans (heap_alloc_new w _); obtain ⟨z0, z1, z2, z3, z4⟩ := five_cells K1; have HK1 := Lib.hid K1; have HO1 := Lib.hid ho1; have HW1 := Lib.hid (((Below.refl _ w).alloc (Nat.le_refl _) _).trans (hb1.mono (by simp))); have HB1 := Lib.hid hb1; clear ho1 hb1 K1) | go_in)
    go_wp2
    go_ret2
    exact GetRR.no HW1.out
  obtain ⟨f, rfl⟩ : ∃ f : Nat, off = f := ⟨off.toNat, by omega⟩
  obtain ⟨m, rfl⟩ : ∃ m : Nat, n = m := ⟨n.toNat, by omega⟩
  rw [hs, if_pos rfl]
  have HR : Hid (∀ t, t = min (f + m) d.length - f → d.take f ++ List.replicate t 0 ++ d.drop (f + t) = zeroD d (f : Int).toNat (m : Int).toNat) := Lib.hid fun t ht => zero_fin d f m t ht
  generalize zeroD d (f : Int).toNat (m : Int).toNat = R at *
  clear hs
  go_enter Tryd.func29, Tryd.ntmps29
  go_wp2_with (first | (at_builtin; refine wpList_appB _ rfl _ _ rfl (w.heap.size + 1) _ [] (by rfl) (OB.nil _ _) A _ d (by rfl) (RB.ext HD.out ((Below.refl _ _).alloc (Nat.le_refl _) _)) (by simp; omega) (by simp) ?_; intro v1 w1 ho1 hb1; rw [List.nil_append] at ho1; obtain ⟨va1, vc1, rfl⟩ := ho1.rb.shape; have hcap1 := RB.capl ho1.rb; skip; have K1 := (hb1.block _ (Nat.lt_succ_self _)).trans (heap_alloc_new w _); obtain ⟨z0, z1, z2, z3, z4⟩ := five_cells K1; have HK1 := Lib.hid K1; have HO1 := Lib.hid ho1; have HW1 := Lib.hid (((Below.refl _ w).alloc (Nat.le_refl _) _).trans (hb1.mono (by simp))); have HB1 := Lib.hid hb1; clear ho1 hb1 K1) | go_in)
  go_wp2
  obtain ⟨b1, hb1e⟩ : ∃ b1, b1 = w.heap.size + 1 := ⟨_, rfl⟩
  have HBE := Lib.hid hb1e
  rw [← hb1e] at HO1
  have hb1s : b1 ≤ w1.heap.size := by have := (Array.getElem?_eq_some_iff.1 HK1.out).1; omega
  obtain ⟨ga, hga⟩ : ∃ ga, ga = va1 := ⟨_, rfl⟩
  obtain ⟨gc, hgc⟩ : ∃ gc, gc = vc1 := ⟨_, rfl⟩
  subst hga hgc
  clear hb1e HB1 z0 z1 z2 z3 z4
  go_loopw [10] (fun q wr => ∃ t : Nat, t ≤ min (f + m) d.length - f ∧ q = .int .i64 ((f + t : Nat) : Int) ∧ OB b1 wr (.slice ga d.length gc) (d.take f ++ List.replicate t 0 ++ d.drop (f + t)) ∧ Below b1 w1 wr) (fun q _ => (f + m) - (intOf q).toNat)
  case atStart => exact ⟨0, Nat.zero_le _, rfl, by simpa using HO1.out, Below.refl _ _⟩
  case round =>
    obtain ⟨t, ht, rfl, hor, hbr⟩ := hrel
    have HOR := Lib.hid hor
    have HBR := Lib.hid hbr
    clear hor hbr
    by_cases hlt : f + t < f + m ∧ f + t < d.length
    · obtain ⟨hl1, hl2⟩ := hlt
      obtain ⟨g, c', e, hg1, hg2, -, hcc, hff⟩ := HOR.out.lies (by simp; omega)
      simp only [Value.slice.injEq] at e
      obtain ⟨rfl, -, -⟩ := e
      have yk : wr.cell? ⟨g, f + t, none⟩ = some (.int .u8 ((d.take f ++ List.replicate t 0 ++ d.drop (f + t))[f + t]'(by simp; omega)).toNat) := (hcc (f + t) (by simp; omega)).trans (bv_at _)
      have fk := hff (f + t)
      have HS3 := Lib.hid (HOR.out.set (f + t) 0)
      rw [zero_set d f t hl2] at HS3
      have HB4 : Hid (Below b1 w1 (wr.setCell ⟨g, f + t, none⟩ (bv 0))) := Lib.hid (HBR.out.setCell (show b1 ≤ g from hg1) _)
      generalize (d.take f ++ List.replicate t 0 ++ d.drop (f + t))[f + t]'(by simp; omega) = y at *
      have hz : bv 0 = .int .u8 0 := rfl
      rw [hz] at HS3 HB4
      have hl1' : (((f + t : Nat) : Int)) < f + m := by omega
      have hl2' : (((f + t : Nat) : Int)) < d.length := by omega
      clear hcc hff HOR hz
      go_wp2
      go_roundw
      case rel => exact ⟨t + 1, by omega, by go_num, HS3.out, HB4.out⟩
      case measure => simp [intOf]; omega
    · have hte : t = min (f + m) d.length - f := by omega
      have HO4 : Hid (OB b1 wr (.slice ga d.length gc) R) := Lib.hid (by have h := HOR.out; rw [HR.out t hte] at h; exact h)
      have HW4 := Lib.hid (HW1.out.trans (HBR.out.mono (by have := HBE.out; omega)))
      clear hte
      by_cases hl1 : f + t < f + m
      · have hl2' : ¬ (((f + t : Nat) : Int)) < d.length := by omega
        have hl1' : (((f + t : Nat) : Int)) < f + m := by omega
        clear hlt hl1
        go_wp2
        go_ret2
        exact GetRR.ok (by have := HBE.out; omega) HO4.out HW4.out
      · have hl1' : ¬ (((f + t : Nat) : Int)) < f + m := by omega
        clear hlt hl1
        go_wp2
        go_ret2
        exact GetRR.ok (by have := HBE.out; omega) HO4.out HW4.out
set_option maxRecDepth 100000 in
set_option maxHeartbeats 8000000 in
theorem rdata_cut (A : Nat → Prop) (da : Option Addr) (dc : Nat) (d : List UInt8) (off n : Int) (nm : ByteArray) (oa : Option Addr) (ol oc : Nat) (w : World)
    (hd : RB A w (.slice da d.length dc) d) (hl : d.length ≤ 1000) :
    Calls Tryd.prog 29 #[.slice da d.length dc, opV 7 off n nm oa ol oc] w (GetRR A (if spotB 0 n then some (d.take n.toNat) else none) w) := by
  have HD := Lib.hid hd
  unfold opV
  clear hd
  rcases spot_ways 0 n with ⟨hs, h1, h2, h3, h4, h5⟩ | ⟨hs, h1⟩ | ⟨hs, h1, h2⟩ | ⟨hs, h1, h2, h3⟩ | ⟨hs, h1, h2, h3, h4⟩ | ⟨hs, h1, h2, h3, h4, h5⟩
  case inr.inl | inr.inr.inl => omega
  case inr.inr.inr.inr.inr => omega
  case inr.inr.inr.inl | inr.inr.inr.inr.inl =>
    rw [hs]
    clear hs
    go_enter Tryd.func29, Tryd.ntmps29
    go_wp2_with (first | (at_builtin; refine wpList_appB _ rfl _ _ rfl (w.heap.size + 1) _ [] (by rfl) (OB.nil _ _) A _ d (by rfl) (RB.ext HD.out ((Below.refl _ _).alloc (Nat.le_refl _) _)) (by simp; omega) (by simp) ?_; intro v1 w1 ho1 hb1; rw [List.nil_append] at ho1; obtain ⟨va1, vc1, rfl⟩ := ho1.rb.shape; have hcap1 := RB.capl ho1.rb; skip; have K1 := (hb1.block _ (Nat.lt_succ_self _)).trans (heap_alloc_new w _); obtain ⟨z0, z1, z2, z3, z4⟩ := five_cells K1; have HK1 := Lib.hid K1; have HO1 := Lib.hid ho1; have HW1 := Lib.hid (((Below.refl _ w).alloc (Nat.le_refl _) _).trans (hb1.mono (by simp))); have HB1 := Lib.hid hb1; clear ho1 hb1 K1) | go_in)
    go_wp2
    go_ret2
    exact GetRR.no HW1.out
  obtain ⟨m, rfl⟩ : ∃ m : Nat, n = m := ⟨n.toNat, by omega⟩
  rw [hs, if_pos rfl]
  have hm : (m : Int).toNat = m := by omega
  rw [hm]
  clear hs h1 h2 hm
  by_cases hlt : m < d.length
  · have hlt' : (m : Int) < d.length := by omega
    go_enter Tryd.func29, Tryd.ntmps29
    go_wp2_with (first | (at_builtin; refine stop_in ?_) | go_in)
    unfold Stop
    refine wpList_appB _ rfl _ _ rfl (w.heap.size + 1) _ [] (by rfl) (OB.nil _ _) A _ d (by rfl) (RB.ext HD.out ((Below.refl _ _).alloc (Nat.le_refl _) _)) (by simp; omega) (by simp) ?_
    intro v1 w1 ho1 hb1
    rw [List.nil_append] at ho1
    obtain ⟨va1, vc1, rfl⟩ := ho1.rb.shape
    have hcap1 := RB.capl ho1.rb
    obtain ⟨g, c', e, -⟩ := ho1.lies (by omega)
    simp only [Value.slice.injEq] at e
    obtain ⟨rfl, -, -⟩ := e
    have hmc1 : m ≤ vc1 := by omega
    have K1 := (hb1.block _ (Nat.lt_succ_self _)).trans (heap_alloc_new w _)
    obtain ⟨z0, z1, z2, z3, z4⟩ := five_cells K1
    have HK1 := Lib.hid K1
    have HO1 := Lib.hid ho1
    have HW1 := Lib.hid (((Below.refl _ w).alloc (Nat.le_refl _) _).trans (hb1.mono (by simp)))
    have HB1 := Lib.hid hb1
    clear ho1 hb1 K1
    have HO4 := Lib.hid (HO1.out.cutN (k := m) (by omega))
    go_wp2
    go_ret2
    exact GetRR.ok (Nat.le_succ _) HO4.out HW1.out
  · have hlt' : ¬ (m : Int) < d.length := by omega
    have HT : Hid (d.take m = d) := Lib.hid (List.take_of_length_le (by omega))
    go_enter Tryd.func29, Tryd.ntmps29
    go_wp2_with (first | (at_builtin; refine wpList_appB _ rfl _ _ rfl (w.heap.size + 1) _ [] (by rfl) (OB.nil _ _) A _ d (by rfl) (RB.ext HD.out ((Below.refl _ _).alloc (Nat.le_refl _) _)) (by simp; omega) (by simp) ?_; intro v1 w1 ho1 hb1; rw [List.nil_append] at ho1; obtain ⟨va1, vc1, rfl⟩ := ho1.rb.shape; have hcap1 := RB.capl ho1.rb; skip; have K1 := (hb1.block _ (Nat.lt_succ_self _)).trans (heap_alloc_new w _); obtain ⟨z0, z1, z2, z3, z4⟩ := five_cells K1; have HK1 := Lib.hid K1; have HO1 := Lib.hid ho1; have HW1 := Lib.hid (((Below.refl _ w).alloc (Nat.le_refl _) _).trans (hb1.mono (by simp))); have HB1 := Lib.hid hb1; clear ho1 hb1 K1) | go_in)
    go_ret2
    rw [HT.out]
    exact GetRR.ok (Nat.le_succ _) HO1.out HW1.out
theorem pad_len (d : List UInt8) (f m : Nat) (h : m ≤ 64) : (padD d f m).length = m := by
  unfold padD
  simp
  omega
theorem pad_get? {d : List UInt8} {f m k : Nat} (hm : k < m) : (padD d f m)[k]? = some (if h : f + k < d.length then d[f + k] else 0) := by
  unfold padD
  split
  · rename_i h
    rw [List.getElem?_append_left (by simp; omega), List.getElem?_take, if_pos hm, List.getElem?_drop, List.getElem?_eq_getElem h]
  · rename_i h
    rw [List.getElem?_append_right (by simp; omega), List.getElem?_replicate, if_pos (by simp; omega)]
theorem pad_get {d : List UInt8} {f m k : Nat} (hk : k < (padD d f m).length) (hm : k < m) : (padD d f m)[k] = if h : f + k < d.length then d[f + k] else 0 :=
  Option.some.inj ((List.getElem?_eq_getElem hk).symm.trans (pad_get? hm))
theorem rdl_set {l : List UInt8} {k m : Nat} (hk : k < l.length) (hm : l.length = m) : (l.take k ++ List.replicate (m - k) 0).set k l[k] = l.take (k + 1) ++ List.replicate (m - (k + 1)) 0 := by
  rw [List.set_append_right _ _ (by simp; omega), List.length_take, Nat.min_eq_left (by omega), Nat.sub_self, show m - k = (m - (k + 1)) + 1 by omega, List.replicate_succ, List.set_cons_zero, List.take_succ_eq_append_getElem hk]
  simp only [List.append_assoc, List.singleton_append]
theorem rdl_skip {l : List UInt8} {k m : Nat} (hk : k < l.length) (hm : l.length = m) (h0 : l[k] = 0) : l.take k ++ List.replicate (m - k) 0 = l.take (k + 1) ++ List.replicate (m - (k + 1)) 0 := by
  rw [show m - k = (m - (k + 1)) + 1 by omega, List.replicate_succ, List.take_succ_eq_append_getElem hk, h0]
  simp only [List.append_assoc, List.singleton_append]
set_option maxRecDepth 100000 in
set_option maxHeartbeats 8000000 in
theorem rread_any (A : Nat → Prop) (v : Value) (o : ObD) (off n : Int) (w : World) (hv : ObV A w v o) (hl : o.data.length ≤ 1000000) :
    Calls Tryd.prog 23 #[v, .int .i64 off, .int .i64 n] w (RowRR A (readD o off n) w) := by
  obtain ⟨dv, kv, rfl, hd, hk⟩ := hv
  obtain ⟨da, dc, rfl⟩ := hd.shape
  obtain ⟨ka, kc, rfl⟩ := hk.shape
  obtain ⟨od, ks, os⟩ := o
  simp only at *
  have HD := Lib.hid hd
  clear hk hd
  rcases spot_ways off n with ⟨hs, h1, h2, h3, h4, h5⟩ | ⟨hs, h1⟩ | ⟨hs, h1, h2⟩ | ⟨hs, h1, h2, h3⟩ | ⟨hs, h1, h2, h3, h4⟩ | ⟨hs, h1, h2, h3, h4, h5⟩
  case inr.inl | inr.inr.inl | inr.inr.inr.inl | inr.inr.inr.inr.inl | inr.inr.inr.inr.inr =>
    have HG : Hid (readD ⟨od, ks, os⟩ off n = []) := by show readD _ _ _ = _; simp [readD, hs]
    clear hs
    go_enter Tryd.func23, Tryd.ntmps23
    go_wp2
    all_goals
      go_ret
      show RowRR _ _ _ _ _
      rw [HG.out]
      exact ⟨_, _, rfl, RB.nil _ _, by ((repeat' (first | exact Below.refl _ _ | refine below_drewN ?_ _ | refine Below.drew ?_ | refine Below.alloc ?_ ?_ _ | refine Below.trans ?_ (Below.mono (by assumption) ?_))); all_goals (first | exact Nat.le_refl _ | exact Below.size (by assumption) | omega | (simp; done) | (simp; omega)))⟩
  obtain ⟨f, rfl⟩ : ∃ f : Nat, off = f := ⟨off.toNat, by omega⟩
  obtain ⟨m, rfl⟩ : ∃ m : Nat, n = m := ⟨n.toNat, by omega⟩
  have hm64 : m ≤ 64 := by omega
  have HG : Hid (readD ⟨od, ks, os⟩ f m = padD od f m) := by show readD _ _ _ = _; simp [readD, hs]
  have HPL := Lib.hid (pad_len od f m hm64)
  have HPG : Hid (∀ k (hk : k < (padD od f m).length), k < m → (padD od f m)[k] = if h : f + k < od.length then od[f + k] else 0) := Lib.hid fun k hk hm => pad_get hk hm
  generalize readD ⟨od, ks, os⟩ f m = R at *
  generalize padD od f m = l at *
  have hmk := fun W => mk_bytes m (by omega) W
  clear hs
  go_enter Tryd.func23, Tryd.ntmps23
  go_wp2
  obtain ⟨w1, hw1⟩ : ∃ w1, w1 = (w.alloc (.cells #[.slice da od.length dc, .slice ka ks.length kc, .int .i64 os] 25)).alloc (.cells (Array.replicate m (Value.int .u8 0)) 5) := ⟨_, rfl⟩
  rw [← hw1]
  have b0 : w1.heap[w.heap.size]? = some (.cells #[.slice da od.length dc, .slice ka ks.length kc, .int .i64 os] 25 (0, 0)) := by rw [hw1]; exact (Below.heap_alloc _ _ _ (by simp)).trans (heap_alloc_new _ _)
  have b1 : w1.heap[w.heap.size + 1]? = some (.cells (Array.replicate m (Value.int .u8 0)) 5 (0, 0)) := by rw [hw1]; exact heap_alloc2_new _ _ _
  have hw : Below w.heap.size w w1 := by rw [hw1]; ((repeat' (first | exact Below.refl _ _ | refine below_drewN ?_ _ | refine Below.drew ?_ | refine Below.alloc ?_ ?_ _ | refine Below.trans ?_ (Below.mono (by assumption) ?_))); all_goals (first | exact Nat.le_refl _ | exact Below.size (by assumption) | omega | (simp; done) | (simp; omega)))
  have HB0 := Lib.hid b0
  have HW1 := Lib.hid hw
  have HO1 : Hid (OB (w.heap.size + 1) w1 (.slice (some ⟨w.heap.size + 1, 0, none⟩) m m) (l.take 0 ++ List.replicate (m - 0) 0)) := Lib.hid (OB.of_blk (t := []) (by simpa [bv] using b1) (Nat.le_refl _) (by simp) (by simp) (by omega))
  clear hw1 b0 b1 hw hmk
  go_loopw [8] (fun q wr => ∃ k : Nat, k ≤ m ∧ q = .int .i64 k ∧ OB (w.heap.size + 1) wr (.slice (some ⟨w.heap.size + 1, 0, none⟩) m m) (l.take k ++ List.replicate (m - k) 0) ∧ Below (w.heap.size + 1) w1 wr) (fun q _ => m - (intOf q).toNat)
  case atStart => exact ⟨0, Nat.zero_le _, rfl, HO1.out, Below.refl _ _⟩
  case round =>
    obtain ⟨k, hk, rfl, hor, hbr⟩ := hrel
    have HOR := Lib.hid hor
    have HBR := Lib.hid hbr
    have hb0 := (hbr.block w.heap.size (Nat.lt_succ_self _)).trans HB0.out
    obtain ⟨x0, f0⟩ := blk_cell (i := 0) hb0
    simp at x0
    have HWr := Lib.hid (HW1.out.trans (hbr.mono (by omega)))
    clear hor hbr hb0
    by_cases hlt : k < m
    · have hll : (l.take k ++ List.replicate (m - k) 0).length = m := by have := HPL.out; simp; omega
      have hkl : k < l.length := by have := HPL.out; omega
      by_cases hin : f + k < od.length
      · have HDR := Lib.hid (RB.ext HD.out HWr.out)
        obtain ⟨bx, ofs, rfl, hbx, -, hxc, hxx⟩ := HDR.out.lie (by omega)
        obtain ⟨g, c', e, hg1, hg2, -, hcc, hff⟩ := HOR.out.lies (by omega)
        rw [hll] at e
        simp only [Value.slice.injEq, Option.some.injEq, Addr.mk.injEq] at e
        obtain ⟨⟨rfl, -⟩, -, -⟩ := e
        have xk : wr.cell? ⟨bx, ofs + (f + k), none⟩ = some (.int .u8 od[f + k].toNat) := (hxx (f + k) hin).trans (bv_at hin)
        have yk : wr.cell? ⟨w.heap.size + 1, k, none⟩ = some (.int .u8 ((l.take k ++ List.replicate (m - k) 0)[k]'(by omega)).toNat) := (hcc k (by omega)).trans (bv_at _)
        have fk := hff k
        have HS3 := Lib.hid (HOR.out.set k l[k])
        rw [rdl_set hkl HPL.out] at HS3
        have HLK := HPG.out k hkl hlt
        rw [dif_pos hin] at HLK
        rw [HLK] at HS3
        have HB4 : Hid (Below (w.heap.size + 1) w1 (wr.setCell ⟨w.heap.size + 1, k, none⟩ (bv od[f + k]))) := Lib.hid (HBR.out.setCell (Nat.le_refl _ : w.heap.size + 1 ≤ (⟨w.heap.size + 1, k, none⟩ : Addr).block) _)
        have hin' : ((f : Int) + k) < od.length := by omega
        generalize (l.take k ++ List.replicate (m - k) 0)[k]'(by omega) = y at *
        generalize od[f + k] = z at *
        simp only [bv] at HS3 HB4
        clear hcc hff hxx hll HOR HLK
        go_wp2
        go_roundw
        case rel => exact ⟨k + 1, by omega, by go_num, HS3.out, HB4.out⟩
        case measure => simp [intOf]; omega
      · have HLK := HPG.out k hkl hlt
        rw [dif_neg hin] at HLK
        have HS3 := Lib.hid (show OB (w.heap.size + 1) wr _ (l.take (k + 1) ++ List.replicate (m - (k + 1)) 0) from by rw [← rdl_skip hkl HPL.out HLK]; exact HOR.out)
        have hin' : ¬ ((f : Int) + k) < od.length := by omega
        clear HLK hll
        go_wp2
        go_roundw
        case rel => exact ⟨k + 1, by omega, by go_num, HS3.out, HBR.out⟩
        case measure => simp [intOf]; omega
    · obtain rfl : k = m := by omega
      have HO4 : Hid (OB (w.heap.size + 1) wr (.slice (some ⟨w.heap.size + 1, 0, none⟩) k k) l) := Lib.hid (by have h := HOR.out; rw [List.take_of_length_le (by have := HPL.out; omega), Nat.sub_self, List.replicate_zero, List.append_nil] at h; exact h)
      go_wp2
      go_ret
      show RowRR _ _ _ _ _
      rw [HG.out]
      refine ⟨some ⟨w.heap.size + 1, 0, none⟩, k, ?_, ?_, HWr.out⟩
      rotate_left
      · have h := HO4.out.rb.weak (A' := UpA A w) fun _ _ h => .inr (Nat.le_trans (Nat.le_succ _) h)
        have e := HPL.out
        rw [show (Value.slice (some ⟨w.heap.size + 1, 0, none⟩) k k) = Value.slice (some ⟨w.heap.size + 1, 0, none⟩) l.length k by rw [e]] at h
        exact h
      · rw [HPL.out]
        rfl
end Go.Proofs.YtfefnfgppgohgaaDoor
