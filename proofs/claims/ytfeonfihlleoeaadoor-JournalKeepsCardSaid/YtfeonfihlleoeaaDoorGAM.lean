/- The walks of terrazzoref08.data: noughts, a cut; of terrazzoref08.Read. The walks of terrazzoref08.guard and key. -/
import Derived.Test.YtfeonfihlleoeaaDoorGAL
import Derived.Test.YtfeonfihlleoeaaDoorGAG
import Derived.Test.YtfeonfihlleoeaaDoorGAI
import Derived.Test.YtfeonfihlleoeaaDoorRefE8
namespace Go.Proofs.YtfeonfihlleoeaaDoor
open Go.RowKit Go.WideShapes

theorem zero_fin (d : List UInt8) (f m t : Nat) (ht : t = min (f + m) d.length - f) : d.take f ++ List.replicate t 0 ++ d.drop (f + t) = zeroD d f m := by
  subst ht
  unfold zeroD
  congr 1
  rcases Nat.lt_or_ge (f + m) d.length with h | h
  · rw [Nat.min_eq_left (by omega), show f + (f + m - f) = f + m by omega]
  · rw [Nat.min_eq_right h, List.drop_of_length_le (by omega), List.drop_of_length_le (by omega)]
theorem zero_set (d : List UInt8) (f t : Nat) (h : f + t < d.length) : (d.take f ++ List.replicate t 0 ++ d.drop (f + t)).set (f + t) 0 = d.take f ++ List.replicate (t + 1) 0 ++ d.drop (f + (t + 1)) := by
  have h1 : (d.take f ++ List.replicate t (0 : UInt8)).length = f + t := by simp; omega
  rw [List.set_append_right _ _ (by omega), h1, Nat.sub_self, List.drop_eq_getElem_cons h, List.set_cons_zero, List.replicate_succ', Nat.add_assoc]
  simp only [List.append_assoc, List.singleton_append]
set_option maxRecDepth 100000 in
set_option maxHeartbeats 8000000 in
theorem rdata_zero (A : Nat → Prop) (da : Option Addr) (dc : Nat) (d : List UInt8) (off n : Int) (nm : ByteArray) (oa : Option Addr) (ol oc : Nat) (w : World)
    (hd : RB A w (.slice da d.length dc) d) (hl : d.length ≤ 1000) :
    Calls Tryd.prog 61 #[.slice da d.length dc, opV 6 off n nm oa ol oc] w (GetRR A (if spotB off n then some (zeroD d off.toNat n.toNat) else none) w) := by
  have HD := Lib.hid hd
  unfold opV
  clear hd
  rcases spot_ways off n with ⟨hs, h1, h2, h3, h4, h5⟩ | ⟨hs, h1⟩ | ⟨hs, h1, h2⟩ | ⟨hs, h1, h2, h3⟩ | ⟨hs, h1, h2, h3, h4⟩ | ⟨hs, h1, h2, h3, h4, h5⟩
  case inr.inl | inr.inr.inl | inr.inr.inr.inl | inr.inr.inr.inr.inl | inr.inr.inr.inr.inr =>
    rw [hs]
    clear hs
    go_enter Tryd.func61, Tryd.ntmps61
    go_wp2_with (first | (at_builtin; refine wpList_appB _ rfl _ _ rfl (w.heap.size + 1) _ [] (by rfl) (OB.nil _ _) A _ d (by rfl) (RB.ext HD.out ((Below.refl _ _).alloc (Nat.le_refl _) _)) (by simp; omega) (by simp) ?_; intro v1 w1 ho1 hb1; rw [List.nil_append] at ho1; obtain ⟨va1, vc1, rfl⟩ := ho1.rb.shape; have hcap1 := RB.capl ho1.rb; skip; have K1 := (hb1.block _ (Nat.lt_succ_self _)).trans (heap_alloc_new w _); obtain ⟨z0, z1, z2, z3, z4⟩ := five_cells K1; have HK1 := Lib.hid K1; have HO1 := Lib.hid ho1; have HW1 := Lib.hid (((Below.refl _ w).alloc (Nat.le_refl _) _).trans (hb1.mono (by simp))); have HB1 := Lib.hid hb1; clear ho1 hb1 K1) | go_in)
    go_wp2
    go_ret2
    exact GetRR.no HW1.out
  obtain ⟨f, rfl⟩ : ∃ f : Nat, off = f := ⟨off.toNat, by omega⟩
  obtain ⟨m, rfl⟩ : ∃ m : Nat, n = m := ⟨n.toNat, by omega⟩
  rw [hs, if_pos rfl]
  have HR : Hid (∀ t, t = min (f + m) d.length - f → d.take f ++ List.replicate t 0 ++ d.drop (f + t) = zeroD d (f : Int).toNat (m : Int).toNat) := Lib.hid fun t ht => zero_fin d f m t ht
  generalize zeroD d (f : Int).toNat (m : Int).toNat = R at *
  clear hs
  go_enter Tryd.func61, Tryd.ntmps61
  go_wp2_with (first | (at_builtin; refine wpList_appB _ rfl _ _ rfl (w.heap.size + 1) _ [] (by rfl) (OB.nil _ _) A _ d (by rfl) (RB.ext HD.out ((Below.refl _ _).alloc (Nat.le_refl _) _)) (by simp; omega) (by simp) ?_; intro v1 w1 ho1 hb1; rw [List.nil_append] at ho1; obtain ⟨va1, vc1, rfl⟩ := ho1.rb.shape; have hcap1 := RB.capl ho1.rb; skip; have K1 := (hb1.block _ (Nat.lt_succ_self _)).trans (heap_alloc_new w _); obtain ⟨z0, z1, z2, z3, z4⟩ := five_cells K1; have HK1 := Lib.hid K1; have HO1 := Lib.hid ho1; have HW1 := Lib.hid (((Below.refl _ w).alloc (Nat.le_refl _) _).trans (hb1.mono (by simp))); have HB1 := Lib.hid hb1; clear ho1 hb1 K1) | go_in)
  go_wp2
  obtain ⟨b1, hb1e⟩ : ∃ b1, b1 = w.heap.size + 1 := ⟨_, rfl⟩
  have HBE := Lib.hid hb1e
  rw [← hb1e] at HO1
  have hb1s : b1 ≤ w1.heap.size := by have := (Array.getElem?_eq_some_iff.1 HK1.out).1; omega
  obtain ⟨ga, hga⟩ : ∃ ga, ga = va1 := ⟨_, rfl⟩
  obtain ⟨gc, hgc⟩ : ∃ gc, gc = vc1 := ⟨_, rfl⟩
  subst hga hgc
  clear hb1e HB1 z0 z1 z2 z3 z4
  go_loopw [10] (fun q wr => ∃ t : Nat, t ≤ min (f + m) d.length - f ∧ q = .int .i64 ((f + t : Nat) : Int) ∧ OB b1 wr (.slice ga d.length gc) (d.take f ++ List.replicate t 0 ++ d.drop (f + t)) ∧ Below b1 w1 wr) (fun q _ => (f + m) - (intOf q).toNat)
  case atStart => exact ⟨0, Nat.zero_le _, rfl, by simpa using HO1.out, Below.refl _ _⟩
  case round =>
    obtain ⟨t, ht, rfl, hor, hbr⟩ := hrel
    have HOR := Lib.hid hor
    have HBR := Lib.hid hbr
    clear hor hbr
    by_cases hlt : f + t < f + m ∧ f + t < d.length
    · obtain ⟨hl1, hl2⟩ := hlt
      obtain ⟨g, c', e, hg1, hg2, -, hcc, hff⟩ := HOR.out.lies (by simp; omega)
      simp only [Value.slice.injEq] at e
      obtain ⟨rfl, -, -⟩ := e
      have yk : wr.cell? ⟨g, f + t, none⟩ = some (.int .u8 ((d.take f ++ List.replicate t 0 ++ d.drop (f + t))[f + t]'(by simp; omega)).toNat) := (hcc (f + t) (by simp; omega)).trans (bv_at _)
      have fk := hff (f + t)
      have HS3 := Lib.hid (HOR.out.set (f + t) 0)
      rw [zero_set d f t hl2] at HS3
      have HB4 : Hid (Below b1 w1 (wr.setCell ⟨g, f + t, none⟩ (bv 0))) := Lib.hid (HBR.out.setCell (show b1 ≤ g from hg1) _)
      generalize (d.take f ++ List.replicate t 0 ++ d.drop (f + t))[f + t]'(by simp; omega) = y at *
      have hz : bv 0 = .int .u8 0 := rfl
      rw [hz] at HS3 HB4
      have hl1' : (((f + t : Nat) : Int)) < f + m := by omega
      have hl2' : (((f + t : Nat) : Int)) < d.length := by omega
      clear hcc hff HOR hz
      go_wp2
      go_roundw
      case rel => exact ⟨t + 1, by omega, by go_num, HS3.out, HB4.out⟩
      case measure => simp [intOf]; omega
    · have hte : t = min (f + m) d.length - f := by omega
      have HO4 : Hid (OB b1 wr (.slice ga d.length gc) R) := Lib.hid (by have h := HOR.out; rw [HR.out t hte] at h; exact h)
      have HW4 := Lib.hid (HW1.out.trans (HBR.out.mono (by have := HBE.out; omega)))
      clear hte
      by_cases hl1 : f + t < f + m
      · have hl2' : ¬ (((f + t : Nat) : Int)) < d.length := by omega
        have hl1' : (((f + t : Nat) : Int)) < f + m := by omega
        clear hlt hl1
        go_wp2
        go_ret2
        exact GetRR.ok (by have := HBE.out; omega) HO4.out HW4.out
      · have hl1' : ¬ (((f + t : Nat) : Int)) < f + m := by omega
        clear hlt hl1
        go_wp2
        go_ret2
        exact GetRR.ok (by have := HBE.out; omega) HO4.out HW4.out
set_option maxRecDepth 100000 in
set_option maxHeartbeats 8000000 in
theorem rdata_cut (A : Nat → Prop) (da : Option Addr) (dc : Nat) (d : List UInt8) (off n : Int) (nm : ByteArray) (oa : Option Addr) (ol oc : Nat) (w : World)
    (hd : RB A w (.slice da d.length dc) d) (hl : d.length ≤ 1000) :
    Calls Tryd.prog 61 #[.slice da d.length dc, opV 7 off n nm oa ol oc] w (GetRR A (if spotB 0 n then some (d.take n.toNat) else none) w) := by
  have HD := Lib.hid hd
  unfold opV
  clear hd
  rcases spot_ways 0 n with ⟨hs, h1, h2, h3, h4, h5⟩ | ⟨hs, h1⟩ | ⟨hs, h1, h2⟩ | ⟨hs, h1, h2, h3⟩ | ⟨hs, h1, h2, h3, h4⟩ | ⟨hs, h1, h2, h3, h4, h5⟩
  case inr.inl | inr.inr.inl => omega
  case inr.inr.inr.inr.inr => omega
  case inr.inr.inr.inl | inr.inr.inr.inr.inl =>
    rw [hs]
    clear hs
    go_enter Tryd.func61, Tryd.ntmps61
    go_wp2_with (first | (at_builtin; refine wpList_appB _ rfl _ _ rfl (w.heap.size + 1) _ [] (by rfl) (OB.nil _ _) A _ d (by rfl) (RB.ext HD.out ((Below.refl _ _).alloc (Nat.le_refl _) _)) (by simp; omega) (by simp) ?_; intro v1 w1 ho1 hb1; rw [List.nil_append] at ho1; obtain ⟨va1, vc1, rfl⟩ := ho1.rb.shape; have hcap1 := RB.capl ho1.rb; skip; have K1 := (hb1.block _ (Nat.lt_succ_self _)).trans (heap_alloc_new w _); obtain ⟨z0, z1, z2, z3, z4⟩ := five_cells K1; have HK1 := Lib.hid K1; have HO1 := Lib.hid ho1; have HW1 := Lib.hid (((Below.refl _ w).alloc (Nat.le_refl _) _).trans (hb1.mono (by simp))); have HB1 := Lib.hid hb1; clear ho1 hb1 K1) | go_in)
    go_wp2
    go_ret2
    exact GetRR.no HW1.out
  obtain ⟨m, rfl⟩ : ∃ m : Nat, n = m := ⟨n.toNat, by omega⟩
  rw [hs, if_pos rfl]
  have hm : (m : Int).toNat = m := by omega
  rw [hm]
  clear hs h1 h2 hm
  by_cases hlt : m < d.length
  · have hlt' : (m : Int) < d.length := by omega
    go_enter Tryd.func61, Tryd.ntmps61
    go_wp2_with (first | (at_builtin; refine stop_in ?_) | go_in)
    unfold Stop
    refine wpList_appB _ rfl _ _ rfl (w.heap.size + 1) _ [] (by rfl) (OB.nil _ _) A _ d (by rfl) (RB.ext HD.out ((Below.refl _ _).alloc (Nat.le_refl _) _)) (by simp; omega) (by simp) ?_
    intro v1 w1 ho1 hb1
    rw [List.nil_append] at ho1
    obtain ⟨va1, vc1, rfl⟩ := ho1.rb.shape
    have hcap1 := RB.capl ho1.rb
    obtain ⟨g, c', e, -⟩ := ho1.lies (by omega)
    simp only [Value.slice.injEq] at e
    obtain ⟨rfl, -, -⟩ := e
    have hmc1 : m ≤ vc1 := by omega
    have K1 := (hb1.block _ (Nat.lt_succ_self _)).trans (heap_alloc_new w _)
    obtain ⟨z0, z1, z2, z3, z4⟩ := five_cells K1
    have HK1 := Lib.hid K1
    have HO1 := Lib.hid ho1
    have HW1 := Lib.hid (((Below.refl _ w).alloc (Nat.le_refl _) _).trans (hb1.mono (by simp)))
    have HB1 := Lib.hid hb1
    clear ho1 hb1 K1
    have HO4 := Lib.hid (HO1.out.cutN (k := m) (by omega))
    go_wp2
    go_ret2
    exact GetRR.ok (Nat.le_succ _) HO4.out HW1.out
  · have hlt' : ¬ (m : Int) < d.length := by omega
    have HT : Hid (d.take m = d) := Lib.hid (List.take_of_length_le (by omega))
    go_enter Tryd.func61, Tryd.ntmps61
    go_wp2_with (first | (at_builtin; refine wpList_appB _ rfl _ _ rfl (w.heap.size + 1) _ [] (by rfl) (OB.nil _ _) A _ d (by rfl) (RB.ext HD.out ((Below.refl _ _).alloc (Nat.le_refl _) _)) (by simp; omega) (by simp) ?_; intro v1 w1 ho1 hb1; rw [List.nil_append] at ho1; obtain ⟨va1, vc1, rfl⟩ := ho1.rb.shape; have hcap1 := RB.capl ho1.rb; skip; have K1 := (hb1.block _ (Nat.lt_succ_self _)).trans (heap_alloc_new w _); obtain ⟨z0, z1, z2, z3, z4⟩ := five_cells K1; have HK1 := Lib.hid K1; have HO1 := Lib.hid ho1; have HW1 := Lib.hid (((Below.refl _ w).alloc (Nat.le_refl _) _).trans (hb1.mono (by simp))); have HB1 := Lib.hid hb1; clear ho1 hb1 K1) | go_in)
    go_ret2
    rw [HT.out]
    exact GetRR.ok (Nat.le_succ _) HO1.out HW1.out
theorem pad_len (d : List UInt8) (f m : Nat) (h : m ≤ 64) : (padD d f m).length = m := by
  unfold padD
  simp
  omega
theorem pad_get? {d : List UInt8} {f m k : Nat} (hm : k < m) : (padD d f m)[k]? = some (if h : f + k < d.length then d[f + k] else 0) := by
  unfold padD
  split
  · rename_i h
    rw [List.getElem?_append_left (by simp; omega), List.getElem?_take, if_pos hm, List.getElem?_drop, List.getElem?_eq_getElem h]
  · rename_i h
    rw [List.getElem?_append_right (by simp; omega), List.getElem?_replicate, if_pos (by simp; omega)]
theorem pad_get {d : List UInt8} {f m k : Nat} (hk : k < (padD d f m).length) (hm : k < m) : (padD d f m)[k] = if h : f + k < d.length then d[f + k] else 0 :=
  Option.some.inj ((List.getElem?_eq_getElem hk).symm.trans (pad_get? hm))
theorem rdl_set {l : List UInt8} {k m : Nat} (hk : k < l.length) (hm : l.length = m) : (l.take k ++ List.replicate (m - k) 0).set k l[k] = l.take (k + 1) ++ List.replicate (m - (k + 1)) 0 := by
  rw [List.set_append_right _ _ (by simp; omega), List.length_take, Nat.min_eq_left (by omega), Nat.sub_self, show m - k = (m - (k + 1)) + 1 by omega, List.replicate_succ, List.set_cons_zero, List.take_succ_eq_append_getElem hk]
  simp only [List.append_assoc, List.singleton_append]
theorem rdl_skip {l : List UInt8} {k m : Nat} (hk : k < l.length) (hm : l.length = m) (h0 : l[k] = 0) : l.take k ++ List.replicate (m - k) 0 = l.take (k + 1) ++ List.replicate (m - (k + 1)) 0 := by
  rw [show m - k = (m - (k + 1)) + 1 by omega, List.replicate_succ, List.take_succ_eq_append_getElem hk, h0]
  simp only [List.append_assoc, List.singleton_append]
end Go.Proofs.YtfeonfihlleoeaaDoor
namespace Go.Proofs.YtfeonfihlleoeaaDoor
open Go.RowKit Go.WideShapes

def GrdRR (x : Int × Bool) (w : World) (e : Ending) (w' : World) : Prop := e = .returned (.tuple #[.bool x.2, .int .i64 x.1]) ∧ Below w.heap.size w w'
theorem GrdRR.mk {x : Int × Bool} {b : Bool} {e : Int} {w w' : World} (hx : x = (e, b)) (h : Below w.heap.size w w') : GrdRR x w (.returned (.tuple #[.bool b, .int .i64 e])) w' := by
  subst hx; exact ⟨rfl, h⟩
set_option maxRecDepth 100000 in
set_option maxHeartbeats 8000000 in
theorem rguard_any (A B : Nat → Prop) (v : Value) (o : ObD) (th : Bool) (k off n : Int) (nm : ByteArray) (oa : Option Addr) (oc : Nat) (d : List UInt8) (w : World) (hv : ObV A w v o) (ho : o.okl) (hd : RB B w (.slice oa d.length oc) d) (hk1 : 1 ≤ k) (hk2 : k ≤ 4) :
    Calls Tryd.prog 60 #[v, .bool th, opV k off n nm oa d.length oc] w (GrdRR (guardB o th ⟨k, off, n, nm, d⟩) w) := by
  obtain ⟨dv, kv, rfl, hdd, hkk⟩ := hv
  obtain ⟨da, dc, rfl⟩ := hdd.shape
  obtain ⟨ka, kc, rfl⟩ := hkk.shape
  have HOV : Hid (ObV A w _ o) := Lib.hid ⟨_, _, rfl, hdd, hkk⟩
  have HD := Lib.hid hd
  have hkl := ho.keys
  have HL := Lib.hid ho
  unfold opV
  clear hdd hkk hd ho
  obtain rfl | rfl | rfl | rfl : k = 1 ∨ k = 2 ∨ k = 3 ∨ k = 4 := by omega
  · clear hk1 hk2
    cases th with
    | true =>
      go_enter Tryd.func60, Tryd.ntmps60
      go_wp2
      go_ret2
      exact GrdRR.mk rfl (by ((repeat' (first | exact Below.refl _ _ | refine below_drewN ?_ _ | refine Below.drew ?_ | refine Below.alloc ?_ ?_ _ | refine Below.trans ?_ (Below.mono (by assumption) ?_))); all_goals (first | exact Nat.le_refl _ | exact Below.size (by assumption) | omega | (simp; done) | (simp; omega))))
    | false =>
      go_enter Tryd.func60, Tryd.ntmps60
      go_wp2
      go_ret2
      exact GrdRR.mk rfl (by ((repeat' (first | exact Below.refl _ _ | refine below_drewN ?_ _ | refine Below.drew ?_ | refine Below.alloc ?_ ?_ _ | refine Below.trans ?_ (Below.mono (by assumption) ?_))); all_goals (first | exact Nat.le_refl _ | exact Below.size (by assumption) | omega | (simp; done) | (simp; omega))))
  · clear hk1 hk2
    cases th with
    | true =>
      go_enter Tryd.func60, Tryd.ntmps60
      go_wp2
      go_ret2
      exact GrdRR.mk rfl (by ((repeat' (first | exact Below.refl _ _ | refine below_drewN ?_ _ | refine Below.drew ?_ | refine Below.alloc ?_ ?_ _ | refine Below.trans ?_ (Below.mono (by assumption) ?_))); all_goals (first | exact Nat.le_refl _ | exact Below.size (by assumption) | omega | (simp; done) | (simp; omega))))
    | false =>
      go_enter Tryd.func60, Tryd.ntmps60
      go_wp2
      go_ret2
      exact GrdRR.mk rfl (by ((repeat' (first | exact Below.refl _ _ | refine below_drewN ?_ _ | refine Below.drew ?_ | refine Below.alloc ?_ ?_ _ | refine Below.trans ?_ (Below.mono (by assumption) ?_))); all_goals (first | exact Nat.le_refl _ | exact Below.size (by assumption) | omega | (simp; done) | (simp; omega))))
  · clear hk1 hk2
    go_enter Tryd.func60, Tryd.ntmps60
    go_wp2_with fail
    refine (rget_any A _ o nm _ (HOV.out.ext (by ((repeat' (first | exact Below.refl _ _ | refine below_drewN ?_ _ | refine Below.drew ?_ | refine Below.alloc ?_ ?_ _ | refine Below.trans ?_ (Below.mono (by assumption) ?_))); all_goals (first | exact Nat.le_refl _ | exact Below.size (by assumption) | omega | (simp; done) | (simp; omega))))) (by omega)).mono ?_
    rintro e w1 ⟨a1, n1, c1, rfl, h1, hn1, hb1⟩
    have K1 : w1.heap[w.heap.size + 1]? = some (.cells #[.int .i64 3, .int .i64 off, .int .i64 n, .string nm, .slice oa d.length oc] 48 (0, 0)) := (hb1.block _ (by simp)).trans (heap_alloc2_new _ _ _)
    have HB : Hid (Below w.heap.size w w1) := Lib.hid (Below.trans (by ((repeat' (first | exact Below.refl _ _ | refine below_drewN ?_ _ | refine Below.drew ?_ | refine Below.alloc ?_ ?_ _ | refine Below.trans ?_ (Below.mono (by assumption) ?_))); all_goals (first | exact Nat.le_refl _ | exact Below.size (by assumption) | omega | (simp; done) | (simp; omega)))) (hb1.mono (by simp; try omega)))
    obtain ⟨z0, z1, z2, z3, z4⟩ := five_cells K1
    cases hg : getD o.keys nm with
    | none =>
      have HX : Hid (guardB o th ⟨3, off, n, nm, d⟩ = (92, false)) := by show guardB _ _ _ = _; simp [guardB, hg]
      rw [hg] at h1 hn1
      clear hb1 K1 hg h1 hn1
      simp only [Option.isSome]
      go_wp2
      go_ret2
      exact GrdRR.mk HX.out HB.out
    | some x =>
      have HX : Hid (guardB o th ⟨3, off, n, nm, d⟩ = if x = d then (0, true) else (92, false)) := by show guardB _ _ _ = _; simp [guardB, hg]
      rw [hg] at h1 hn1
      replace hn1 : n1 = x.length := hn1
      subst hn1
      replace h1 : RB (UpA A _) w1 (.slice a1 x.length c1) x := h1
      have s1 : (Go.convert 22 9 (.slice a1 x.length c1)).run Tryd.prog w1 = .ok (.string ⟨x.toArray⟩) w1 := cnv_bytes h1 _ (Below.refl _ _)
      have s2 : (Go.convert 22 9 (.slice oa d.length oc)).run Tryd.prog w1 = .ok (.string ⟨d.toArray⟩) w1 := cnv_bytes HD.out _ HB.out
      clear hb1 K1 hg h1
      simp only [Option.isSome]
      by_cases hx : x = d
      · have HXX := Lib.hid hx
        have q1 := eqBL x d
        rw [decide_eq_true hx] at q1
        have q2 : (x == d) = true := by simpa using hx
        clear hx
        go_wp2
        go_ret2
        exact GrdRR.mk (by rw [HX.out, if_pos HXX.out]) HB.out
      · have HXX := Lib.hid hx
        have q1 := eqBL x d
        rw [decide_eq_false hx] at q1
        have q2 : (x == d) = false := by simpa using hx
        clear hx
        go_wp2
        go_ret2
        exact GrdRR.mk (by rw [HX.out, if_neg HXX.out]) HB.out
  · clear hk1 hk2
    go_enter Tryd.func60, Tryd.ntmps60
    go_wp2
    go_ret2
    exact GrdRR.mk rfl (by ((repeat' (first | exact Below.refl _ _ | refine below_drewN ?_ _ | refine Below.drew ?_ | refine Below.alloc ?_ ?_ _ | refine Below.trans ?_ (Below.mono (by assumption) ?_))); all_goals (first | exact Nat.le_refl _ | exact Below.size (by assumption) | omega | (simp; done) | (simp; omega))))
/-- what a call that gives a key a value answers -/
def RKeyR (A : Nat → Prop) (o : ObD) (x : Option ObD) (w : World) (e : Ending) (w' : World) : Prop := ∃ dv kv, e = .returned (.tuple #[.agg #[dv, kv, .int .i64 (x.getD o).seq], .int .i64 (if x.isSome then 0 else 2)]) ∧ ObV (UpA A w) w' (.agg #[dv, kv, .int .i64 (x.getD o).seq]) (x.getD o) ∧ Below w.heap.size w w'
theorem ObV.cut {A : Nat → Prop} {w : World} {v : Value} {o : ObD} (h : ObV A w v o) : ObV (fun b => A b ∧ b < w.heap.size) w v o := h.weak fun _b hb h => ⟨h, hb⟩
theorem ObV.mono {A : Nat → Prop} {w w' : World} {v : Value} {o : ObD} (h : ObV A w v o) (hs : Same A w w') : ObV A w' v o := by
  obtain ⟨dv, kv, rfl, hd, hk⟩ := h
  exact ⟨dv, kv, rfl, hd.mono hs, hk.mono hs⟩
/-- what a callee handed back stays readable where a box of one's own is written -/
theorem ob_keep {A : Nat → Prop} {w wc w' : World} {r : Nat} {v : Value} {o : ObD} (h : ObV (UpA (fun b => A b ∧ b < w.heap.size) wc) w' v o) (hr1 : w.heap.size ≤ r) (hr2 : r < wc.heap.size) (x y z : Value) :
    ObV (UpA A w) (((w'.setCell ⟨r, 0, none⟩ x).setCell ⟨r, 1, none⟩ y).setCell ⟨r, 2, none⟩ z) v o := by
  refine ((h.weak (A' := fun b => UpA A w b ∧ b ≠ r) fun b _ hb => ?_).mono ⟨by simp [World.setCell], fun b hb _ => set3_ne _ _ _ _ _ hb.2⟩).weak fun b _ hb => hb.1
  rcases hb with hb | hb
  · exact ⟨.inl hb.1, by omega⟩
  · exact ⟨.inr (by omega), by omega⟩
theorem getD_has (ks : List KyD) (nm : ByteArray) : (getD ks nm).isSome = hasK ks nm := by
  unfold getD hasK
  rw [Option.isSome_map, List.isSome_find?]
theorem RKeyR.no {A : Nat → Prop} {o : ObD} {dv kv : Value} {x : Option ObD} {w w' : World} (hx : x = none) (h : ObV (UpA A w) w' (.agg #[dv, kv, .int .i64 o.seq]) o) (hb : Below w.heap.size w w') : RKeyR A o x w (.returned (.tuple #[.agg #[dv, kv, .int .i64 o.seq], .int .i64 2])) w' := by
  subst hx
  exact ⟨_, _, rfl, h, hb⟩
theorem RKeyR.ok {A : Nat → Prop} {o o' : ObD} {dv kv : Value} {x : Option ObD} {w w' : World} (hx : x = some o') (h : ObV (UpA A w) w' (.agg #[dv, kv, .int .i64 o'.seq]) o') (hb : Below w.heap.size w w') : RKeyR A o x w (.returned (.tuple #[.agg #[dv, kv, .int .i64 o'.seq], .int .i64 0])) w' := by
  subst hx
  exact ⟨_, _, rfl, h, hb⟩
theorem obv_shape {A : Nat → Prop} {w : World} {dv kv s : Value} {o : ObD} (h : ObV A w (.agg #[dv, kv, s]) o) : (∃ a c, dv = .slice a o.data.length c) ∧ (∃ a c, kv = .slice a o.keys.length c) := by
  obtain ⟨d, k, e, hd, hk⟩ := h
  simp at e
  obtain ⟨rfl, rfl, -⟩ := e
  exact ⟨hd.shape, hk.shape⟩
theorem results_cell2 {P : Program} {fn : Func} {p u1 : Tmp} {ty : TypeId} (h : fn.results = #[.cell p ty, .tmp u1]) (tmps : Array Value) (w : World) (g : Nat) (t : TypeId) (cs : Array Value) (fr : Nat × Nat) (d : TypeDesc)
    (hp : tmps.getD p undef = .pointer (some ⟨g, 0, none⟩)) (hg : w.heap[g]? = some (.cells cs t fr))
    (hu : P.underlying ty = some d) (hd : (match d with | .struct _ | .array _ _ => true | _ => false) = true) (hi : (P.info? ty).map (·.size) = some cs.size) :
    (results fn tmps).run P w = .ok (.tuple #[.agg cs, tmps.getD u1 undef]) w := by
  have hp' : tmps[p]?.getD undef = .pointer (some ⟨g, 0, none⟩) := by simpa using hp
  simp [results, h, hp', asAddr, run_loadVar_row w g t ty cs fr d hg hu hd hi]
end Go.Proofs.YtfeonfihlleoeaaDoor
