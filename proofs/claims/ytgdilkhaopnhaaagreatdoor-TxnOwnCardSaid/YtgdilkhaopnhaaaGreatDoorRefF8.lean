/- The walk of terrazzoref08.data: a write. -/
import Derived.Test.YtgdilkhaopnhaaaGreatDoorRefC8
import Derived.Test.YtgdilkhaopnhaaaGreatDoorMA
import Derived.Test.YtgdilkhaopnhaaaGreatDoorMG
namespace Go.Proofs.YtgdilkhaopnhaaaGreatDoor
open Go.RowKit Go.WideShapes

def vlen : Value → Nat
  | .slice _ n _ => n
  | _ => 0
/-- whether a place may be: the ways -/
theorem spot_ways (off n : Int) :
    (spotB off n = true ∧ 0 ≤ off ∧ off ≤ 64 ∧ 0 ≤ n ∧ n ≤ 64 ∧ off + n ≤ 64) ∨ (spotB off n = false ∧ off < 0) ∨ (spotB off n = false ∧ 0 ≤ off ∧ 64 < off) ∨ (spotB off n = false ∧ 0 ≤ off ∧ off ≤ 64 ∧ n < 0) ∨
    (spotB off n = false ∧ 0 ≤ off ∧ off ≤ 64 ∧ 0 ≤ n ∧ 64 < n) ∨ (spotB off n = false ∧ 0 ≤ off ∧ off ≤ 64 ∧ 0 ≤ n ∧ n ≤ 64 ∧ 64 < off + n) := by
  cases h : spotB off n with
  | true =>
    simp only [spotB, Bool.and_eq_true, decide_eq_true_eq] at h
    exact .inl ⟨rfl, by omega, by omega, by omega, by omega, by omega⟩
  | false =>
    by_cases h1 : off < 0
    · exact .inr (.inl ⟨rfl, h1⟩)
    · by_cases h2 : 64 < off
      · exact .inr (.inr (.inl ⟨rfl, by omega, h2⟩))
      · by_cases h3 : n < 0
        · exact .inr (.inr (.inr (.inl ⟨rfl, by omega, by omega, h3⟩)))
        · by_cases h4 : 64 < n
          · exact .inr (.inr (.inr (.inr (.inl ⟨rfl, by omega, by omega, by omega, h4⟩))))
          · refine .inr (.inr (.inr (.inr (.inr ⟨rfl, by omega, by omega, by omega, by omega, ?_⟩))))
            by_cases h5 : 64 < off + n
            · exact h5
            · exfalso
              have : spotB off n = true := by
                simp only [spotB, Bool.and_eq_true, decide_eq_true_eq]
                omega
              rw [this] at h
              cases h
theorem GetRR.ok {A : Nat → Prop} {base n c : Nat} {a : Option Addr} {l : List UInt8} {w w' : World} (hle : w.heap.size ≤ base) (h : OB base w' (.slice a n c) l) (hb : Below w.heap.size w w') : GetRR A (some l) w (.returned (.tuple #[.slice a n c, .bool true])) w' := by
  refine ⟨_, _, _, rfl, h.rb.weak fun _ _ h => .inr (Nat.le_trans hle h), ?_, hb⟩
  obtain ⟨a', c', e⟩ := h.rb.shape
  simp only [Value.slice.injEq] at e
  exact e.2.1
theorem five_cells {w : World} {p : Nat} {a b c d e : Value} {t : TypeId} (h : w.heap[p]? = some (.cells #[a, b, c, d, e] t (0, 0))) :
    w.cell? ⟨p, 0, none⟩ = some a ∧ w.cell? ⟨p, 1, none⟩ = some b ∧ w.cell? ⟨p, 2, none⟩ = some c ∧ w.cell? ⟨p, 3, none⟩ = some d ∧ w.cell? ⟨p, 4, none⟩ = some e :=
  ⟨(blk_cell h).1, (blk_cell h).1, (blk_cell h).1, (blk_cell h).1, (blk_cell h).1⟩
theorem GetRR.no {A : Nat → Prop} {w w' : World} (hb : Below w.heap.size w w') : GetRR A none w (.returned (.tuple #[.slice none 0 0, .bool false])) w' := ⟨_, _, _, rfl, RB.nil _ _, rfl, hb⟩
theorem mixW_set (D x : List UInt8) (f k : Nat) (hk : k < x.length) (hD : f + x.length ≤ D.length) : (D.take f ++ x.take k ++ D.drop (f + k)).set (f + k) x[k] = D.take f ++ x.take (k + 1) ++ D.drop (f + (k + 1)) := by
  have h1 : (D.take f ++ x.take k).length = f + k := by simp; omega
  rw [List.set_append_right _ _ (by omega), h1, Nat.sub_self, List.drop_eq_getElem_cons (by omega : f + k < D.length), List.set_cons_zero, List.take_succ_eq_append_getElem hk, Nat.add_assoc]
  simp only [List.append_assoc, List.singleton_append]
set_option maxRecDepth 100000 in
set_option maxHeartbeats 8000000 in
theorem rdata_write (A B : Nat → Prop) (da : Option Addr) (dc : Nat) (d : List UInt8) (off n : Int) (nm : ByteArray) (oa : Option Addr) (oc : Nat) (x : List UInt8) (w : World)
    (hd : RB A w (.slice da d.length dc) d) (hx : RB B w (.slice oa x.length oc) x) (hl : d.length ≤ 1000) (hxl : x.length ≤ 50000) :
    Calls Tryz.prog 57 #[.slice da d.length dc, opV 5 off n nm oa x.length oc] w (GetRR A (if spotB off x.length then some (writeD d off.toNat x) else none) w) := by
  have HD := Lib.hid hd
  have HX := Lib.hid hx
  unfold opV
  clear hd hx
  rcases spot_ways off x.length with ⟨hs, h1, h2, h3, h4, h5⟩ | ⟨hs, h1⟩ | ⟨hs, h1, h2⟩ | ⟨hs, h1, h2, h3⟩ | ⟨hs, h1, h2, h3, h4⟩ | ⟨hs, h1, h2, h3, h4, h5⟩
  case inr.inr.inr.inl => omega
  case inr.inl | inr.inr.inl | inr.inr.inr.inr.inl | inr.inr.inr.inr.inr =>
    rw [hs]
    clear hs
    go_enter Tryz.func57, Tryz.ntmps57
    go_wp2_with (first | (at_builtin; refine wpList_appB _ rfl _ _ rfl (w.heap.size + 1) _ [] (by rfl) (OB.nil _ _) A _ d (by rfl) (RB.ext HD.out ((Below.refl _ _).alloc (Nat.le_refl _) _)) (by simp; omega) (by simp) ?_; intro v1 w1 ho1 hb1; rw [List.nil_append] at ho1; obtain ⟨va1, vc1, rfl⟩ := ho1.rb.shape; have hcap1 := RB.capl ho1.rb; skip; have K1 := (hb1.block _ (Nat.lt_succ_self _)).trans (heap_alloc_new w _); obtain ⟨z0, z1, z2, z3, z4⟩ := five_cells K1; have HK1 := Lib.hid K1; have HO1 := Lib.hid ho1; have HW1 := Lib.hid (((Below.refl _ w).alloc (Nat.le_refl _) _).trans (hb1.mono (by simp))); have HB1 := Lib.hid hb1; clear ho1 hb1 K1) | go_in)
    go_wp2
    go_ret2
    exact GetRR.no HW1.out
  obtain ⟨f, rfl⟩ : ∃ f : Nat, off = f := ⟨off.toNat, by omega⟩
  rw [hs, if_pos rfl]
  have HR : Hid (writeD d (f : Int).toNat x = ((d ++ List.replicate (f + x.length - d.length) 0).take f ++ x ++ (d ++ List.replicate (f + x.length - d.length) (0 : UInt8)).drop (f + x.length))) := Lib.hid (write_eq d x f).symm
  generalize writeD d (f : Int).toNat x = R at *
  clear hs
  go_enter Tryz.func57, Tryz.ntmps57
  go_wp2_with (first | (at_builtin; refine wpList_appB _ rfl _ _ rfl (w.heap.size + 1) _ [] (by rfl) (OB.nil _ _) A _ d (by rfl) (RB.ext HD.out ((Below.refl _ _).alloc (Nat.le_refl _) _)) (by simp; omega) (by simp) ?_; intro v1 w1 ho1 hb1; rw [List.nil_append] at ho1; obtain ⟨va1, vc1, rfl⟩ := ho1.rb.shape; have hcap1 := RB.capl ho1.rb; skip; have K1 := (hb1.block _ (Nat.lt_succ_self _)).trans (heap_alloc_new w _); obtain ⟨z0, z1, z2, z3, z4⟩ := five_cells K1; have HK1 := Lib.hid K1; have HO1 := Lib.hid ho1; have HW1 := Lib.hid (((Below.refl _ w).alloc (Nat.le_refl _) _).trans (hb1.mono (by simp))); have HB1 := Lib.hid hb1; clear ho1 hb1 K1) | go_in)
  go_wp2
  obtain ⟨b1, hb1e⟩ : ∃ b1, b1 = w.heap.size + 1 := ⟨_, rfl⟩
  have HBE := Lib.hid hb1e
  rw [← hb1e] at HO1
  have hb1s : b1 ≤ w1.heap.size := by have := (Array.getElem?_eq_some_iff.1 HK1.out).1; omega
  clear hb1e HB1 z0 z1 z2 z3 z4
  go_loopw [6] (fun q wr => ∃ t, t ≤ f + x.length - d.length ∧ OB b1 wr q (d ++ List.replicate t 0) ∧ Below b1 w1 wr) (fun q _ => (f + x.length) - vlen q)
  case atStart => exact ⟨0, Nat.zero_le _, by simpa using HO1.out, Below.refl _ _⟩
  case round =>
    obtain ⟨t, ht, hor, hbr⟩ := hrel
    have HOR := Lib.hid hor
    have HBR := Lib.hid hbr
    have hbs : b1 ≤ wr.heap.size := Nat.le_trans hb1s hbr.size
    have K2 := (hbr.block w.heap.size (by have := HBE.out; omega)).trans HK1.out
    have HK2 := Lib.hid K2
    obtain ⟨z0, z1, z2, z3, z4⟩ := five_cells K2
    obtain ⟨ga, gc, e⟩ := hor.rb.shape
    rw [List.length_append, List.length_replicate] at e
    subst e
    clear hor hbr K2
    by_cases hlt : d.length + t < f + x.length
    · have hlt' : ((d.length : Int) + t) < f + x.length := by omega
      go_wp2_with (first | (at_builtin; refine wpList_pushB _ rfl _ _ rfl b1 _ (d ++ List.replicate t 0) (by rfl) HOR.out [.int .u8 0] _ 0 rfl (by rfl) (by simp; omega) hbs ?_; intro v2 w2 ho2 hb2) | go_in)
      have HO2 := Lib.hid ho2
      have HB2 := Lib.hid (HBR.out.trans hb2)
      obtain ⟨ga2, gc2, e2⟩ := ho2.rb.shape
      clear ho2 hb2
      go_roundw
      case rel => exact ⟨t + 1, by omega, by have h := HO2.out; rw [List.append_assoc] at h; rw [List.replicate_succ']; exact h, HB2.out⟩
      case measure => rw [e2]; simp [vlen]; omega
    · obtain ⟨D, hD⟩ : ∃ D, D = d ++ List.replicate t (0 : UInt8) := ⟨_, rfl⟩
      obtain ⟨L, hL⟩ : ∃ L, L = d.length + t := ⟨_, rfl⟩
      have HDL : Hid (D.length = L) := Lib.hid (by rw [hD, hL]; simp)
      have HRD : Hid (R = D.take f ++ x ++ D.drop (f + x.length)) := Lib.hid (by rw [HR.out, hD, show f + x.length - d.length = t by omega])
      have hfx : f + x.length ≤ L := by omega
      rw [← hD, ← hL] at HOR
      rw [← hL]
      obtain ⟨w2, hw2⟩ : ∃ w2, w2 = wr := ⟨_, rfl⟩
      subst hw2
      have hLs : L ≤ 2000 := by omega
      clear ht hlt hD hL HR HO1
      have hnl : ¬ (L : Int) < (f : Int) + x.length := by omega
      go_wp2
      go_loopw [9] (fun q wr => ∃ k : Nat, k ≤ x.length ∧ q = .int .i64 k ∧ OB b1 wr (.slice ga L gc) (D.take f ++ x.take k ++ D.drop (f + k)) ∧ Below b1 w2 wr) (fun q _ => x.length - (intOf q).toNat)
      case atStart => exact ⟨0, Nat.zero_le _, rfl, by simpa using HOR.out, Below.refl _ _⟩
      case round =>
        obtain ⟨k, hk, rfl, hor3, hbr3⟩ := hrel
        have HO3 := Lib.hid hor3
        have HB3 := Lib.hid hbr3
        have hbs3 : b1 ≤ wr.heap.size := Nat.le_trans hbs hbr3.size
        have K3 := (hbr3.block w.heap.size (by have := HBE.out; omega)).trans HK2.out
        have HK3 := Lib.hid K3
        clear z0 z1 z2 z3 z4
        obtain ⟨z0, z1, z2, z3, z4⟩ := five_cells K3
        clear hor3 hbr3 K3
        by_cases hlt : k < x.length
        · have hll : 0 < (D.take f ++ x.take k ++ D.drop (f + k)).length := by have := HDL.out; simp; omega
          obtain ⟨g, c', e, hg1, hg2, -, hcc, hff⟩ := HO3.out.lies hll
          simp only [Value.slice.injEq] at e
          obtain ⟨rfl, -, -⟩ := e
          have hwb : w.heap.size ≤ b1 := by have := HBE.out; omega
          have HXR := Lib.hid (RB.ext HX.out ((HW1.out.trans (HBR.out.mono hwb)).trans (HB3.out.mono hwb)))
          obtain ⟨bx, ofs, rfl, hbx, -, hxc, hxx⟩ := HXR.out.lie (by omega)
          have xk : wr.cell? ⟨bx, ofs + k, none⟩ = some (.int .u8 x[k].toNat) := (hxx k hlt).trans (bv_at hlt)
          have yk : wr.cell? ⟨g, f + k, none⟩ = some (.int .u8 ((D.take f ++ x.take k ++ D.drop (f + k))[f + k]'(by have := HDL.out; simp; omega)).toNat) := (hcc (f + k) (by have := HDL.out; simp; omega)).trans (bv_at _)
          have fk := hff (f + k)
          have HS3 := Lib.hid (HO3.out.set (f + k) x[k])
          rw [mixW_set D x f k hlt (by have := HDL.out; omega)] at HS3
          have HB4 : Hid (Below b1 w2 (wr.setCell ⟨g, f + k, none⟩ (bv x[k]))) := Lib.hid (HB3.out.setCell (show b1 ≤ g from hg1) _)
          have hfk : (f : Int) + k < L := by omega
          generalize (D.take f ++ x.take k ++ D.drop (f + k))[f + k]'(by have := HDL.out; simp; omega) = y at *
          simp only [bv] at HS3 HB4
          clear hcc hff hxx hll HO3
          go_wp2
          go_roundw
          case rel => exact ⟨k + 1, by omega, by go_num, HS3.out, HB4.out⟩
          case measure => simp [intOf]; omega
        · obtain rfl : k = x.length := by omega
          have HO4 : Hid (OB b1 wr (.slice ga L gc) R) := Lib.hid (by have h := HO3.out; rw [List.take_length, ← HRD.out] at h; exact h)
          have hwb : w.heap.size ≤ b1 := by have := HBE.out; omega
          have HW4 := Lib.hid ((HW1.out.trans (HBR.out.mono hwb)).trans (HB3.out.mono hwb))
          obtain ⟨w4, hw4⟩ : ∃ w4, w4 = wr := ⟨_, rfl⟩
          subst hw4
          clear HO3 HB3 hbs3 hlt hk HK3
          rcases Nat.eq_zero_or_pos x.length with h0 | hp
          · have hq0 : ((x.length : Int) == 0) = true := beq_iff_eq.2 (by omega)
            have hq1 : (x.length == 0) = true := beq_iff_eq.2 (by omega)
            have hq2 : decide (x.length = 0) = true := decide_eq_true (by omega)
            have hfl : ¬ (L : Int) < f := by omega
            clear h0
            go_wp2
            go_loopw [6] (fun q wr => q = .slice ga L gc ∧ wr = w4) (fun _ _ => 0)
            case atStart => exact ⟨rfl, rfl⟩
            case round =>
              obtain ⟨rfl, rfl⟩ := hrel
              go_wp2
              go_ret2
              exact GetRR.ok hwb HO4.out HW4.out
          · have hq0 : ((x.length : Int) == 0) = false := beq_eq_false_iff_ne.2 (by omega)
            have hq1 : (x.length == 0) = false := beq_eq_false_iff_ne.2 (by omega)
            have hq2 : decide (x.length = 0) = false := decide_eq_false (by omega)
            clear hp
            go_wp2
            go_ret2
            exact GetRR.ok hwb HO4.out HW4.out
end Go.Proofs.YtgdilkhaopnhaaaGreatDoor
