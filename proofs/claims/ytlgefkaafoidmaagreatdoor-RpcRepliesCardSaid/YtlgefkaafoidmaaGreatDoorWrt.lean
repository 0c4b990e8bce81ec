/- The walks of rpc's writer. -/
import Derived.Test.YtlgefkaafoidmaaGreatDoorGE
import Derived.Deep.DrawnRows
import Derived.Deep.RegionHeld3
namespace Go.Proofs.YtlgefkaafoidmaaGreatDoor
open Go.RowKit Go.WideShapes

theorem OB.shape3 {base : Nat} {w : World} {v : Value} {l : List UInt8} (h : OB base w v l) : ∃ a n c, v = .slice a n c := by
  obtain ⟨a, c, rfl⟩ := h.rb.shape
  exact ⟨_, _, _, rfl⟩
/-- a writer behind a pointer -/
structure IsWr (base : Nat) (w : World) (p : Nat) (l : List UInt8) : Prop where
  mk ::
  ex : ∃ v, w.heap[p]? = some (.cells #[v] 78 (0, 0)) ∧ RB (fun b => base ≤ b ∧ b ≠ p) w v l
  lo : base ≤ p
theorem IsWr.lt {base : Nat} {w : World} {p : Nat} {l : List UInt8} (h : IsWr base w p l) : p < w.heap.size := by
  obtain ⟨v, hb, _⟩ := h.ex
  exact (Array.getElem?_eq_some_iff.1 hb).1
theorem IsWr.ext {base : Nat} {w w' : World} {p : Nat} {l : List UInt8} (h : IsWr base w p l) (hb : Below w.heap.size w w') : IsWr base w' p l := by
  obtain ⟨v, h1, h2⟩ := h.ex
  exact ⟨⟨v, (hb.block _ h.lt).trans h1, h2.ext hb⟩, h.lo⟩
theorem setCell_blk1 {w : World} {p : Nat} {t : TypeId} {a v : Value} (h : w.heap[p]? = some (.cells #[a] t (0, 0))) : (w.setCell ⟨p, 0, none⟩ v).heap[p]? = some (.cells #[v] t (0, 0)) := by
  simp [World.setCell, Array.getElem?_modify, h]
/-- new bytes are stored into the writer -/
theorem IsWr.stored {base : Nat} {w w' : World} {p : Nat} {l l' : List UInt8} {v : Value} (h : IsWr base w p l) (hb : Below w.heap.size w w') (hv : OB w.heap.size w' v l') : IsWr base (w'.setCell ⟨p, 0, none⟩ v) p l' := by
  obtain ⟨u, h1, h2⟩ := h.ex
  have hlt := h.lt
  refine ⟨⟨v, setCell_blk1 ((hb.block _ hlt).trans h1), ?_⟩, h.lo⟩
  refine SlA.mono (SlA.weak hv.rb fun b hb' => ?_) (Same.setCell (Same.refl _ _) (fun h => h.2 rfl) _)
  have := h.lo
  exact ⟨by omega, by omega⟩
attribute [local go_sem ↓] Go.wp_at_zero Go.wp_at_succ
set_option maxRecDepth 100000 in
set_option maxHeartbeats 4000000 in
theorem wnum_any (base p s1 s2 W b off cap : Nat) (ns : List Nat) (l : List UInt8) (w : World) (h1 : 1 ≤ W) (h7 : W ≤ 7) (hn : ∀ n ∈ ns, n < 256 ^ W) (hns : ns.length ≤ 1000) (hl : l.length ≤ 500000) (hr : IsWr base w p l)
    (c1 : w.cell? ⟨s1, 0, none⟩ = some (.pointer (some ⟨p, 0, none⟩))) (c2 : w.cell? ⟨s2, 0, none⟩ = some (.int .i64 W)) (hp1 : s1 ≠ p) (hp2 : s2 ≠ p) (hpb : b ≠ p)
    (hc : ∀ (i : Nat) (hi : i < ns.length), w.cell? ⟨b, off + i, none⟩ = some (.int .i64 (ns[i] : Nat))) :
    Calls Tryz.prog 69 #[.slice (some ⟨b, off, none⟩) ns.length cap, .pointer (some ⟨s1, 0, none⟩), .pointer (some ⟨s2, 0, none⟩)] w fun e w' => e = .returned (.tuple #[]) ∧ IsWr base w' p (l ++ catB W ns) ∧ Fr (fun k => k = p) w w' := by
  have HR := Lib.hid hr
  have HN := Lib.hid hn
  have HC := Lib.hid hc
  have hl1 := World.block_lt_of_cell? w _ c1
  have hl2 := World.block_lt_of_cell? w _ c2
  have C1 := Lib.hid c1
  have C2 := Lib.hid c2
  simp only at hl1 hl2
  clear hr hn hc c1 c2
  go_enter Tryz.func69, Tryz.ntmps69
  go_wp2
  go_loopw [8] (fun q wr => ∃ k : Nat, k ≤ ns.length ∧ q = .int .i64 k ∧ IsWr base wr p (l ++ catB W (ns.take k)) ∧ Fr (fun k => k = p) w wr) (fun q _ => ns.length - (intOf q).toNat)
  case atStart => exact ⟨0, by omega, rfl, by simpa [catB] using HR.out, Fr.refl _ _⟩
  case round =>
    obtain ⟨k, hk, rfl, hr, hf⟩ := hrel
    obtain ⟨L, hL⟩ : ∃ L, L = l ++ catB W (ns.take k) := ⟨_, rfl⟩
    rw [← hL] at hr
    have HLL := Lib.hid hL
    have HK := Lib.hid hr
    have hll : L.length ≤ 1000000 := by
      have h3 : (ns.take k).length * W ≤ 1000 * 7 := Nat.mul_le_mul (by simp; omega) h7
      rw [hL, List.length_append, catB_length]
      omega
    clear hL
    have HF := Lib.hid hf
    obtain ⟨v, hb, hv⟩ := hr.ex
    obtain ⟨a, c, rfl⟩ := hv.shape
    have HV := Lib.hid hv
    have hpl := hr.lt
    obtain ⟨c0, f0⟩ := blk_cell (i := 0) hb
    simp at c0
    have d1 := (hf.cell (p := ⟨s1, 0, none⟩) hl1 hp1).trans C1.out
    have d2 := (hf.cell (p := ⟨s2, 0, none⟩) hl2 hp2).trans C2.out
    clear hr hv hb
    by_cases hlt : k < ns.length
    · have hcb := HC.out k hlt
      have hbl := World.block_lt_of_cell? w _ hcb
      have d3 := (hf.cell (p := ⟨b, off + k, none⟩) hbl hpb).trans hcb
      have HNk := Lib.hid (HN.out _ (List.getElem_mem hlt))
      have HS : Hid (l ++ catB W (ns.take (k + 1)) = L ++ be W ns[k]) := by
        show _ = _
        rw [catB_take W ns k hlt, HLL.out, List.append_assoc]
      clear hf hcb
      generalize ns[k] = n at *
      go_wp2
      go_region_with (go_at_call 70; refine (num_any W n h1 h7 HNk.out _ _ L _ (RB.ext HV.out (Below.refl _ _).drew) hll).mono ?_; rintro e w2 ⟨v2, rfl, ho, hb2⟩; obtain ⟨a2, n2, c2, rfl⟩ := ho.shape3; have e1 := cellExt hb2 d1; have e0 := cellExt hb2 c0; have g0 : w2.frozen? ⟨p, 0, none⟩ = false := (hb2.frozen (p := ⟨p, 0, none⟩) hpl).trans f0; have HO : Hid (OB wr.heap.size w2 _ _) := Lib.hid ho; have HB : Hid (Below wr.heap.size wr w2) := Lib.hid (((Below.refl _ wr).drew).trans hb2); clear ho hb2)
      all_goals
        go_wp2
        go_roundw
        case rel => exact ⟨k + 1, by omega, by go_num, by rw [HS.out]; exact HK.out.stored HB.out HO.out, HF.out.trans (Fr.setCell (S := fun k => k = p) (Fr.ext HB.out) (fun _ => rfl) _) fun _ _ h => h⟩
        case measure => simp [intOf]; omega
    · obtain rfl : k = ns.length := by omega
      go_wp2
      go_end0
      refine ⟨rfl, ?_, HF.out⟩
      have h := HK.out
      rw [HLL.out, List.take_length] at h
      exact h

/-- the writer's method value num(W): a closure over two cells -/
structure IsNum (w : World) (p W : Nat) (v : Value) : Prop where
  mk ::
  ex : ∃ s1 s2, v = .func (.func 69) #[] #[.pointer (some ⟨s1, 0, none⟩), .pointer (some ⟨s2, 0, none⟩)] ∧ w.cell? ⟨s1, 0, none⟩ = some (.pointer (some ⟨p, 0, none⟩)) ∧ w.cell? ⟨s2, 0, none⟩ = some (.int .i64 W) ∧ s1 ≠ p ∧ s2 ≠ p
set_option maxRecDepth 100000 in
theorem num_mk (p W : Nat) (w : World) (hp : p < w.heap.size) : Calls Tryz.prog 37 #[.pointer (some ⟨p, 0, none⟩), .int .i64 W] w fun e w' => ∃ s1 s2, e = .returned (.func (.func 69) #[] #[.pointer (some ⟨s1, 0, none⟩), .pointer (some ⟨s2, 0, none⟩)]) ∧ w'.cell? ⟨s1, 0, none⟩ = some (.pointer (some ⟨p, 0, none⟩)) ∧ w'.cell? ⟨s2, 0, none⟩ = some (.int .i64 W) ∧ s1 ≠ p ∧ s2 ≠ p ∧ s1 < w'.heap.size ∧ s2 < w'.heap.size ∧ Below w.heap.size w w' := by
  go_enter Tryz.func37, Tryz.ntmps37
  go_wp2
  go_ret
  refine ⟨_, _, rfl, ?_, ?_, ?_, ?_, ?_, ?_, by ((repeat' (first | exact Below.refl _ _ | refine below_drewN ?_ _ | refine Below.drew ?_ | refine Below.alloc ?_ ?_ _ | refine Below.trans ?_ (Below.mono (by assumption) ?_))); all_goals (first | exact Nat.le_refl _ | exact Below.size (by assumption) | omega | (simp; done) | (simp; omega)))⟩
  all_goals first | (simp; done) | omega | (simp; omega)
set_option maxRecDepth 100000 in
set_option maxHeartbeats 800000 in
theorem wblob_any (base p : Nat) (A : Nat → Prop) (x : Value) (l m : List UInt8) (w : World) (hr : IsWr base w p l) (hx : RB A w x m) (hl : l.length ≤ 500000) (hm : m.length ≤ 65535) :
    Calls Tryz.prog 39 #[.pointer (some ⟨p, 0, none⟩), x] w fun e w' => e = .returned (.tuple #[]) ∧ IsWr base w' p (l ++ be 2 m.length ++ m) ∧ Fr (fun k => k = p) w w' := by
  have HR := Lib.hid hr
  have HX := Lib.hid hx
  have hpl := hr.lt
  obtain ⟨v, hb, hv⟩ := hr.ex
  obtain ⟨a, c, rfl⟩ := hv.shape
  have HV := Lib.hid hv
  obtain ⟨c0, f0⟩ := blk_cell (i := 0) hb
  simp at c0
  clear hr hx hb hv
  go_enter Tryz.func39, Tryz.ntmps39
  go_wp2_with fail
  refine (blob_any _ A _ _ l m _ HV.out HX.out hl hm).mono ?_
  rintro e w2 ⟨v2, rfl, ho, hb2⟩
  obtain ⟨a2, n2, c2, rfl⟩ := ho.shape3
  have e0 := cellExt hb2 c0
  have g0 : w2.frozen? ⟨p, 0, none⟩ = false := (hb2.frozen (p := ⟨p, 0, none⟩) hpl).trans f0
  have HO := Lib.hid ho
  have HB := Lib.hid hb2
  clear ho hb2
  go_wp2
  go_end0
  exact ⟨rfl, HR.out.stored HB.out HO.out, Fr.setCell (S := fun k => k = p) (Fr.ext HB.out) (fun _ => rfl) _⟩
set_option maxRecDepth 100000 in
set_option maxHeartbeats 800000 in
theorem framed_any (base p k : Nat) (l : List UInt8) (w : World) (hr : IsWr base w p l) (hk : k < 256) (hT : TabW w) (hg0 : 0 < w.heap.size) (hl : l.length ≤ 8192) :
    Calls Tryz.prog 40 #[.pointer (some ⟨p, 0, none⟩), .int .i64 k] w (NewB w (frm k l)) := by
  have hpl := hr.lt
  obtain ⟨v, hb, hv⟩ := hr.ex
  obtain ⟨a, c, rfl⟩ := hv.shape
  have HV := Lib.hid hv
  have HT := Lib.hid hT
  have HG : Hid (0 < w.heap.size) := hg0
  obtain ⟨c0, f0⟩ := blk_cell (i := 0) hb
  simp at c0
  clear hr hb hv hT hg0
  go_enter Tryz.func40, Tryz.ntmps40
  go_wp2_with fail
  refine (make_any _ k _ l _ hk HV.out HT.out HG.out hl).mono ?_
  rintro e w2 ⟨v2, rfl, ho, hb2⟩
  have HO := Lib.hid ho
  have HB := Lib.hid hb2
  clear ho hb2
  go_wp2
  go_ret
  exact ⟨_, rfl, HO.out, HB.out⟩
set_option maxRecDepth 100000 in
theorem framed_long (base p k : Nat) (l : List UInt8) (w : World) (hr : IsWr base w p l) (hk : k < 256) (hl : 8192 < l.length) :
    Calls Tryz.prog 40 #[.pointer (some ⟨p, 0, none⟩), .int .i64 k] w (NewB w []) := by
  have hpl := hr.lt
  obtain ⟨v, hb, hv⟩ := hr.ex
  obtain ⟨a, c, rfl⟩ := hv.shape
  have HV := Lib.hid hv
  obtain ⟨c0, f0⟩ := blk_cell (i := 0) hb
  simp at c0
  clear hr hb hv
  go_enter Tryz.func40, Tryz.ntmps40
  go_wp2_with fail
  refine (make_long _ k _ l _ hk HV.out hl).mono ?_
  rintro e w2 ⟨rfl, rfl⟩
  go_wp2
  go_ret
  exact ⟨_, rfl, OB.nil _ _, Below.refl _ _⟩
end Go.Proofs.YtlgefkaafoidmaaGreatDoor
