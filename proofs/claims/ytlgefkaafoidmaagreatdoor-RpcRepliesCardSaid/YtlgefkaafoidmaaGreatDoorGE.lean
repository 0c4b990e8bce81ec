/- The walks of wire.Reader's methods. The walks of wire.Reader's Num, Blob, Left, Err, End; wire.Read. Requests as bytes: the plain law. No program is named. -/
import Derived.Test.YtlgefkaafoidmaaGreatDoorGD
import Derived.Laws.CopyOwn
import Derived.Laws.MakeOwn
import Derived.OwnWalk
import Derived.Test.YtlgefkaafoidmaaGreatDoorGC
namespace Go.Proofs.YtlgefkaafoidmaaGreatDoor
open Go.RowKit Go.WideShapes

/-- a reader behind a pointer: its bytes lie in blocks of A -/
structure IsRd (A : Nat → Prop) (w : World) (p : Nat) (r : Rd) : Prop where
  mk ::
  ex : ∃ v, w.heap[p]? = some (.cells #[v, .int .i64 (r.e : Nat)] 117 (0, 0)) ∧ RB A w v r.l
  apart : ¬ A p
theorem IsRd.lt {A : Nat → Prop} {w : World} {p : Nat} {r : Rd} (h : IsRd A w p r) : p < w.heap.size := by
  obtain ⟨v, hb, _⟩ := h.ex
  exact (Array.getElem?_eq_some_iff.1 hb).1
theorem IsRd.ext {A : Nat → Prop} {w w' : World} {p : Nat} {r : Rd} (h : IsRd A w p r) (hb : Below w.heap.size w w') : IsRd A w' p r := by
  obtain ⟨v, h1, h2⟩ := h.ex
  exact ⟨⟨v, (hb.block _ h.lt).trans h1, h2.ext hb⟩, h.apart⟩
/-- where nothing of A or the reader's block has turned -/
theorem IsRd.same {A B : Nat → Prop} {w w' : World} {p : Nat} {r : Rd} (h : IsRd A w p r) (hs : Same B w w') (hB : B p) (hA : ∀ b, A b → B b) : IsRd A w' p r := by
  obtain ⟨v, h1, h2⟩ := h.ex
  exact ⟨⟨v, (hs.block _ hB h.lt).trans h1, SlA.mono h2 (hs.weak hA)⟩, h.apart⟩
theorem make_bytes (n : Nat) (hn : n ≤ 1000000) (W : World) : (Instr.makeSlice 27 (.int .i64 (n : Int)) (.int .i64 (n : Int))).run Tryz.prog W = .ok (.slice (some ⟨W.heap.size, 0, none⟩) n n) (W.alloc (.cells (List.replicate n (Value.int .u8 0)).toArray 5)) := by
  obtain ⟨i0, hi, hz0, hz1, hz2⟩ := info_parts infoByte
  have h := run_make (P := Tryz.prog) W 27 5 i0 (.int .u8 0) Tryz.underlying27 hi hz0 .i64 .i64 n n (by omega) (by omega) (by rw [hz2]; omega) (by omega)
  have e : madeCells (Value.int .u8 0).cells n = (List.replicate n (Value.int .u8 0)).toArray := by
    apply Array.ext
    · simp [madeCells]
    · intro i h1 h2
      simp [madeCells, Value.cells, Nat.mod_one]
  rw [h, hz1]
  simp only [Int.toNat_natCast, Nat.mul_one]
  rw [e]

set_option maxRecDepth 100000 in
set_option maxHeartbeats 800000 in
theorem fail_any (A : Nat → Prop) (p : Nat) (r : Rd) (x : Nat) (w : World) (h : IsRd A w p r) (hx : x < 1000) (he : r.e < 1000) :
    Calls Tryz.prog 47 #[.pointer (some ⟨p, 0, none⟩), .int .i64 x] w fun e w' => e = .returned (.tuple #[]) ∧ IsRd A w' p (r.fail x) ∧ Fr (fun k => k = p) w w' := by
  obtain ⟨v, hb, hv⟩ := h.ex
  have HA := Lib.hid h.apart
  have hpl := h.lt
  have HV := Lib.hid hv
  obtain ⟨c0, f0⟩ := blk_cell (i := 0) hb
  obtain ⟨c1, f1⟩ := blk_cell (i := 1) hb
  simp at c0 c1
  have HB := Lib.hid hb
  clear h hv hb
  by_cases h0 : r.e = 0
  · by_cases h1 : x = 0
    · have HF : Hid (r.fail x = r) := if_neg (fun h => h.2 h1)
      have t1 : ((r.e : Int) == 0) = true := by simp [h0]
      have t2 : ((x : Int) != 0) = false := by simp [h1]
      clear h0 h1
      go_enter Tryz.func47, Tryz.ntmps47
      go_wp2
      go_end0
      rw [HF.out]
      exact ⟨rfl, ⟨⟨v, HB.out, HV.out⟩, HA.out⟩, Fr.refl _ _⟩
    · have HF : Hid (r.fail x = ⟨[], x⟩) := if_pos ⟨h0, h1⟩
      have t1 : ((r.e : Int) == 0) = true := by simp [h0]
      have t2 : ((x : Int) != 0) = true := by simp [h1]
      clear h0 h1
      go_enter Tryz.func47, Tryz.ntmps47
      go_wp2
      go_end0
      rw [HF.out]
      refine ⟨rfl, ⟨⟨.slice none 0 0, ?_, RB.nil _ _⟩, HA.out⟩, ?_⟩
      · have := HB.out
        simp [World.setCell, Array.getElem?_modify, this]
      · exact Fr.setCell (S := fun k => k = p) (a := ⟨p, 0, none⟩) (Fr.setCell (S := fun k => k = p) (a := ⟨p, 1, none⟩) (Fr.refl _ _) (fun _ => rfl) _) (fun _ => rfl) _
  · have HF : Hid (r.fail x = r) := if_neg (fun h => h0 h.1)
    have t1 : ((r.e : Int) == 0) = false := by simp [h0]
    clear h0
    go_enter Tryz.func47, Tryz.ntmps47
    go_wp2
    go_end0
    rw [HF.out]
    exact ⟨rfl, ⟨⟨v, HB.out, HV.out⟩, HA.out⟩, Fr.refl _ _⟩

def failV (p : Nat) : Value := .func (.func 47) #[.pointer (some ⟨p, 0, none⟩)] #[]
/-- what a method that takes bytes leaves -/
def TakeP (A : Nat → Prop) (p : Nat) (w : World) (x : List UInt8 × Rd) (e : Ending) (w' : World) : Prop :=
  ∃ v, e = .returned v ∧ RB (fun b => w.heap.size ≤ b) w' v x.1 ∧ IsRd A w' p x.2 ∧ Fr (fun k => k = p) w w'
theorem splice_full (n : Nat) (z : Value) (cs : List Value) (h : cs.length = n) : splice (List.replicate n z) 0 cs = cs := by
  unfold splice
  rw [List.take_zero, List.nil_append, List.drop_of_length_le (by simp; omega), List.append_nil]
theorem setCell_blk {w : World} {p : Nat} {t : TypeId} {a b v : Value} (h : w.heap[p]? = some (.cells #[a, b] t (0, 0))) : (w.setCell ⟨p, 0, none⟩ v).heap[p]? = some (.cells #[v, b] t (0, 0)) := by
  simp [World.setCell, Array.getElem?_modify, h]
set_option maxRecDepth 100000 in
set_option maxHeartbeats 1600000 in
theorem take_any (A : Nat → Prop) (p n : Nat) (r : Rd) (w : World) (h : IsRd A w p r) (hn : n ≤ 100000) (hl : r.l.length ≤ 100000) (he : r.e < 1000) :
    Calls Tryz.prog 58 #[.pointer (some ⟨p, 0, none⟩), .int .i64 n, .func (.func 47) #[.pointer (some ⟨p, 0, none⟩)] #[]] w (TakeP A p w (r.take n)) := by
  obtain ⟨v, hb, hv⟩ := h.ex
  have HA := Lib.hid h.apart
  have hpl := h.lt
  have HH := Lib.hid h
  obtain ⟨a, c, rfl⟩ := hv.shape
  have HV := Lib.hid hv
  have hcap := hv.cutAll
  obtain ⟨c0, f0⟩ := blk_cell (i := 0) hb
  obtain ⟨c1, f1⟩ := blk_cell (i := 1) hb
  simp at c0 c1
  have HB := Lib.hid hb
  clear h hv hb
  by_cases h0 : r.e = 0
  · have t1 : ((r.e : Int) != 0) = false := by simp [h0]
    rcases Nat.lt_or_ge r.l.length n with h1 | h1
    · have HF : Hid (r.take n = ([], r.fail 10)) := by
        show r.take n = _
        unfold Rd.take Rd.fail
        rw [if_neg (fun h => h h0), if_pos h1, if_pos ⟨h0, by decide⟩]
      clear h0
      go_enter Tryz.func58, Tryz.ntmps58
      go_wp2_with fail
      refine (fail_any A p r 10 _ HH.out (by omega) he).mono ?_
      rintro e w1 ⟨rfl, hr1, hf1⟩
      have HR1 := Lib.hid hr1
      have HF1 := Lib.hid hf1
      clear hr1 hf1 c0 c1 f0 f1
      go_wp2
      go_ret
      rw [HF.out]
      exact ⟨_, rfl, RB.nil _ _, HR1.out, HF1.out⟩
    · have HF : Hid (r.take n = (r.l.take n, ⟨r.l.drop n, 0⟩)) := by
        show r.take n = _
        unfold Rd.take
        rw [if_neg (fun h => h h0), if_neg (by omega)]
      have hmk := fun W => make_bytes n (by omega) W
      obtain ⟨X, hX⟩ : ∃ X, X = (r.l.take n).map bv := ⟨_, rfl⟩
      have hXl : X.length = n := by rw [hX]; simp; omega
      have HXl := Lib.hid hXl
      have HX := Lib.hid hX
      have HXc : Hid (∀ b off, a = some ⟨b, off, none⟩ → ∀ j u, X[j]? = some u → w.cell? ⟨b, off + j, none⟩ = some u ∧ b < w.heap.size) := by
        rintro b off rfl j u hj
        have hjn : j < n := by rw [← hXl]; exact (List.getElem?_eq_some_iff.1 hj).1
        obtain ⟨b', off', e, hbl, -, hc⟩ := HV.out.cell (k := j) (by omega)
        simp only [Option.some.injEq, Addr.mk.injEq] at e
        obtain ⟨rfl, rfl, -⟩ := e
        refine ⟨?_, hbl⟩
        have hx2 : X[j]? = some (Value.int .u8 (r.l[j]'(by omega)).toNat) := by
          refine (congrArg (fun Y : List Value => Y[j]?) hX).trans ?_
          show ((r.l.take n).map bv)[j]? = _
          rw [List.getElem?_map, List.getElem?_take, if_pos hjn, List.getElem?_eq_getElem (by omega)]
          rfl
        rw [hc, ← hj, hx2]
      have hX1 : Hid (∀ u ∈ X, u.oneCell' = true) := by
        show ∀ u ∈ X, _
        rw [hX]
        exact one_bytes _
      have hn8x : (Tryz.prog.info? 5).map (·.size) = some 1 := by kernel_rfl
      have hn8 := Lib.hid hn8x
      clear hn8x
      have hE : Hid (r = ⟨r.l, 0⟩) := by
        show r = _
        cases r
        simp only at h0
        rw [h0]
      have H0 := Lib.hid h0
      clear h0 hX hXl
      by_cases hcn : c = n
      · obtain rfl : c = r.l.length := by omega
        have HD : Hid (r.l.drop n = []) := List.drop_of_length_le (by omega)
        obtain rfl := hcn
        have HVz : Hid (RB A w (.slice a 0 0) []) := by
          exact RB.zero _ _ _
        go_enter Tryz.func58, Tryz.ntmps58
        go_wp2_with (first | (with_reducible refine wpList_copy_splice rfl (.tmp 28) (.tmp 32) 27 27 rfl 5 Tryz.underlying27 hn8.out _ _ _ _ _ _ rfl rfl w.heap.size 0 (List.replicate r.l.length (.int .u8 0)) 5 (heap_alloc_new w _) X ?k1 ?k2 ?k3 hX1.out w.heap.size w ?k4 (Nat.le_refl _) ?_) | go_in)
        case k1 => rw [HXl.out]; exact (Nat.min_eq_right (by omega)).symm
        case k2 =>
          intro hp
          rw [HXl.out] at hp
          obtain ⟨b', off', e, -⟩ := HV.out.cell (k := 0) (by omega)
          first
            | exact ⟨rfl, _, e, fun j u hu => by rw [add_plain]; obtain ⟨h1, h2⟩ := HXc.out _ _ e j u hu; rw [World.cell?_alloc_lt w _ _ h2, h1]⟩
            | exact ⟨_, e, fun j u hu => by rw [add_plain]; obtain ⟨h1, h2⟩ := HXc.out _ _ e j u hu; first | exact h1 | rw [World.cell?_alloc_lt w _ _ h2, h1]⟩
            | (simp only [Option.some.injEq, Addr.mk.injEq] at e; obtain ⟨rfl, rfl, -⟩ := e; intro j u hu; exact (HXc.out _ _ rfl j u hu).1)
        case k3 => rw [HXl.out]; simp
        case k4 => exact (Below.refl _ _).alloc (Nat.le_refl _) _
        intro w1 hg1 hb1
        have c0' := cellB hb1 hpl c0
        have f0' : w1.frozen? ⟨p, 0, none⟩ = false := (hb1.frozen (p := ⟨p, 0, none⟩) hpl).trans f0
        have hbw : w1.heap[p]? = _ := (hb1.block p hpl).trans HB.out
        have hrow : Hid (∀ u, RB (fun b => w.heap.size ≤ b) (w1.setCell ⟨p, 0, none⟩ u) (.slice (some ⟨w.heap.size, 0, none⟩) r.l.length r.l.length) (r.l.take r.l.length)) := fun u => by
          have hg := hg1.out
          rw [splice_full _ _ _ HXl.out] at hg
          have hgn : w.heap.size ≠ p := by omega
          have hg2 : (w1.setCell ⟨p, 0, none⟩ u).heap[w.heap.size]? = _ := (Below.heap_setCell w1 ⟨p, 0, none⟩ u _ hgn).trans hg
          refine ⟨by simp, .inr ⟨w.heap.size, 0, r.l.length, ?_, ?_, Nat.le_refl _, by simp; try omega, fun j hj => ?_⟩⟩
          · congr 1
            simp
            try omega
          · exact (Array.getElem?_eq_some_iff.1 hg2).1
          · rw [Nat.zero_add, (blk_cell hg2).1, HX.out]
            simp
        clear c0 f0 hg1
        have HBW := Lib.hid hbw
        clear hbw
        go_wp2
        go_ret
        have hbw := HBW.out
        have hrow := hrow.out
        rw [HF.out, HD.out]
        exact ⟨_, rfl, hrow _, ⟨⟨_, setCell_blk (by have hq := hbw; rw [H0.out] at hq; exact hq), RB.ext HVz.out hb1 |> fun h => SlA.mono h (Same.setCell (Same.refl _ _) HA.out _)⟩, HA.out⟩, Fr.setCell (S := fun k => k = p) (a := ⟨p, 0, none⟩) (Fr.ext hb1) (fun _ => rfl) _⟩
      · obtain ⟨b, off, rfl, hbl, hA, -⟩ : ∃ b off, a = some ⟨b, off, none⟩ ∧ b < w.heap.size ∧ A b ∧ True := by
          rcases HV.out.2 with ⟨⟨a0, e⟩, h0⟩ | ⟨b, off, c2, e, hbl, hA, -, -⟩
          · simp only [Value.slice.injEq] at e
            omega
          · simp only [Value.slice.injEq] at e
            exact ⟨b, off, e.1, hbl, hA, trivial⟩
        have HVd : Hid (RB A w (.slice (some ⟨b, off + n, none⟩) (r.l.length - n) (c - n)) (r.l.drop n)) := RB.drop' HV.out h1 _ (by omega) hbl hA
        go_enter Tryz.func58, Tryz.ntmps58
        go_wp2_with (first | (with_reducible refine wpList_copy_splice rfl (.tmp 28) (.tmp 32) 27 27 rfl 5 Tryz.underlying27 hn8.out _ _ _ _ _ _ rfl rfl w.heap.size 0 (List.replicate n (.int .u8 0)) 5 (heap_alloc_new w _) X ?k1 ?k2 ?k3 hX1.out w.heap.size w ?k4 (Nat.le_refl _) ?_) | go_in)
        case k1 => rw [HXl.out]; exact (Nat.min_eq_right (by omega)).symm
        case k2 =>
          intro hp
          rw [HXl.out] at hp
          obtain ⟨b', off', e, -⟩ := HV.out.cell (k := 0) (by omega)
          first
            | exact ⟨rfl, _, e, fun j u hu => by rw [add_plain]; obtain ⟨h1, h2⟩ := HXc.out _ _ e j u hu; rw [World.cell?_alloc_lt w _ _ h2, h1]⟩
            | exact ⟨_, e, fun j u hu => by rw [add_plain]; obtain ⟨h1, h2⟩ := HXc.out _ _ e j u hu; first | exact h1 | rw [World.cell?_alloc_lt w _ _ h2, h1]⟩
            | (simp only [Option.some.injEq, Addr.mk.injEq] at e; obtain ⟨rfl, rfl, -⟩ := e; intro j u hu; exact (HXc.out _ _ rfl j u hu).1)
        case k3 => rw [HXl.out]; simp
        case k4 => exact (Below.refl _ _).alloc (Nat.le_refl _) _
        intro w1 hg1 hb1
        have c0' := cellB hb1 hpl c0
        have f0' : w1.frozen? ⟨p, 0, none⟩ = false := (hb1.frozen (p := ⟨p, 0, none⟩) hpl).trans f0
        have hbw : w1.heap[p]? = _ := (hb1.block p hpl).trans HB.out
        have hrow : Hid (∀ u, RB (fun b => w.heap.size ≤ b) (w1.setCell ⟨p, 0, none⟩ u) (.slice (some ⟨w.heap.size, 0, none⟩) n n) (r.l.take n)) := fun u => by
          have hg := hg1.out
          rw [splice_full _ _ _ HXl.out] at hg
          have hgn : w.heap.size ≠ p := by omega
          have hg2 : (w1.setCell ⟨p, 0, none⟩ u).heap[w.heap.size]? = _ := (Below.heap_setCell w1 ⟨p, 0, none⟩ u _ hgn).trans hg
          refine ⟨by simp, .inr ⟨w.heap.size, 0, n, ?_, ?_, Nat.le_refl _, by simp; try omega, fun j hj => ?_⟩⟩
          · congr 1
            simp
            try omega
          · exact (Array.getElem?_eq_some_iff.1 hg2).1
          · rw [Nat.zero_add, (blk_cell hg2).1, HX.out]
            simp
        clear c0 f0 hg1
        have HBW := Lib.hid hbw
        clear hbw
        go_wp2
        go_ret
        have hbw := HBW.out
        have hrow := hrow.out
        rw [HF.out]
        exact ⟨_, rfl, hrow _, ⟨⟨_, setCell_blk (by have hq := hbw; rw [H0.out] at hq; exact hq), RB.ext HVd.out hb1 |> fun h => SlA.mono h (Same.setCell (Same.refl _ _) HA.out _)⟩, HA.out⟩, Fr.setCell (S := fun k => k = p) (a := ⟨p, 0, none⟩) (Fr.ext hb1) (fun _ => rfl) _⟩
  · have HF : Hid (r.take n = ([], r)) := if_pos h0
    have t1 : ((r.e : Int) != 0) = true := by simp [h0]
    clear h0
    go_enter Tryz.func58, Tryz.ntmps58
    go_wp2
    go_ret
    rw [HF.out]
    exact ⟨_, rfl, RB.nil _ _, HH.out, Fr.refl _ _⟩
end Go.Proofs.YtlgefkaafoidmaaGreatDoor
namespace Go.Proofs.YtlgefkaafoidmaaGreatDoor
open Go.RowKit Go.WideShapes

/-- what a method that takes a number leaves -/
def NumP (A : Nat → Prop) (p : Nat) (w : World) (x : Nat × Rd) (e : Ending) (w' : World) : Prop :=
  e = .returned (.int .i64 (x.1 : Nat)) ∧ IsRd A w' p x.2 ∧ Fr (fun k => k = p) w w'
theorem nb_take_succ (t : List UInt8) (k : Nat) (h : k < t.length) : nb (t.take (k + 1)) = nb (t.take k) * 256 + t[k].toNat := by
  rw [List.take_succ_eq_append_getElem h, nb_snoc]
set_option maxRecDepth 100000 in
set_option maxHeartbeats 1600000 in
theorem rnum_any (A : Nat → Prop) (p W : Nat) (r : Rd) (w : World) (h : IsRd A w p r) (h1 : 1 ≤ W) (h7 : W ≤ 7) (hl : r.l.length ≤ 100000) (he : r.e < 1000) :
    Calls Tryz.prog 26 #[.pointer (some ⟨p, 0, none⟩), .int .i64 W] w (NumP A p w (r.num W)) := by
  have HH := Lib.hid h
  have hpl := h.lt
  have HT : Hid (r.num W = (nb (r.take W).1, (r.take W).2)) := rfl
  have ht : (r.take W).1.length ≤ 7 := Nat.le_trans (Rd.take_len r W).2.1 h7
  clear h
  go_enter Tryz.func26, Tryz.ntmps26
  go_wp2_with fail
  refine (wide_any W h1 h7 _).mono ?_
  rintro e w1 ⟨rfl, rfl⟩
  go_wp2_with fail
  refine (take_any A p W r _ HH.out (by omega) hl he).mono ?_
  rintro e w2 ⟨v, rfl, hv, hr, hf⟩
  have HR := Lib.hid hr
  have HF := Lib.hid hf
  clear hr hf
  generalize r.take W = t at *
  obtain ⟨t, r2⟩ := t
  simp only at hv HR ht HT
  obtain ⟨a, c, rfl⟩ := hv.shape
  have HV := Lib.hid hv
  clear hv
  go_wp2
  go_loop [5, 15] (fun n q => ∃ k : Nat, k ≤ t.length ∧ q = .int .i64 k ∧ n = .int .i64 (nb (t.take k) : Nat)) (fun _ q => t.length - (intOf q).toNat)
  case atStart => exact ⟨0, by omega, rfl, rfl⟩
  case round =>
    obtain ⟨k, hk, rfl, rfl⟩ := hrel
    by_cases hlt : k < t.length
    · obtain ⟨b, off, rfl, hbl, -, hc⟩ := HV.out.cell hlt
      have HS := Lib.hid (nb_take_succ t k hlt)
      have hnb := nb_lt (t.take k)
      have hp : 256 ^ (t.take k).length ≤ 256 ^ 6 := Nat.pow_le_pow_right (by decide) (by simp; omega)
      have hnb2 : nb (t.take k) < 281474976710656 := Nat.lt_of_lt_of_le hnb hp
      have hb := (t[k]).toNat_lt
      have ho := or_byte (nb (t.take k)) (t[k]).toNat hb (by omega)
      have HO : Hid (((nb (t.take k) * 256 + (t[k]).toNat : Nat) : Int) = (nb (t.take (k + 1)) : Nat)) := by
        show _ = _
        rw [HS.out]
      generalize nb (t.take k) * 256 + (t[k]).toNat = S at *
      generalize nb (t.take k) = N at *
      generalize (t[k]).toNat = B at *
      clear hnb hp
      go_wp2
      go_round
      case rel => exact ⟨k + 1, by omega, by go_num, by rw [HO.out]⟩
      case measure => simp [intOf]; omega
    · obtain rfl : k = t.length := by omega
      go_wp2
      go_ret
      rw [HT.out]
      exact ⟨rfl, HR.out, HF.out⟩
set_option maxRecDepth 100000 in
set_option maxHeartbeats 1600000 in
theorem rblob_any (A : Nat → Prop) (p m : Nat) (r : Rd) (w : World) (h : IsRd A w p r) (hm : m ≤ 10000) (hl : r.l.length ≤ 100000) (he : r.e < 1000) (he2 : (r.num 2).2.e < 1000) :
    Calls Tryz.prog 27 #[.pointer (some ⟨p, 0, none⟩), .int .i64 m] w (TakeP A p w (r.blob m)) := by
  have HH := Lib.hid h
  have hpl := h.lt
  have hk := Rd.num_lt r 2
  have hl2 := Rd.num_len r 2
  have hbl : r.blob m = if m < (r.num 2).1 then ([], (r.num 2).2.fail 11) else (r.num 2).2.take (r.num 2).1 := rfl
  have HBL0 := Lib.hid hbl
  have hmx : max (m : Int) 0 = m := by omega
  clear h hbl
  go_enter Tryz.func27, Tryz.ntmps27
  go_wp2_with fail
  refine (rnum_any A p 2 r _ HH.out (by omega) (by omega) hl he).mono ?_
  rintro e w1 ⟨rfl, hr, hf⟩
  have HR := Lib.hid hr
  have HF := Lib.hid hf
  clear hr hf
  generalize r.num 2 = t at *
  obtain ⟨n, r2⟩ := t
  simp only at HR hk hl2 HBL0 he2
  have HBL : Hid (r.blob m = if m < n then ([], r2.fail 11) else r2.take n) := HBL0
  clear HBL0
  have hs1 := HF.out.size
  by_cases hlt : m < n
  · have HB2 := Lib.hid (HBL.out.trans (if_pos hlt))
    clear HBL
    go_wp2_with fail
    refine (fail_any A p r2 11 _ HR.out (by omega) he2).mono ?_
    rintro e w2 ⟨rfl, hr, hf⟩
    have HR2 := Lib.hid hr
    have HF2 := Lib.hid hf
    clear hr hf
    have hz : Hid ((r2.fail 11).take n = ([], r2.fail 11)) := by
      show _ = _
      unfold Rd.take
      rw [if_pos]
      unfold Rd.fail
      split
      · decide
      · rename_i hh
        intro h0
        exact hh ⟨h0, by decide⟩
    have he3 : (r2.fail 11).e < 1000 := by
      unfold Rd.fail
      split
      · decide
      · exact he2
    have hl3 := Rd.fail_len r2 11
    go_wp2_with fail
    refine (take_any A p n (r2.fail 11) _ HR2.out (by omega) (by omega) he3).mono ?_
    rintro e w3 ⟨v, rfl, hv, hr, hf⟩
    have HR3 := Lib.hid hr
    have HF3 := Lib.hid hf
    have HV := Lib.hid hv
    clear hr hf hv
    go_wp2
    go_ret
    rw [HB2.out]
    have h1 := HR3.out
    have h2 := HV.out
    rw [hz.out] at h1 h2
    exact ⟨_, rfl, SlA.weak h2 fun b hb => Nat.le_trans hs1 (Nat.le_trans HF2.out.size hb), h1, (HF.out.trans HF2.out fun _ _ h => h).trans HF3.out fun _ _ h => h⟩
  · have HB2 := Lib.hid (HBL.out.trans (if_neg hlt))
    clear HBL
    go_wp2_with fail
    refine (take_any A p n r2 _ HR.out (by omega) (by omega) he2).mono ?_
    rintro e w3 ⟨v, rfl, hv, hr, hf⟩
    have HR3 := Lib.hid hr
    have HF3 := Lib.hid hf
    have HV := Lib.hid hv
    clear hr hf hv
    go_wp2
    go_ret
    rw [HB2.out]
    exact ⟨_, rfl, SlA.weak HV.out fun b hb => Nat.le_trans hs1 hb, HR3.out, HF.out.trans HF3.out fun _ _ h => h⟩

set_option maxRecDepth 100000 in
theorem left_any (A : Nat → Prop) (p : Nat) (r : Rd) (w : World) (h : IsRd A w p r) :
    Calls Tryz.prog 60 #[.pointer (some ⟨p, 0, none⟩)] w fun e w' => e = .returned (.int .i64 (r.l.length : Nat)) ∧ w = w' := by
  obtain ⟨v, hb, hv⟩ := h.ex
  obtain ⟨a, c, rfl⟩ := hv.shape
  obtain ⟨c0, f0⟩ := blk_cell (i := 0) hb
  simp at c0
  clear h hv hb
  go_enter Tryz.func60, Tryz.ntmps60
  go_wp2
  go_ret
  exact ⟨rfl, rfl⟩
set_option maxRecDepth 100000 in
theorem err_any (A : Nat → Prop) (p : Nat) (r : Rd) (w : World) (h : IsRd A w p r) :
    Calls Tryz.prog 48 #[.pointer (some ⟨p, 0, none⟩)] w fun e w' => e = .returned (.int .i64 (r.e : Nat)) ∧ w = w' := by
  obtain ⟨v, hb, hv⟩ := h.ex
  obtain ⟨c1, f1⟩ := blk_cell (i := 1) hb
  simp at c1
  clear h hv hb
  go_enter Tryz.func48, Tryz.ntmps48
  go_wp2
  go_ret
  exact ⟨rfl, rfl⟩
set_option maxRecDepth 100000 in
set_option maxHeartbeats 800000 in
theorem end_any (A : Nat → Prop) (p : Nat) (r : Rd) (w : World) (h : IsRd A w p r) (hl : r.l.length ≤ 100000) (he : r.e < 1000) :
    Calls Tryz.prog 28 #[.pointer (some ⟨p, 0, none⟩)] w fun e w' => e = .returned (.int .i64 (r.fin.e : Nat)) ∧ IsRd A w' p r.fin ∧ Fr (fun k => k = p) w w' := by
  have HH := Lib.hid h
  clear h
  go_enter Tryz.func28, Tryz.ntmps28
  go_wp2_with fail
  refine (left_any A p r _ HH.out).mono ?_
  rintro e w1 ⟨rfl, rfl⟩
  rcases Nat.eq_zero_or_pos r.l.length with h0 | h0
  · have HF : Hid (r.fin = r) := if_neg (by omega)
    have hle : (r.l.length : Int) ≤ 0 := by omega
    clear h0
    go_wp2_with fail
    refine (err_any A p r _ HH.out).mono ?_
    rintro e w1 ⟨rfl, rfl⟩
    go_wp2
    go_ret
    rw [HF.out]
    exact ⟨rfl, HH.out, Fr.refl _ _⟩
  · have HF : Hid (r.fin = r.fail 11) := if_pos h0
    go_wp2_with fail
    refine (fail_any A p r 11 _ HH.out (by omega) he).mono ?_
    rintro e w2 ⟨rfl, hr, hf⟩
    have HR := Lib.hid hr
    have HFR := Lib.hid hf
    clear hr hf
    go_wp2_with fail
    refine (err_any A p _ _ HR.out).mono ?_
    rintro e w1 ⟨rfl, rfl⟩
    go_wp2
    go_ret
    rw [HF.out]
    exact ⟨rfl, HR.out, HFR.out⟩
set_option maxRecDepth 100000 in
theorem read_any (A : Nat → Prop) (v : Value) (l : List UInt8) (w : World) (hv : RB A w v l) (hl : l.length ≤ 100000) :
    Calls Tryz.prog 57 #[v] w fun e w' => ∃ p, e = .returned (.pointer (some ⟨p, 0, none⟩)) ∧ IsRd (fun b => w.heap.size ≤ b ∧ b < p) w' p ⟨l, 0⟩ ∧ w.heap.size ≤ p ∧ Below w.heap.size w w' := by
  have HV := Lib.hid hv
  clear hv
  go_enter Tryz.func57, Tryz.ntmps57
  go_wp2_with fail
  refine (cloneB_any A _ l _ (by omega) HV.out).mono ?_
  rintro e w1 ⟨v1, rfl, ho, hb1⟩
  obtain ⟨a, c, rfl⟩ := ho.rb.shape
  have HO := Lib.hid ho
  have hs1 := hb1.size
  clear ho
  go_wp2
  go_ret
  refine ⟨w1.heap.size, rfl, ⟨⟨.slice a l.length c, heap_alloc_new _ _, ?_⟩, by omega⟩, hs1, hb1.alloc hs1 _⟩
  refine SlA.weak (RB.ext (SlA.cut HO.out.rb) ((Below.refl _ _).alloc (Nat.le_refl _) _)) fun b hb => hb
end Go.Proofs.YtlgefkaafoidmaaGreatDoor
namespace Go.Proofs.YtlgefkaafoidmaaGreatDoor

def catB (W : Nat) (ns : List Nat) : List UInt8 := ns.flatMap (be W)
theorem catB_take (W : Nat) (ns : List Nat) (k : Nat) (h : k < ns.length) : catB W (ns.take (k + 1)) = catB W (ns.take k) ++ be W ns[k] := by
  unfold catB
  rw [List.take_succ_eq_append_getElem h, List.flatMap_append]
  simp
theorem catB_length (W : Nat) (ns : List Nat) : (catB W ns).length = ns.length * W := by
  induction ns with
  | nil => simp [catB]
  | cons n ns ih =>
    have : catB W (n :: ns) = be W n ++ catB W ns := by simp [catB]
    rw [this, List.length_append, be_length, ih, List.length_cons, Nat.add_mul]
    omega
/-- a request's body -/
def bodyQ (c l s k i w n : Nat) (x : List UInt8) : List UInt8 :=
  [] ++ catB 1 [c] ++ catB 4 [l] ++ catB 6 [s] ++ catB 1 [k, i, w] ++ catB 6 [n] ++ be 2 x.length ++ x
theorem bodyQ_length (c l s k i w n : Nat) (x : List UInt8) : (bodyQ c l s k i w n x).length = x.length + 22 := by
  simp [bodyQ, catB_length, be_length]
  omega
/-- numbers read one behind the other -/
def rdStep (s : List Nat × Rd) (W : Nat) : List Nat × Rd := (s.1 ++ [(s.2.num W).1], (s.2.num W).2)
def rdNums (ws : List Nat) (r : Rd) : List Nat × Rd := ws.foldl rdStep ([], r)
theorem rdNums_take (ws : List Nat) (r : Rd) (k : Nat) (h : k < ws.length) : rdNums (ws.take (k + 1)) r = rdStep (rdNums (ws.take k) r) ws[k] := by
  unfold rdNums
  rw [List.take_succ_eq_append_getElem h, List.foldl_append]
  rfl
theorem rdNums_length (ws : List Nat) (r : Rd) : (rdNums ws r).1.length = ws.length := by
  have : ∀ (ws : List Nat) (s : List Nat × Rd), (ws.foldl rdStep s).1.length = s.1.length + ws.length := by
    intro ws
    induction ws with
    | nil => intro s; simp
    | cons w ws ih =>
      intro s
      rw [List.foldl_cons, ih]
      simp [rdStep]
      omega
  simpa [rdNums] using this ws ([], r)
theorem rdNums_inv (ws : List Nat) (r : Rd) (hr : r.ok) (he : r.e < 1000) : (rdNums ws r).2.ok ∧ (rdNums ws r).2.e < 1000 ∧ (rdNums ws r).2.l.length ≤ r.l.length := by
  have : ∀ (ws : List Nat) (s : List Nat × Rd), s.2.ok → s.2.e < 1000 → (ws.foldl rdStep s).2.ok ∧ (ws.foldl rdStep s).2.e < 1000 ∧ (ws.foldl rdStep s).2.l.length ≤ s.2.l.length := by
    intro ws
    induction ws with
    | nil => intro s h1 h2; exact ⟨h1, h2, Nat.le_refl _⟩
    | cons w ws ih =>
      intro s h1 h2
      rw [List.foldl_cons]
      have h3 := Rd.num_ok h1 w
      have h4 : (rdStep s w).2.e < 1000 := by
        show (s.2.take w).2.e < 1000
        unfold Rd.take
        split
        · exact h2
        · split
          · show 10 < 1000; decide
          · show 0 < 1000; decide
      obtain ⟨a, b, c⟩ := ih (rdStep s w) h3 h4
      exact ⟨a, b, Nat.le_trans c (Rd.num_len s.2 w)⟩
  exact this ws ([], r) hr he
def wsQ : List Nat := [1, 4, 6, 1, 1, 1, 6]
theorem catB_one (W n : Nat) : catB W [n] = be W n := by simp [catB]
theorem rdNums_bodyQ (c l s k i w n : Nat) (x : List UInt8) (hc : c < 256) (hl : l < 256 ^ 4) (hs : s < 256 ^ 6) (hk : k < 256) (hi : i < 256) (hw : w < 256) (hn : n < 256 ^ 6) :
    rdNums wsQ ⟨bodyQ c l s k i w n x, 0⟩ = ([c, l, s, k, i, w, n], ⟨be 2 x.length ++ x, 0⟩) := by
  have e : bodyQ c l s k i w n x = be 1 c ++ (be 4 l ++ (be 6 s ++ (be 1 k ++ (be 1 i ++ (be 1 w ++ (be 6 n ++ (be 2 x.length ++ x))))))) := by
    simp [bodyQ, catB, List.append_assoc]
  rw [e]
  simp only [rdNums, wsQ, List.foldl_cons, List.foldl_nil, rdStep]
  rw [Rd.num_be 1 c _ (by simpa using hc)]
  simp only
  rw [Rd.num_be 4 l _ hl]
  simp only
  rw [Rd.num_be 6 s _ hs]
  simp only
  rw [Rd.num_be 1 k _ (by simpa using hk)]
  simp only
  rw [Rd.num_be 1 i _ (by simpa using hi)]
  simp only
  rw [Rd.num_be 1 w _ (by simpa using hw)]
  simp only
  rw [Rd.num_be 6 n _ hn]
  simp
end Go.Proofs.YtlgefkaafoidmaaGreatDoor
