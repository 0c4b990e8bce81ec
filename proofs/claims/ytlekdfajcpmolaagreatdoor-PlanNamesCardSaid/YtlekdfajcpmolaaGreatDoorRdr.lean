/- The walks of wire.Reader's methods. -/
import Derived.Test.YtlekdfajcpmolaaGreatDoorGCE
import Derived.Test.YtlekdfajcpmolaaGreatDoorGAE
import Derived.Laws.CopyOwn
import Derived.Laws.MakeOwn
import Derived.OwnWalk
namespace Go.Proofs.YtlekdfajcpmolaaGreatDoor
open Go.RowKit Go.WideShapes

/-- a reader behind a pointer: its bytes lie in blocks of A -/
structure IsRd (A : Nat → Prop) (w : World) (p : Nat) (r : Rd) : Prop where
  mk ::
  ex : ∃ v, w.heap[p]? = some (.cells #[v, .int .i64 (r.e : Nat)] 229 (0, 0)) ∧ RB A w v r.l
  apart : ¬ A p
theorem IsRd.lt {A : Nat → Prop} {w : World} {p : Nat} {r : Rd} (h : IsRd A w p r) : p < w.heap.size := by
  obtain ⟨v, hb, _⟩ := h.ex
  exact (Array.getElem?_eq_some_iff.1 hb).1
theorem IsRd.ext {A : Nat → Prop} {w w' : World} {p : Nat} {r : Rd} (h : IsRd A w p r) (hb : Below w.heap.size w w') : IsRd A w' p r := by
  obtain ⟨v, h1, h2⟩ := h.ex
  exact ⟨⟨v, (hb.block _ h.lt).trans h1, h2.ext hb⟩, h.apart⟩
/-- where nothing of A or the reader's block has turned -/
theorem IsRd.same {A B : Nat → Prop} {w w' : World} {p : Nat} {r : Rd} (h : IsRd A w p r) (hs : Same B w w') (hB : B p) (hA : ∀ b, A b → B b) : IsRd A w' p r := by
  obtain ⟨v, h1, h2⟩ := h.ex
  exact ⟨⟨v, (hs.block _ hB h.lt).trans h1, SlA.mono h2 (hs.weak hA)⟩, h.apart⟩
theorem make_bytes (n : Nat) (hn : n ≤ 1000000) (W : World) : (Instr.makeSlice 28 (.int .i64 (n : Int)) (.int .i64 (n : Int))).run Tryz.prog W = .ok (.slice (some ⟨W.heap.size, 0, none⟩) n n) (W.alloc (.cells (List.replicate n (Value.int .u8 0)).toArray 5)) := by
  obtain ⟨i0, hi, hz0, hz1, hz2⟩ := info_parts infoByte
  have h := run_make (P := Tryz.prog) W 28 5 i0 (.int .u8 0) Tryz.underlying28 hi hz0 .i64 .i64 n n (by omega) (by omega) (by rw [hz2]; omega) (by omega)
  have e : madeCells (Value.int .u8 0).cells n = (List.replicate n (Value.int .u8 0)).toArray := by
    apply Array.ext
    · simp [madeCells]
    · intro i h1 h2
      simp [madeCells, Value.cells, Nat.mod_one]
  rw [h, hz1]
  simp only [Int.toNat_natCast, Nat.mul_one]
  rw [e]

set_option maxRecDepth 100000 in
set_option maxHeartbeats 800000 in
theorem fail_any (A : Nat → Prop) (p : Nat) (r : Rd) (x : Nat) (w : World) (h : IsRd A w p r) (_hx : x < 1000) (_he : r.e < 1000) :
    Calls Tryz.prog 115 #[.pointer (some ⟨p, 0, none⟩), .int .i64 x] w fun e w' => e = .returned (.tuple #[]) ∧ IsRd A w' p (r.fail x) ∧ Fr (fun k => k = p) w w' := by
  obtain ⟨v, hb, hv⟩ := h.ex
  have HA := Lib.hid h.apart
  have hpl := h.lt
  have HV := Lib.hid hv
  obtain ⟨c0, f0⟩ := blk_cell (i := 0) hb
  obtain ⟨c1, f1⟩ := blk_cell (i := 1) hb
  simp at c0 c1
  have HB := Lib.hid hb
  clear h hv hb
  by_cases h0 : r.e = 0
  · by_cases h1 : x = 0
    · have HF : Hid (r.fail x = r) := if_neg (fun h => h.2 h1)
      have t1 : ((r.e : Int) == 0) = true := by simp [h0]
      have t2 : ((x : Int) != 0) = false := by simp [h1]
      clear h0 h1
      go_enter Tryz.func115, Tryz.ntmps115
      go_wp2
      go_end0
      rw [HF.out]
      exact ⟨rfl, ⟨⟨v, HB.out, HV.out⟩, HA.out⟩, Fr.refl _ _⟩
    · have HF : Hid (r.fail x = ⟨[], x⟩) := if_pos ⟨h0, h1⟩
      have t1 : ((r.e : Int) == 0) = true := by simp [h0]
      have t2 : ((x : Int) != 0) = true := by simp [h1]
      clear h0 h1
      go_enter Tryz.func115, Tryz.ntmps115
      go_wp2
      go_end0
      rw [HF.out]
      refine ⟨rfl, ⟨⟨.slice none 0 0, ?_, RB.nil _ _⟩, HA.out⟩, ?_⟩
      · have := HB.out
        simp [World.setCell, Array.getElem?_modify, this]
      · exact Fr.setCell (S := fun k => k = p) (a := ⟨p, 0, none⟩) (Fr.setCell (S := fun k => k = p) (a := ⟨p, 1, none⟩) (Fr.refl _ _) (fun _ => rfl) _) (fun _ => rfl) _
  · have HF : Hid (r.fail x = r) := if_neg (fun h => h0 h.1)
    have t1 : ((r.e : Int) == 0) = false := by simp [h0]
    clear h0
    go_enter Tryz.func115, Tryz.ntmps115
    go_wp2
    go_end0
    rw [HF.out]
    exact ⟨rfl, ⟨⟨v, HB.out, HV.out⟩, HA.out⟩, Fr.refl _ _⟩

def failV (p : Nat) : Value := .func (.func 115) #[.pointer (some ⟨p, 0, none⟩)] #[]
/-- what a method that takes bytes leaves -/
def TakeP (A : Nat → Prop) (p : Nat) (w : World) (x : List UInt8 × Rd) (e : Ending) (w' : World) : Prop :=
  ∃ v, e = .returned v ∧ RB (fun b => w.heap.size ≤ b) w' v x.1 ∧ IsRd A w' p x.2 ∧ Fr (fun k => k = p) w w'
theorem splice_full (n : Nat) (z : Value) (cs : List Value) (h : cs.length = n) : splice (List.replicate n z) 0 cs = cs := by
  unfold splice
  rw [List.take_zero, List.nil_append, List.drop_of_length_le (by simp; omega), List.append_nil]
theorem setCell_blk {w : World} {p : Nat} {t : TypeId} {a b v : Value} (h : w.heap[p]? = some (.cells #[a, b] t (0, 0))) : (w.setCell ⟨p, 0, none⟩ v).heap[p]? = some (.cells #[v, b] t (0, 0)) := by
  simp [World.setCell, Array.getElem?_modify, h]
set_option maxRecDepth 100000 in
set_option maxHeartbeats 1600000 in
theorem take_any (A : Nat → Prop) (p n : Nat) (r : Rd) (w : World) (h : IsRd A w p r) (hn : n ≤ 100000) (hl : r.l.length ≤ 100000) (he : r.e < 1000) :
    Calls Tryz.prog 170 #[.pointer (some ⟨p, 0, none⟩), .int .i64 n, .func (.func 115) #[.pointer (some ⟨p, 0, none⟩)] #[]] w (TakeP A p w (r.take n)) := by
  obtain ⟨v, hb, hv⟩ := h.ex
  have HA := Lib.hid h.apart
  have hpl := h.lt
  have HH := Lib.hid h
  obtain ⟨a, c, rfl⟩ := hv.shape
  have HV := Lib.hid hv
  have hcap := hv.cutAll
  obtain ⟨c0, f0⟩ := blk_cell (i := 0) hb
  obtain ⟨c1, f1⟩ := blk_cell (i := 1) hb
  simp at c0 c1
  have HB := Lib.hid hb
  clear h hv hb
  by_cases h0 : r.e = 0
  · have t1 : ((r.e : Int) != 0) = false := by simp [h0]
    rcases Nat.lt_or_ge r.l.length n with h1 | h1
    · have HF : Hid (r.take n = ([], r.fail 10)) := by
        show r.take n = _
        unfold Rd.take Rd.fail
        rw [if_neg (fun h => h h0), if_pos h1, if_pos ⟨h0, by decide⟩]
      clear h0
      go_enter Tryz.func170, Tryz.ntmps170
      go_wp2_with fail
      refine (fail_any A p r 10 _ HH.out (by omega) he).mono ?_
      rintro e w1 ⟨rfl, hr1, hf1⟩
      have HR1 := Lib.hid hr1
      have HF1 := Lib.hid hf1
      clear hr1 hf1 c0 c1 f0 f1
      go_wp2
      go_ret
      rw [HF.out]
      exact ⟨_, rfl, RB.nil _ _, HR1.out, HF1.out⟩
    · have HF : Hid (r.take n = (r.l.take n, ⟨r.l.drop n, 0⟩)) := by
        show r.take n = _
        unfold Rd.take
        rw [if_neg (fun h => h h0), if_neg (by omega)]
      have hmk := fun W => make_bytes n (by omega) W
      obtain ⟨X, hX⟩ : ∃ X, X = (r.l.take n).map bv := ⟨_, rfl⟩
      have hXl : X.length = n := by rw [hX]; simp; omega
      have HXl := Lib.hid hXl
      have HX := Lib.hid hX
      have HXc : Hid (∀ b off, a = some ⟨b, off, none⟩ → ∀ j u, X[j]? = some u → w.cell? ⟨b, off + j, none⟩ = some u ∧ b < w.heap.size) := by
        rintro b off rfl j u hj
        have hjn : j < n := by rw [← hXl]; exact (List.getElem?_eq_some_iff.1 hj).1
        obtain ⟨b', off', e, hbl, -, hc⟩ := HV.out.cell (k := j) (by omega)
        simp only [Option.some.injEq, Addr.mk.injEq] at e
        obtain ⟨rfl, rfl, -⟩ := e
        refine ⟨?_, hbl⟩
        have hx2 : X[j]? = some (Value.int .u8 (r.l[j]'(by omega)).toNat) := by
          refine (congrArg (fun Y : List Value => Y[j]?) hX).trans ?_
          show ((r.l.take n).map bv)[j]? = _
          rw [List.getElem?_map, List.getElem?_take, if_pos hjn, List.getElem?_eq_getElem (by omega)]
          rfl
        rw [hc, ← hj, hx2]
      have hX1 : Hid (∀ u ∈ X, u.oneCell' = true) := by
        show ∀ u ∈ X, _
        rw [hX]
        exact one_bytes _
      have hn8x : (Tryz.prog.info? 5).map (·.size) = some 1 := by kernel_rfl
      have hn8 := Lib.hid hn8x
      clear hn8x
      have hE : Hid (r = ⟨r.l, 0⟩) := by
        show r = _
        cases r
        simp only at h0
        rw [h0]
      have H0 := Lib.hid h0
      clear h0 hX hXl
      by_cases hcn : c = n
      · obtain rfl : c = r.l.length := by omega
        have HD : Hid (r.l.drop n = []) := List.drop_of_length_le (by omega)
        obtain rfl := hcn
        have HVz : Hid (RB A w (.slice a 0 0) []) := by
          exact RB.zero _ _ _
        go_enter Tryz.func170, Tryz.ntmps170
        go_wp2_with (first | (with_reducible refine wpList_copy_splice rfl (.tmp 28) (.tmp 32) 28 28 rfl 5 Tryz.underlying28 hn8.out _ _ _ _ _ _ rfl rfl w.heap.size 0 (List.replicate r.l.length (.int .u8 0)) 5 (heap_alloc_new w _) X ?k1 ?k2 ?k3 hX1.out w.heap.size w ?k4 (Nat.le_refl _) ?_) | go_in)
        case k1 => rw [HXl.out]; exact (Nat.min_eq_right (by omega)).symm
        case k2 =>
          intro hp
          rw [HXl.out] at hp
          obtain ⟨b', off', e, -⟩ := HV.out.cell (k := 0) (by omega)
          first
            | exact ⟨rfl, _, e, fun j u hu => by rw [WideShapes.add_plain]; obtain ⟨h1, h2⟩ := HXc.out _ _ e j u hu; rw [World.cell?_alloc_lt w _ _ h2, h1]⟩
            | exact ⟨_, e, fun j u hu => by rw [WideShapes.add_plain]; obtain ⟨h1, h2⟩ := HXc.out _ _ e j u hu; first | exact h1 | rw [World.cell?_alloc_lt w _ _ h2, h1]⟩
            | (simp only [Option.some.injEq, Addr.mk.injEq] at e; obtain ⟨rfl, rfl, -⟩ := e; intro j u hu; exact (HXc.out _ _ rfl j u hu).1)
        case k3 => rw [HXl.out]; simp
        case k4 => exact (Below.refl _ _).alloc (Nat.le_refl _) _
        intro w1 hg1 hb1
        have c0' := cellB hb1 hpl c0
        have f0' : w1.frozen? ⟨p, 0, none⟩ = false := (hb1.frozen (p := ⟨p, 0, none⟩) hpl).trans f0
        have hbw : w1.heap[p]? = _ := (hb1.block p hpl).trans HB.out
        have hrow : Hid (∀ u, RB (fun b => w.heap.size ≤ b) (w1.setCell ⟨p, 0, none⟩ u) (.slice (some ⟨w.heap.size, 0, none⟩) r.l.length r.l.length) (r.l.take r.l.length)) := fun u => by
          have hg := hg1.out
          rw [splice_full _ _ _ HXl.out] at hg
          have hgn : w.heap.size ≠ p := by omega
          have hg2 : (w1.setCell ⟨p, 0, none⟩ u).heap[w.heap.size]? = _ := (Below.heap_setCell w1 ⟨p, 0, none⟩ u _ hgn).trans hg
          refine ⟨by simp, .inr ⟨w.heap.size, 0, r.l.length, ?_, ?_, Nat.le_refl _, by simp; try omega, fun j hj => ?_⟩⟩
          · congr 1
            simp
            try omega
          · exact (Array.getElem?_eq_some_iff.1 hg2).1
          · rw [Nat.zero_add, (blk_cell hg2).1, HX.out]
            simp
        clear c0 f0 hg1
        have HBW := Lib.hid hbw
        clear hbw
        go_wp2
        go_ret
        have hbw := HBW.out
        have hrow := hrow.out
        rw [HF.out, HD.out]
        exact ⟨_, rfl, hrow _, ⟨⟨_, setCell_blk (by have hq := hbw; rw [H0.out] at hq; exact hq), RB.ext HVz.out hb1 |> fun h => SlA.mono h (Same.setCell (Same.refl _ _) HA.out _)⟩, HA.out⟩, Fr.setCell (S := fun k => k = p) (a := ⟨p, 0, none⟩) (Fr.ext hb1) (fun _ => rfl) _⟩
      · obtain ⟨b, off, rfl, hbl, hA, -⟩ : ∃ b off, a = some ⟨b, off, none⟩ ∧ b < w.heap.size ∧ A b ∧ True := by
          rcases HV.out.2 with ⟨⟨a0, e⟩, h0⟩ | ⟨b, off, c2, e, hbl, hA, -, -⟩
          · simp only [Value.slice.injEq] at e
            omega
          · simp only [Value.slice.injEq] at e
            exact ⟨b, off, e.1, hbl, hA, trivial⟩
        have HVd : Hid (RB A w (.slice (some ⟨b, off + n, none⟩) (r.l.length - n) (c - n)) (r.l.drop n)) := RB.drop' HV.out h1 _ (by omega) hbl hA
        go_enter Tryz.func170, Tryz.ntmps170
        go_wp2_with (first | (with_reducible refine wpList_copy_splice rfl (.tmp 28) (.tmp 32) 28 28 rfl 5 Tryz.underlying28 hn8.out _ _ _ _ _ _ rfl rfl w.heap.size 0 (List.replicate n (.int .u8 0)) 5 (heap_alloc_new w _) X ?k1 ?k2 ?k3 hX1.out w.heap.size w ?k4 (Nat.le_refl _) ?_) | go_in)
        case k1 => rw [HXl.out]; exact (Nat.min_eq_right (by omega)).symm
        case k2 =>
          intro hp
          rw [HXl.out] at hp
          obtain ⟨b', off', e, -⟩ := HV.out.cell (k := 0) (by omega)
          first
            | exact ⟨rfl, _, e, fun j u hu => by rw [WideShapes.add_plain]; obtain ⟨h1, h2⟩ := HXc.out _ _ e j u hu; rw [World.cell?_alloc_lt w _ _ h2, h1]⟩
            | exact ⟨_, e, fun j u hu => by rw [WideShapes.add_plain]; obtain ⟨h1, h2⟩ := HXc.out _ _ e j u hu; first | exact h1 | rw [World.cell?_alloc_lt w _ _ h2, h1]⟩
            | (simp only [Option.some.injEq, Addr.mk.injEq] at e; obtain ⟨rfl, rfl, -⟩ := e; intro j u hu; exact (HXc.out _ _ rfl j u hu).1)
        case k3 => rw [HXl.out]; simp
        case k4 => exact (Below.refl _ _).alloc (Nat.le_refl _) _
        intro w1 hg1 hb1
        have c0' := cellB hb1 hpl c0
        have f0' : w1.frozen? ⟨p, 0, none⟩ = false := (hb1.frozen (p := ⟨p, 0, none⟩) hpl).trans f0
        have hbw : w1.heap[p]? = _ := (hb1.block p hpl).trans HB.out
        have hrow : Hid (∀ u, RB (fun b => w.heap.size ≤ b) (w1.setCell ⟨p, 0, none⟩ u) (.slice (some ⟨w.heap.size, 0, none⟩) n n) (r.l.take n)) := fun u => by
          have hg := hg1.out
          rw [splice_full _ _ _ HXl.out] at hg
          have hgn : w.heap.size ≠ p := by omega
          have hg2 : (w1.setCell ⟨p, 0, none⟩ u).heap[w.heap.size]? = _ := (Below.heap_setCell w1 ⟨p, 0, none⟩ u _ hgn).trans hg
          refine ⟨by simp, .inr ⟨w.heap.size, 0, n, ?_, ?_, Nat.le_refl _, by simp; try omega, fun j hj => ?_⟩⟩
          · congr 1
            simp
            try omega
          · exact (Array.getElem?_eq_some_iff.1 hg2).1
          · rw [Nat.zero_add, (blk_cell hg2).1, HX.out]
            simp
        clear c0 f0 hg1
        have HBW := Lib.hid hbw
        clear hbw
        go_wp2
        go_ret
        have hbw := HBW.out
        have hrow := hrow.out
        rw [HF.out]
        exact ⟨_, rfl, hrow _, ⟨⟨_, setCell_blk (by have hq := hbw; rw [H0.out] at hq; exact hq), RB.ext HVd.out hb1 |> fun h => SlA.mono h (Same.setCell (Same.refl _ _) HA.out _)⟩, HA.out⟩, Fr.setCell (S := fun k => k = p) (a := ⟨p, 0, none⟩) (Fr.ext hb1) (fun _ => rfl) _⟩
  · have HF : Hid (r.take n = ([], r)) := if_pos h0
    have t1 : ((r.e : Int) != 0) = true := by simp [h0]
    clear h0
    go_enter Tryz.func170, Tryz.ntmps170
    go_wp2
    go_ret
    rw [HF.out]
    exact ⟨_, rfl, RB.nil _ _, HH.out, Fr.refl _ _⟩
end Go.Proofs.YtlekdfajcpmolaaGreatDoor
