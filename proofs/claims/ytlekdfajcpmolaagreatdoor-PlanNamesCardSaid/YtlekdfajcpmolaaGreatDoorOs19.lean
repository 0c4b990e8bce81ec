/- The walks of objmap.each, clean, row, Set, Fresh, Merge. -/
import Derived.Test.YtlekdfajcpmolaaGreatDoorGAF
namespace Go.Proofs.YtlekdfajcpmolaaGreatDoor
open Go.RowKit Go.WideShapes

theorem setI_blk {w : World} {p j : Nat} {t : TypeId} {cs : Array Value} {v : Value} (h : w.heap[p]? = some (.cells cs t (0, 0))) : (w.setCell ⟨p, j, none⟩ v).heap[p]? = some (.cells (cs.setIfInBounds j v) t (0, 0)) := by
  simp [World.setCell, Array.getElem?_modify, h]
/-- the row that each makes, in the round k -/
def eachL (g : Nat → Int) (n k : Nat) : List Value := ((List.range k).map fun j => Value.int .i64 (g j)) ++ List.replicate (n - k) (Value.int .i64 0)
theorem eachL_zero (g : Nat → Int) (n : Nat) : eachL g n 0 = List.replicate n (Value.int .i64 0) := by simp [eachL]
theorem eachL_len (g : Nat → Int) {n k : Nat} (h : k ≤ n) : (eachL g n k).length = n := by simp [eachL]; omega
theorem eachL_all (g : Nat → Int) (n : Nat) : eachL g n n = ((List.range n).map g).map (Value.int .i64) := by simp [eachL]
theorem eachL_set (g : Nat → Int) {n k : Nat} (h : k < n) : (eachL g n k).set k (.int .i64 (g k)) = eachL g n (k + 1) := by
  unfold eachL
  rw [List.set_append_right _ _ (by simp), List.range_succ, List.map_append, List.append_assoc]
  congr 1
  obtain ⟨m, hm⟩ : ∃ m, n - k = m + 1 := ⟨n - k - 1, by omega⟩
  rw [hm, show n - (k + 1) = m by omega, List.replicate_succ]
  simp
def EachO (w : World) (l : List Int) (e : Ending) (w' : World) : Prop := e = .returned (.slice (some ⟨w.heap.size, 0, none⟩) l.length l.length) ∧ w'.heap[w.heap.size]? = some (.cells (l.map (Value.int .i64)).toArray 3 (0, 0)) ∧ Below w.heap.size w w'
theorem ni_blk {w : World} {g : Nat} {l : List Int} (h : w.heap[g]? = some (.cells (l.map (Value.int .i64)).toArray 3 (0, 0))) {base : Nat} (hb : base ≤ g) : NI base w (.slice (some ⟨g, 0, none⟩) l.length l.length) l :=
  ⟨.inr ⟨g, l.length, _, rfl, hb, h, Nat.le_refl _, by simp, fun j hj => by
    rw [List.getElem?_toArray, List.getElem?_map, List.getElem?_eq_getElem hj, List.getD_eq_getElem?_getD, List.getElem?_eq_getElem hj]
    rfl⟩⟩
theorem cell_blkI {w : World} {g : Nat} {l : List Int} (h : w.heap[g]? = some (.cells (l.map (Value.int .i64)).toArray 3 (0, 0))) (j : Nat) (hj : j < l.length) : w.cell? ⟨g, j, none⟩ = some (.int .i64 (l.getD j 0)) := by
  rw [(blk_cell h).1, List.getElem?_toArray, List.getElem?_map, List.getElem?_eq_getElem hj, List.getD_eq_getElem?_getD, List.getElem?_eq_getElem hj]
  rfl
set_option maxRecDepth 100000 in
theorem row1_any (A : Nat → Prop) (a : Option Addr) (c : Nat) (m : List Int) (i : Int) (pp : Addr) (w : World) (hp : w.cell? pp = some (.slice a m.length c)) (hv : IntsA A w (.slice a m.length c) m) :
    Calls Tryz.prog 191 #[.int .i64 i, .pointer (some pp)] w fun e w' => e = .returned (.int .i64 (mGet m i)) ∧ w = w' := by
  have HV := Lib.hid hv
  clear hv
  go_enter Tryz.func191, Tryz.ntmps191
  go_wp2_with fail
  refine (mget_any A a c m i _ HV.out).mono ?_
  rintro e w1 ⟨rfl, rfl⟩
  go_wp2
  go_ret
  exact ⟨rfl, rfl⟩
set_option maxRecDepth 100000 in
theorem set1_any (A : Nat → Prop) (a : Option Addr) (c : Nat) (m : List Int) (i s k : Int) (p0 p1 p2 : Addr) (w : World) (h0 : w.cell? p0 = some (.int .i64 i)) (h1 : w.cell? p1 = some (.int .i64 s)) (h2 : w.cell? p2 = some (.slice a m.length c)) (hv : IntsA A w (.slice a m.length c) m) :
    Calls Tryz.prog 162 #[.int .i64 k, .pointer (some p0), .pointer (some p1), .pointer (some p2)] w fun e w' => e = .returned (.int .i64 (if k = i then s else mGet m k)) ∧ w = w' := by
  have HV := Lib.hid hv
  clear hv
  by_cases h : k = i
  · have hb : (k == i) = true := beq_iff_eq.2 h
    rw [if_pos h]
    clear h
    go_enter Tryz.func162, Tryz.ntmps162
    go_wp2
    go_ret
    exact ⟨rfl, rfl⟩
  · have hb : (k == i) = false := beq_eq_false_iff_ne.2 h
    rw [if_neg h]
    clear h
    go_enter Tryz.func162, Tryz.ntmps162
    go_wp2_with fail
    refine (mget_any A a c m k _ HV.out).mono ?_
    rintro e w1 ⟨rfl, rfl⟩
    go_wp2
    go_ret
    exact ⟨rfl, rfl⟩
set_option maxRecDepth 100000 in
set_option maxHeartbeats 1600000 in
theorem eachR_any (n : Nat) (hn : n ≤ 10000) (g : Nat → Int) (p0 : Addr) (w : World) (hf : ∀ (W : World) (i : Nat), i < n → Below w.heap.size w W → Calls Tryz.prog 191 #[.int .i64 (i : Nat), .pointer (some p0)] W fun e w' => e = .returned (.int .i64 (g i)) ∧ W = w') :
    Calls Tryz.prog 161 #[.int .i64 n, .func (.func 191) #[] #[.pointer (some p0)]] w (EachO w ((List.range n).map g)) := by
  have hmk := make_ints n (by omega)
  have HF := Lib.hid hf
  clear hf
  go_enter Tryz.func161, Tryz.ntmps161
  go_wp2_with go_in
  go_loopw [10] (fun q wr => ∃ k : Nat, k ≤ n ∧ q = .int .i64 k ∧ wr.heap[w.heap.size]? = some (.cells (eachL g n k).toArray 3 (0, 0)) ∧ Below w.heap.size w wr) (fun q _ => n - (intOf q).toNat)
  case atStart => exact ⟨0, Nat.zero_le _, rfl, by rw [eachL_zero]; exact heap_alloc_new w _, (Below.refl _ w).alloc (Nat.le_refl _) _⟩
  case round =>
    obtain ⟨k, hk, rfl, hg, hb⟩ := hrel
    have HG := Lib.hid hg
    have HB := Lib.hid hb
    by_cases hlt : k < n
    · obtain ⟨u, hu⟩ : ∃ u, (eachL g n k)[k]? = some u := ⟨_, List.getElem?_eq_getElem (by rw [eachL_len g hk]; exact hlt)⟩
      have hc : wr.cell? ⟨w.heap.size, k, none⟩ = some u := (blk_cell hg).1.trans (by simpa using hu)
      have hfz := (blk_cell (i := k) hg).2
      have HS := Lib.hid (eachL_set g hlt)
      clear hu hg hb
      go_wp2_with fail
      refine (HF.out _ k hlt HB.out).mono ?_
      rintro e w2 ⟨rfl, rfl⟩
      go_wp2
      go_roundw
      case rel => exact ⟨k + 1, by omega, by go_num, by rw [← HS.out]; simpa using setI_blk (j := k) (v := .int .i64 (g k)) HG.out, HB.out.setCell (Nat.le_refl _ : _ ≤ (⟨w.heap.size, k, none⟩ : Addr).block) _⟩
      case measure => simp [intOf]; omega
    · obtain rfl : k = n := by omega
      clear hg hb
      go_wp2
      go_ret
      refine ⟨by simp, ?_, HB.out⟩
      rw [← eachL_all]
      exact HG.out
set_option maxRecDepth 100000 in
set_option maxHeartbeats 1600000 in
theorem eachS_any (n : Nat) (hn : n ≤ 10000) (g : Nat → Int) (p0 p1 p2 : Addr) (w : World) (hf : ∀ (W : World) (i : Nat), i < n → Below w.heap.size w W → Calls Tryz.prog 162 #[.int .i64 (i : Nat), .pointer (some p0), .pointer (some p1), .pointer (some p2)] W fun e w' => e = .returned (.int .i64 (g i)) ∧ W = w') :
    Calls Tryz.prog 161 #[.int .i64 n, .func (.func 162) #[] #[.pointer (some p0), .pointer (some p1), .pointer (some p2)]] w (EachO w ((List.range n).map g)) := by
  have hmk := make_ints n (by omega)
  have HF := Lib.hid hf
  clear hf
  go_enter Tryz.func161, Tryz.ntmps161
  go_wp2_with go_in
  go_loopw [10] (fun q wr => ∃ k : Nat, k ≤ n ∧ q = .int .i64 k ∧ wr.heap[w.heap.size]? = some (.cells (eachL g n k).toArray 3 (0, 0)) ∧ Below w.heap.size w wr) (fun q _ => n - (intOf q).toNat)
  case atStart => exact ⟨0, Nat.zero_le _, rfl, by rw [eachL_zero]; exact heap_alloc_new w _, (Below.refl _ w).alloc (Nat.le_refl _) _⟩
  case round =>
    obtain ⟨k, hk, rfl, hg, hb⟩ := hrel
    have HG := Lib.hid hg
    have HB := Lib.hid hb
    by_cases hlt : k < n
    · obtain ⟨u, hu⟩ : ∃ u, (eachL g n k)[k]? = some u := ⟨_, List.getElem?_eq_getElem (by rw [eachL_len g hk]; exact hlt)⟩
      have hc : wr.cell? ⟨w.heap.size, k, none⟩ = some u := (blk_cell hg).1.trans (by simpa using hu)
      have hfz := (blk_cell (i := k) hg).2
      have HS := Lib.hid (eachL_set g hlt)
      clear hu hg hb
      go_wp2_with fail
      refine (HF.out _ k hlt HB.out).mono ?_
      rintro e w2 ⟨rfl, rfl⟩
      go_wp2
      go_roundw
      case rel => exact ⟨k + 1, by omega, by go_num, by rw [← HS.out]; simpa using setI_blk (j := k) (v := .int .i64 (g k)) HG.out, HB.out.setCell (Nat.le_refl _ : _ ≤ (⟨w.heap.size, k, none⟩ : Addr).block) _⟩
      case measure => simp [intOf]; omega
    · obtain rfl : k = n := by omega
      clear hg hb
      go_wp2
      go_ret
      refine ⟨by simp, ?_, HB.out⟩
      rw [← eachL_all]
      exact HG.out
set_option maxRecDepth 100000 in
set_option maxHeartbeats 1600000 in
theorem clean_any (g cap : Nat) (l : List Int) (w : World) (hc : ∀ j, j < l.length → w.cell? ⟨g, j, none⟩ = some (.int .i64 (l.getD j 0))) (hcap : l.length ≤ cap) (hl : cap ≤ 100000) :
    Calls Tryz.prog 160 #[.slice (some ⟨g, 0, none⟩) l.length cap] w fun e w' => e = .returned (.slice (some ⟨g, 0, none⟩) (topN l l.length) (topN l l.length)) ∧ w = w' := by
  have HC := Lib.hid hc
  clear hc
  go_enter Tryz.func160, Tryz.ntmps160
  go_wp2
  go_loop [3] (fun n => ∃ k : Nat, k ≤ l.length ∧ n = .int .i64 k ∧ topN l l.length = topN l k) (fun n => (intOf n).toNat)
  case atStart => exact ⟨l.length, Nat.le_refl _, rfl, rfl⟩
  case round =>
    obtain ⟨k, hk, rfl, ht⟩ := hrel
    have HT := Lib.hid ht
    clear ht
    cases k with
    | zero =>
      have HT0 : Hid (topN l l.length = 0) := Lib.hid (by rw [HT.out]; rfl)
      go_wp2
      go_ret
      rw [HT0.out]
      exact ⟨rfl, rfl⟩
    | succ j =>
      have hcj := HC.out j (by omega)
      obtain ⟨x, hx⟩ : ∃ x, l.getD j 0 = x := ⟨_, rfl⟩
      have HTS : Hid (topN l (j + 1) = if x = 0 then topN l j else j + 1) := Lib.hid (by rw [← hx]; rfl)
      rw [hx] at hcj
      clear hx
      have hw1 : IntKind.i64.wrap (((j + 1 : Nat) : Int) - 1) = (j : Int) := by rw [IntKind.wrap_i64]; omega
      have hw2 : ((j + 1 : Nat) : Int) - 1 = (j : Int) := by omega
      have hj0 : (0 : Int) ≤ (j : Int) := by omega
      have hjl : (j : Int) < l.length := by omega
      have hjp : (0 : Int) < ((j + 1 : Nat) : Int) := by omega
      have HJ : Hid (((j + 1 : Nat) : Int) ≤ 100000) := Lib.hid (by omega)
      generalize hN : ((j + 1 : Nat) : Int) = N at *
      cases hz : (x == 0)
      · have HTJ : Hid (topN l l.length = j + 1) := Lib.hid (by rw [HT.out, HTS.out, if_neg (by simpa using hz)])
        have hNt : N.toNat = j + 1 := by omega
        have hNc : N ≤ cap := by omega
        have HN := Lib.hid hN
        clear hN
        go_wp2
        go_ret
        rw [HTJ.out]
        exact ⟨rfl, rfl⟩
      · have HTJ : Hid (topN l l.length = topN l j) := Lib.hid (by rw [HT.out, HTS.out, if_pos (by simpa using hz)])
        have HN := Lib.hid hN
        clear hN
        go_wp2
        go_round
        case rel => exact ⟨j, by omega, rfl, HTJ.out⟩
        case measure =>
          have := HN.out
          simp [intOf]
          omega
theorem mAll_is (m : List Int) (N : Nat) (h : N = min m.length 512) : (List.range N).map (fun j => mGet m (j : Nat)) = mAll m := by subst h; rfl
theorem three_blk {w : World} {o1 o2 o3 : Obj} : (((w.alloc o1).alloc o2).alloc o3).heap[w.heap.size]? = some o1 ∧ (((w.alloc o1).alloc o2).alloc o3).heap[w.heap.size + 1]? = some o2 ∧ (((w.alloc o1).alloc o2).alloc o3).heap[w.heap.size + 2]? = some o3 := by
  refine ⟨?_, ?_, ?_⟩
  · exact (Below.heap_alloc _ _ _ (by simp; omega)).trans ((Below.heap_alloc _ _ _ (by simp)).trans (heap_alloc_new w o1))
  · have := heap_alloc_new (w.alloc o1) o2
    simp only [World.size_alloc] at this
    exact (Below.heap_alloc _ _ _ (by simp)).trans this
  · have := heap_alloc_new ((w.alloc o1).alloc o2) o3
    simpa only [World.size_alloc] using this
set_option maxRecDepth 100000 in
set_option maxHeartbeats 1600000 in
theorem prow_any (A : Nat → Prop) (a : Option Addr) (c : Nat) (m : List Int) (w : World) (hv : IntsA A w (.slice a m.length c) m) (hl : m.length ≤ 1000000) : Calls Tryz.prog 159 #[.slice a m.length c] w (NewI w (mRow m)) := by
  obtain ⟨N, hN⟩ : ∃ N : Nat, min (m.length : Int) 512 = (N : Int) := ⟨min m.length 512, by omega⟩
  have hN5 : N ≤ 512 := by omega
  have HA := mAll_is m N (by omega)
  obtain ⟨W1, hW1⟩ : ∃ W1, W1 = w.alloc (.cells #[.slice a m.length c] 24) := ⟨_, rfl⟩
  have hs1 : W1.heap.size = w.heap.size + 1 := by rw [hW1]; simp
  have hb1 : Below w.heap.size w W1 := by rw [hW1]; exact (Below.refl _ w).alloc (Nat.le_refl _) _
  have hc1 : W1.cell? ⟨w.heap.size, 0, none⟩ = some (.slice a m.length c) := by rw [hW1]; simp
  have hE := eachR_any N (by omega) (fun j => mGet m (j : Nat)) ⟨w.heap.size, 0, none⟩ W1 (fun W i _ hW => row1_any A a c m i _ W (cellExt hW hc1) (SlE.ext (SlE.ext hv hb1) hW))
  rw [HA] at hE
  have hlen : (mAll m).length ≤ 512 := by rw [mAll_len]; omega
  have HR : Hid (mRow m = (mAll m).take (topN (mAll m) (mAll m).length)) := Lib.hid rfl
  generalize mAll m = L at *
  have HE : Hid (∀ x : Int, x = (N : Int) → Calls Tryz.prog 161 #[.int .i64 x, .func (.func 191) #[] #[.pointer (some ⟨w.heap.size, 0, none⟩)]] W1 (EachO W1 L)) := Lib.hid fun x hx => by rw [hx]; exact hE
  have HB1 := Lib.hid hb1
  have HW1 := Lib.hid hW1
  have HS1 := Lib.hid hs1
  have HN := Lib.hid hN
  clear hv hE hb1 HA hc1 hW1 hs1 hN hN5
  go_enter Tryz.func159, Tryz.ntmps159
  go_wp2_with fail
  all_goals
   rw [← HW1.out]
   refine (HE.out _ (by have := HN.out; omega)).mono ?_
   rintro e w1 ⟨rfl, hg, hb⟩
   have hbb : Below w.heap.size w w1 := HB1.out.trans (hb.mono (by have := HS1.out; omega))
   have hgl : w.heap.size ≤ W1.heap.size := HB1.out.size
   have HC := Lib.hid (cell_blkI hg)
   have HG := Lib.hid hg
   have HB := Lib.hid hbb
   clear hg hb hbb HW1
   generalize W1.heap.size = g at *
   go_wp2_with fail
   refine (clean_any g L.length L _ HC.out (Nat.le_refl _) (by omega)).mono ?_
   rintro e w2 ⟨rfl, rfl⟩
   go_wp2
   go_ret
   have hni := (ni_blk HG.out (base := w.heap.size) hgl).take (topN L L.length) (topN_le L L.length)
   exact ⟨_, rfl, by rw [HR.out]; exact hni, HB.out⟩
set_option maxRecDepth 100000 in
set_option maxHeartbeats 1600000 in
theorem pset_any (A : Nat → Prop) (a : Option Addr) (c : Nat) (m : List Int) (i s : Int) (w : World) (hv : IntsA A w (.slice a m.length c) m) (hl : m.length ≤ 1000000) : Calls Tryz.prog 99 #[.slice a m.length c, .int .i64 i, .int .i64 s] w (NewI w (mSet m i s)) := by
  obtain ⟨W1, hW1⟩ : ∃ W1, W1 = ((w.alloc (.cells #[.slice a m.length c] 24)).alloc (.cells #[.int .i64 i] 3)).alloc (.cells #[.int .i64 s] 3) := ⟨_, rfl⟩
  have hs1 : W1.heap.size = w.heap.size + 3 := by rw [hW1]; simp
  have hb1 : Below w.heap.size w W1 := by rw [hW1]; exact (((Below.refl _ w).alloc (Nat.le_refl _) _).alloc (by simp) _).alloc (by simp; omega) _
  obtain ⟨t0, t1, t2⟩ : W1.heap[w.heap.size]? = some (.cells #[.slice a m.length c] 24 (0, 0)) ∧ W1.heap[w.heap.size + 1]? = some (.cells #[.int .i64 i] 3 (0, 0)) ∧ W1.heap[w.heap.size + 2]? = some (.cells #[.int .i64 s] 3 (0, 0)) := by rw [hW1]; exact three_blk
  have hc0 : W1.cell? ⟨w.heap.size, 0, none⟩ = some (.slice a m.length c) := (blk_cell t0).1
  have hc1 : W1.cell? ⟨w.heap.size + 1, 0, none⟩ = some (.int .i64 i) := (blk_cell t1).1
  have hc2 : W1.cell? ⟨w.heap.size + 2, 0, none⟩ = some (.int .i64 s) := (blk_cell t2).1
  clear t0 t1 t2
  have hv1 := SlE.ext hv hb1
  have HRow := Lib.hid (prow_any A a c m W1 hv1 hl)
  have HB1 := Lib.hid hb1
  have HW1 := Lib.hid hW1
  have HS1 := Lib.hid hs1
  by_cases hi : i < 0 ∨ (0 ≤ i ∧ 512 ≤ i)
  · have HX : Hid (mSet m i s = mRow m) := Lib.hid (by unfold mSet; rw [if_neg (by omega)])
    clear hv hb1 hW1 hs1 hc0 hc1 hc2 hv1
    rcases hi with hi | ⟨hi, hi2⟩
    all_goals
      go_enter Tryz.func99, Tryz.ntmps99
      go_wp2_with fail
      rw [← HW1.out]
      refine HRow.out.mono ?_
      rintro e w1 ⟨v1, rfl, h1, hb⟩
      have H1 := Lib.hid (h1.base_le HB1.out.size)
      have HB : Hid (Below w.heap.size w w1) := Lib.hid (HB1.out.trans (hb.mono HB1.out.size))
      clear h1 hb HW1
      go_wp2
      go_ret
      rw [HX.out]
      exact ⟨_, rfl, H1.out, HB.out⟩
  · have hi0 : 0 ≤ i := by omega
    have hi5 : i < 512 := by omega
    clear hi
    by_cases hr : 0 ≤ s ∧ s ≤ 2
    · have HR := Lib.hid (decide_eq_true hr)
      obtain ⟨N, hN⟩ : ∃ N : Nat, max (min (m.length : Int) 512) (i + 1) = (N : Int) := ⟨max (min m.length 512) (i.toNat + 1), by omega⟩
      have hN5 : N ≤ 512 := by omega
      have HX : Hid (mSet m i s = strip ((List.range N).map fun (k : Nat) => if (k : Int) = i then s else mGet m k)) := Lib.hid (by
        unfold mSet
        rw [if_pos (by omega), show max (min m.length 512) (i.toNat + 1) = N by omega])
      have hE := eachS_any N (by omega) (fun (k : Nat) => if (k : Int) = i then s else mGet m k) ⟨w.heap.size + 1, 0, none⟩ ⟨w.heap.size + 2, 0, none⟩ ⟨w.heap.size, 0, none⟩ W1 (fun W j _ hW => set1_any A a c m i s j _ _ _ W (cellExt hW hc1) (cellExt hW hc2) (cellExt hW hc0) (SlE.ext hv1 hW))
      have hlen : ((List.range N).map fun (k : Nat) => if (k : Int) = i then s else mGet m k).length ≤ 512 := by simp; omega
      generalize ((List.range N).map fun (k : Nat) => if (k : Int) = i then s else mGet m k) = L at *
      have HE : Hid (∀ x : Int, x = (N : Int) → Calls Tryz.prog 161 #[.int .i64 x, .func (.func 162) #[] #[.pointer (some ⟨w.heap.size + 1, 0, none⟩), .pointer (some ⟨w.heap.size + 2, 0, none⟩), .pointer (some ⟨w.heap.size, 0, none⟩)]] W1 (EachO W1 L)) := Lib.hid fun x hx => by rw [hx]; exact hE
      have HN := Lib.hid hN
      clear hr hv hb1 hW1 hs1 hc0 hc1 hc2 hv1 hE hN hN5
      go_enter Tryz.func99, Tryz.ntmps99
      go_wp2_with fail
      refine (mright_any s _).mono ?_
      rw [HR.out]
      rintro e w0 ⟨rfl, rfl⟩
      go_wp2_with fail
      all_goals
       rw [← HW1.out]
       refine (HE.out _ (by have := HN.out; omega)).mono ?_
       rintro e w1 ⟨rfl, hg, hb⟩
       have hbb : Below w.heap.size w w1 := HB1.out.trans (hb.mono (by have := HS1.out; omega))
       have hgl : w.heap.size ≤ W1.heap.size := HB1.out.size
       have HC := Lib.hid (cell_blkI hg)
       have HG := Lib.hid hg
       have HB := Lib.hid hbb
       clear hg hb hbb HW1
       generalize W1.heap.size = g at *
       go_wp2_with fail
       refine (clean_any g L.length L _ HC.out (Nat.le_refl _) (by omega)).mono ?_
       rintro e w2 ⟨rfl, rfl⟩
       go_wp2
       go_ret
       have hni := (ni_blk HG.out (base := w.heap.size) hgl).take (topN L L.length) (topN_le L L.length)
       exact ⟨_, rfl, by rw [HX.out]; exact hni, HB.out⟩
    · have HR := Lib.hid (decide_eq_false hr)
      have HX : Hid (mSet m i s = mRow m) := Lib.hid (by unfold mSet; rw [if_neg (by omega)])
      clear hr hv hb1 hW1 hs1 hc0 hc1 hc2 hv1
      go_enter Tryz.func99, Tryz.ntmps99
      go_wp2_with fail
      refine (mright_any s _).mono ?_
      rw [HR.out]
      rintro e w0 ⟨rfl, rfl⟩
      go_wp2_with fail
      rw [← HW1.out]
      refine HRow.out.mono ?_
      rintro e w1 ⟨v1, rfl, h1, hb⟩
      have H1 := Lib.hid (h1.base_le HB1.out.size)
      have HB : Hid (Below w.heap.size w w1) := Lib.hid (HB1.out.trans (hb.mono HB1.out.size))
      clear h1 hb HW1
      go_wp2
      go_ret
      rw [HX.out]
      exact ⟨_, rfl, H1.out, HB.out⟩
end Go.Proofs.YtlekdfajcpmolaaGreatDoor
