/- The walk of slices.Insert at keys: one key into a row of the call's own. -/
import Derived.Test.YtohfckkgmijlnaaGreatDoorPD
import Derived.Test.YtohfckkgmijlnaaGreatDoorPA
import Derived.Lib.Overlaps
import Derived.Lib.AppendZerosOnto
import Derived.Laws.NewBlocks
import Derived.Laws.Externs
import Derived.Deep.RegionLaw
import Derived.Laws.IdiomCopy
namespace Go.Proofs.YtohfckkgmijlnaaGreatDoor
open Go.RowKit Go.WideShapes Go.Lib

/-- what slices.Insert leaves: a row of the call's own -/
def InsR (base n : Nat) (v : Value) (xs Y : List Value) (p : Nat) (w : World) (e : Ending) (w' : World) : Prop :=
  ∃ v', e = .returned v' ∧ w'.ownsRow base 62 2 v' (n + 1) (xs.take p ++ Y ++ xs.drop p) ∧ Fr (fun k => some k = v.ownBlock) w w' ∧ (v'.ownBlock = v.ownBlock ∨ ∃ g, v'.ownBlock = some g ∧ w.heap.size ≤ g)
theorem hsz2 : (Tryz.prog.info? 62).map (·.size) = some 2 := by kernel_rfl
theorem key_size (w : World) : (Go.sizeOf 62).run Tryz.prog w = .ok 2 w := by kernel_rfl
theorem zc_size (z : Array Value) (k : Nat) (h : z.size = 2) : (Builtin.zeroCells z k).size = k * 2 := by simp [Builtin.zeroCells, h]
set_option maxHeartbeats 4000000 in
set_option maxRecDepth 100000 in
theorem ins_shift (base g n c i vb : Nat) (cur : Array Value) (xs : List Value) (x y : Value) (w : World) (hi : i < n) (hroom : n + 1 ≤ c) (hc : c ≤ maxLen) (hvb : vb ≠ g)
    (hg : w.heap[g]? = some (.cells cur 62 (0, 0))) (hbg : base ≤ g) (hcur : cur.size = c * 2) (hxs : cur.toList.take (n * 2) = xs) (h1 : ∀ v ∈ xs, v.oneCell' = true)
    (hv : w.heap[vb]? = some (.cells #[x, y] 62 (0, 0))) (h1x : x.oneCell' = true) (h1y : y.oneCell' = true) :
    Calls Tryz.prog 108 #[.slice (some ⟨g, 0, none⟩) n c, .int .i64 i, .slice (some ⟨vb, 0, none⟩) 1 1] w (InsR base n (.slice (some ⟨g, 0, none⟩) n c) xs [x, y] (i * 2) w) := by
  have hxl : xs.length = n * 2 := by rw [← hxs]; simp; omega
  have hz2 : ¬ ((i : Int) = (n : Int)) := by omega
  have hov : ∀ lb cb, (callFunc 122 #[.slice (some ⟨vb, 0, none⟩) 1 1, .slice (some ⟨g, (i + 1) * 2, none⟩) lb cb]).run Tryz.prog w = .ok (.value (.bool false)) w := fun lb cb => by
    rw [run_callFunc_extern Tryz.func122 (by kernel_rfl) (by kernel_rfl) (by kernel_rfl) (e := Extern.SlicesOverlaps.overlaps #[39, 39] #[4]) (by kernel_rfl),
      Lib.run_overlaps_apart w 39 4 62 Tryz.underlying39 2 key_size ⟨vb, 0, none⟩ ⟨g, (i + 1) * 2, none⟩ 1 1 lb cb hvb 62 62 2 (c * 2) (by simp [World.shape?, hv]) (by simp [World.shape?, hg, hcur]) (by omega) (by simp [World.frozen?, hv]) (by simp [World.frozen?, hv])]
    rfl
  unfold maxLen at hc
  have hw1 : IntKind.i64.wrap ((i : Int) + 1) = (i : Int) + 1 := by rw [IntKind.wrap_i64]; omega
  have hb1 : (0 : Int) ≤ (i : Int) + 1 := by omega
  have hin : i ≤ n := by omega
  have htn : ((i : Int) + 1).toNat = i + 1 := by omega
  have hb2 : ¬ (c = i + 1) := by omega
  have hb3 : (i : Int) ≤ (n : Int) + 1 := by omega
  have hb4 : ¬ (c = i) := by omega
  have HD : Hid ((xs.drop (i * 2)).length = (n - i) * 2) := by show List.length _ = _; rw [List.length_drop, hxl]; omega
  have HS : Hid (∀ j v, (xs.drop (i * 2))[j]? = some v → w.cell? ((⟨g, i * 2, none⟩ : Addr).add j) = some v) := by
    show ∀ j v, _
    intro j v hj
    rw [List.getElem?_drop] at hj
    have hjl := (List.getElem?_eq_some_iff.1 hj).1
    rw [← hxs, List.getElem?_take, if_pos (by omega)] at hj
    rw [add_plain, (blk_cell hg).1, ← Array.getElem?_toList]
    exact hj
  have HI := Lib.hid (ins_splice cur.toList xs [x, y] (i * 2) (by omega) (by rw [hxl]; exact hxs) (by simp; omega))
  have HV := Lib.hid hv
  have HG := Lib.hid hg
  have HC := Lib.hid hcur
  have H1 := Lib.hid h1
  have HXL := Lib.hid hxl
  obtain ⟨D, hD⟩ : ∃ D, D = xs.drop (i * 2) := ⟨_, rfl⟩
  have H1D : Hid (∀ v ∈ D, v.oneCell' = true) := by show ∀ v ∈ D, _; rw [hD]; exact fun v hv => h1 v (List.mem_of_mem_drop hv)
  rw [← hD] at HD HS HI
  have HDX := Lib.hid hD
  have G1 : Hid (w.drew.heap[g]? = some (.cells cur.toList.toArray 62 (0, 0))) := (show w.drew.heap[g]? = _ from hg.trans (by simp))
  have M1 : Hid (n - i = Nat.min (n + 1 - i) (n - i)) := by show _ = _; simp only [Nat.min_def]; split <;> omega
  have F1 : Hid ((i + 1) * 2 + D.length ≤ cur.toList.length) := by show _ ≤ _; rw [HD.out]; simp; omega
  clear hv hg hcur h1 hxs hxl hD
  go_enter Tryz.func108, Tryz.ntmps108
  go_wp2_with (simp only [hov])
  go_region_law (refine step_copy_fr2 rfl (.tmp 73) (.tmp 76) 39 39 rfl 62 Tryz.underlying39 hsz2 g ((i + 1) * 2) (n - i) (c - (i + 1)) ⟨g, i * 2, none⟩ (n + 1 - i) (c - i) (by simp [Act.eval, Act.put]) (by simp [Act.eval, Act.put]) cur.toList 62 G1.out D (n - i) M1.out HD.out HS.out F1.out H1D.out ?_; intro w4 hg4 hf4)
  have hv4 : w4.heap[vb]? = some (.cells #[x, y] 62 (0, 0)) := (hf4.out.block vb ((Array.getElem?_eq_some_iff.1 HV.out).1) hvb).trans HV.out
  have S2 : Hid (∀ j v, ([x, y] : List Value)[j]? = some v → w4.cell? ((⟨vb, 0, none⟩ : Addr).add j) = some v) := by
    show ∀ j v, _
    intro j v hj
    rw [add_plain, Nat.zero_add, (blk_cell hv4).1]
    simpa using hj
  have L4 : Hid ((splice cur.toList ((i + 1) * 2) D).length = c * 2) := by
    show List.length _ = _
    rw [splice_len _ _ _ F1.out]
    simpa using HC.out
  have F2 : Hid (i * 2 + ([x, y] : List Value).length ≤ (splice cur.toList ((i + 1) * 2) D).length) := by show _ ≤ _; rw [L4.out]; simp; omega
  have H1Y : Hid (∀ v ∈ ([x, y] : List Value), v.oneCell' = true) := by
    show ∀ v ∈ _, _
    intro v hv
    simp at hv
    rcases hv with rfl | rfl
    · exact h1x
    · exact h1y
  have M2 : Hid (1 = Nat.min 1 (n + 1 - i)) := by show _ = _; simp only [Nat.min_def]; split <;> omega
  have HF4 := Lib.hid hf4.out
  clear hv4 hf4
  go_wp2_with (with_reducible refine wpList_copy_fr2 rfl (.tmp 80) (.tmp 81) 39 39 rfl 62 Tryz.underlying39 hsz2 g (i * 2) _ _ ⟨vb, 0, none⟩ 1 1 rfl rfl (splice cur.toList ((i + 1) * 2) D) 62 hg4.out [x, y] 1 M2.out rfl S2.out F2.out H1Y.out ?_)
  intro w5 hg5 hf5
  have HG5 := Lib.hid hg5.out
  have HF5 := Lib.hid hf5.out
  clear hg5 hf5 hg4
  go_wp2
  go_ret
  refine ⟨_, rfl, ⟨?_, .inr ⟨g, c, _, rfl, hbg, HG5.out, hroom, by unfold maxLen; omega, ?_, ?_⟩⟩, ?_, .inl rfl⟩
  · simp only [List.length_append, List.length_take, List.length_cons, List.length_nil, List.length_drop, HXL.out]; omega
  · simp only [List.size_toArray]
    rw [splice_len _ _ _ F2.out, L4.out]
  · have h := HI.out
    rw [HXL.out] at h
    have e : (i + 1) * 2 = i * 2 + ([x, y] : List Value).length := by simp; omega
    have e2 : (n + 1) * 2 = n * 2 + ([x, y] : List Value).length := by simp; omega
    rw [e, e2, ← HDX.out]
    simpa using h
  · exact (Fr.trans (S := fun k => k = g) (T := fun k => k = g) (Fr.trans (S := fun k => k = g) (T := fun k => k = g) ((Fr.refl _ w).drew) HF4.out (fun _ _ h => h)) HF5.out (fun _ _ h => h)).weaken fun k _ hk => by simp [Value.ownBlock, hk]
theorem two_cells {w : World} {vb : Nat} {x y : Value} (hv : w.heap[vb]? = some (.cells #[x, y] 62 (0, 0))) : ∀ j v, ([x, y] : List Value)[j]? = some v → w.cell? ((⟨vb, 0, none⟩ : Addr).add j) = some v := by
  intro j v hj
  rw [add_plain, Nat.zero_add, (blk_cell hv).1]
  simpa using hj
theorem two_one {x y : Value} (h1x : x.oneCell' = true) (h1y : y.oneCell' = true) : ∀ v ∈ ([x, y] : List Value), v.oneCell' = true := by
  intro v hv
  simp at hv
  rcases hv with rfl | rfl
  · exact h1x
  · exact h1y
theorem fr_grown {w w' : World} {row : Option Nat} (h : w.grownBy w' row) : Fr (fun k => some k = row) w w' :=
  ⟨h.os, h.tape, h.output, h.size, fun k hk hn => h.block k hk hn⟩
set_option maxHeartbeats 4000000 in
set_option maxRecDepth 100000 in
theorem ins_end (base n vb : Nat) (v : Value) (xs : List Value) (x y : Value) (w : World) (ho : w.ownsRow base 62 2 v n xs) (hbase : base ≤ w.heap.size) (hn : n ≤ 100000)
    (hv : w.heap[vb]? = some (.cells #[x, y] 62 (0, 0))) (h1x : x.oneCell' = true) (h1y : y.oneCell' = true) :
    Calls Tryz.prog 108 #[v, .int .i64 n, .slice (some ⟨vb, 0, none⟩) 1 1] w (InsR base n v xs [x, y] (n * 2) w) := by
  obtain ⟨i0, hi, hz0, hz1, hz2⟩ := info_parts infoKey
  have HO := Lib.hid ho
  have HX : Hid (xs.length = n * 2) := ho.1
  have HS := Lib.hid (two_cells hv)
  have H1 := Lib.hid (two_one h1x h1y)
  clear hv h1x h1y
  rcases ho.2 with ⟨rfl, rfl⟩ | ⟨g, c, cur, rfl, hbg, hg, hnc, hcm, hcs, ht⟩
  · clear ho
    go_enter Tryz.func108, Tryz.ntmps108
    go_wp2_with (at_builtin; refine wpList_append_own_at _ rfl _ _ 39 rfl base 62 i0 _ 2 40 Tryz.underlying39 hi hz0 hz1 hz2 rfl (by decide) _ 0 xs rfl HO.out ⟨vb, 0, none⟩ 1 1 [x, y] rfl rfl HS.out H1.out ?c1 ?c2 hbase ?_)
    case c1 => unfold maxLen; omega
    case c2 => omega
    intro v' w' h2 h3 _ h5
    have H2 := Lib.hid h2
    have H3 := Lib.hid h3
    have H5 := Lib.hid h5
    clear h2 h3 h5
    go_wp2
    go_ret
    have hx0 : xs = [] := List.eq_nil_of_length_eq_zero HX.out
    subst hx0
    exact ⟨v', rfl, by simpa using H2.out, fr_grown H3.out, H5.out.imp id fun h => ⟨_, h, Nat.le_refl _⟩⟩
  · clear ho hg ht hcs
    unfold maxLen at hcm
    by_cases hcn : c = n
    · go_enter Tryz.func108, Tryz.ntmps108
      go_wp2_with (at_builtin; refine wpList_append_own_at _ rfl _ _ 39 rfl base 62 i0 _ 2 40 Tryz.underlying39 hi hz0 hz1 hz2 rfl (by decide) _ _ xs rfl HO.out ⟨vb, 0, none⟩ 1 1 [x, y] rfl rfl HS.out H1.out ?c3 ?c4 hbase ?_)
      case c3 => unfold maxLen; omega
      case c4 => omega
      intro v' w' h2 h3 _ h5
      have H2 := Lib.hid h2
      have H3 := Lib.hid h3
      have H5 := Lib.hid h5
      clear h2 h3 h5
      go_wp2
      go_ret
      refine ⟨v', rfl, ?_, fr_grown H3.out, H5.out.imp id fun h => ⟨_, h, Nat.le_refl _⟩⟩
      rw [List.take_of_length_le (by rw [HX.out]; exact Nat.le_refl _), List.drop_of_length_le (by rw [HX.out]; exact Nat.le_refl _), List.append_nil]
      exact H2.out
    · go_enter Tryz.func108, Tryz.ntmps108
      go_wp2_with (at_builtin; refine wpList_append_own_at _ rfl _ _ 39 rfl base 62 i0 _ 2 40 Tryz.underlying39 hi hz0 hz1 hz2 rfl (by decide) _ _ xs rfl HO.out ⟨vb, 0, none⟩ 1 1 [x, y] rfl rfl HS.out H1.out ?c5 ?c6 hbase ?_)
      case c5 => unfold maxLen; omega
      case c6 => omega
      intro v' w' h2 h3 _ h5
      have H2 := Lib.hid h2
      have H3 := Lib.hid h3
      have H5 := Lib.hid h5
      clear h2 h3 h5
      go_wp2
      go_ret
      refine ⟨v', rfl, ?_, fr_grown H3.out, H5.out.imp id fun h => ⟨_, h, Nat.le_refl _⟩⟩
      rw [List.take_of_length_le (by rw [HX.out]; exact Nat.le_refl _), List.drop_of_length_le (by rw [HX.out]; exact Nat.le_refl _), List.append_nil]
      exact H2.out
set_option maxHeartbeats 4000000 in
set_option maxRecDepth 100000 in
theorem ins_grow (base g n c i vb : Nat) (cur : Array Value) (xs : List Value) (x y : Value) (w : World) (hi : i < n) (hnc : n ≤ c) (hroom : c < n + 1) (hn : n ≤ 100000)
    (hg : w.heap[g]? = some (.cells cur 62 (0, 0))) (hbase : base ≤ w.heap.size) (hcur : cur.size = c * 2) (hxs : cur.toList.take (n * 2) = xs) (h1 : ∀ v ∈ xs, v.oneCell' = true)
    (hv : w.heap[vb]? = some (.cells #[x, y] 62 (0, 0))) (h1x : x.oneCell' = true) (h1y : y.oneCell' = true) :
    Calls Tryz.prog 108 #[.slice (some ⟨g, 0, none⟩) n c, .int .i64 i, .slice (some ⟨vb, 0, none⟩) 1 1] w (InsR base n (.slice (some ⟨g, 0, none⟩) n c) xs [x, y] (i * 2) w) := by
  have hxl : xs.length = n * 2 := by rw [← hxs]; simp; omega
  obtain ⟨i0, hi0, hz0, hz1, hz2⟩ := info_parts infoKey
  have hgl : g < w.heap.size := (Array.getElem?_eq_some_iff.1 hg).1
  have hvl : vb < w.heap.size := (Array.getElem?_eq_some_iff.1 hv).1
  have hcell : ∀ j u, xs[j]? = some u → w.cell? ⟨g, j, none⟩ = some u := by
    intro j u hj
    have hjl := (List.getElem?_eq_some_iff.1 hj).1
    rw [← hxs, List.getElem?_take, if_pos (by omega)] at hj
    rw [(blk_cell hg).1, ← Array.getElem?_toList]
    exact hj
  have hold : (Builtin.firstCells i0.size i (.slice (some ⟨g, 0, none⟩) i c)).run Tryz.prog w.drew = .ok (xs.take (i * 2)).toArray w.drew := by
    rw [hz1]
    exact run_firstCells_some w.drew 2 i ⟨g, 0, none⟩ i c (xs.take (i * 2)) (by rw [List.length_take]; omega) (fun j v hj => by
      rw [add_plain, Nat.zero_add]
      rw [List.getElem?_take] at hj
      split at hj
      · exact hcell j v hj
      · cases hj)
  have hkk : (n : Int) + 1 - (i : Int) = ((n + 1 - i : Nat) : Int) := by omega
  have hik : i + (n + 1 - i) = n + 1 := by omega
  obtain ⟨G, hG⟩ : ∃ G, G = grownCap w (n + 1) c 62 := ⟨_, rfl⟩
  obtain ⟨Z, hZ⟩ : ∃ Z : List Value, Z = (Builtin.zeroCells (Value.agg #[.string ByteArray.empty, .slice none 0 0]).cells (n + 1 - i)).toList ++ (Builtin.zeroCells (Value.agg #[.string ByteArray.empty, .slice none 0 0]).cells (G - (n + 1))).toList := ⟨_, rfl⟩
  have hGn : n + 1 ≤ G := by rw [hG]; exact grownCap_ge w _ _ _
  have hG63 : G ≤ maxLen := by rw [hG]; exact grownCap_le_maxLen w (n + 1) c 62 (by unfold maxLen; omega)
  have hZl : Z.length = (G - i) * 2 := by
    rw [hZ]
    simp only [List.length_append, Array.length_toList]
    rw [zc_size _ _ (by rfl), zc_size _ _ (by rfl)]
    omega
  have hrz : ∀ ty, (Builtin.append_ #[39, 3] ty #[.slice (some ⟨g, 0, none⟩) i c, .int .i64 ((n : Int) + 1 - (i : Int))]).run Tryz.prog w =
      .ok (.slice (some ⟨w.heap.size, 0, none⟩) (n + 1) G) (w.drew.alloc (.cells (xs.take (i * 2) ++ Z).toArray 62)) := fun ty => by
    have h := Lib.run_append_grow_zeros w 39 3 ty 62 i0 _ .i64 .i64 Tryz.underlying39 Tryz.underlying3 hi0 hz0 (some ⟨g, 0, none⟩) i c (xs.take (i * 2)) hold (n + 1 - i) (by omega) (by omega) (by omega) (by omega) (by rw [hz2]; omega) (by rw [hz2, hik]; exact growslice_fits hroom (by omega))
    rw [hik, ← hG] at h
    rw [hkk, h]
    congr 3
    rw [hZ]
    apply Array.toList_inj.1
    simp
  obtain ⟨D, hD⟩ : ∃ D, D = xs.drop (i * 2) := ⟨_, rfl⟩
  have HDX := Lib.hid hD
  have HD : Hid (D.length = (n - i) * 2) := by show List.length _ = _; rw [hD, List.length_drop, hxl]; omega
  have H1D : Hid (∀ v ∈ D, v.oneCell' = true) := by show ∀ v ∈ D, _; rw [hD]; exact fun v hv => h1 v (List.mem_of_mem_drop hv)
  have HS : Hid (∀ (W : World), Fr (fun k => k = w.heap.size) w W → ∀ j v, D[j]? = some v → W.cell? ((⟨g, i * 2, none⟩ : Addr).add j) = some v) := by
    show ∀ W, _
    intro W hW j v hj
    rw [hD, List.getElem?_drop] at hj
    rw [add_plain, hW.cell (p := ⟨g, i * 2 + j, none⟩) hgl (by show ¬ g = w.heap.size; omega)]
    exact hcell _ v hj
  have HV : Hid (∀ (W : World), Fr (fun k => k = w.heap.size) w W → ∀ j v, ([x, y] : List Value)[j]? = some v → W.cell? ((⟨vb, 0, none⟩ : Addr).add j) = some v) := by
    show ∀ W, _
    intro W hW
    exact two_cells ((hW.block vb hvl (by omega)).trans hv)
  have H1Y := Lib.hid (two_one h1x h1y)
  have HN := Lib.hid (new_splice Z xs [x, y] (i * 2) (by omega) (by simp; omega))
  have HXL := Lib.hid hxl
  have HZL := Lib.hid hZl
  have HTL : Hid ((xs.take (i * 2)).length = i * 2) := by show List.length _ = _; rw [List.length_take]; omega
  have hGi : ¬ (G = i) := by omega
  have hGi1 : ¬ (G = i + 1) := by omega
  have hci : ¬ (c = i) := by omega
  unfold maxLen at hG63
  have hz2' : ¬ ((i : Int) = (n : Int)) := by omega
  have hz3 : (c : Int) < (n : Int) + 1 := by omega
  have hw1 : IntKind.i64.wrap ((i : Int) + 1) = (i : Int) + 1 := by rw [IntKind.wrap_i64]; omega
  have hb1 : (0 : Int) ≤ (i : Int) + 1 := by omega
  have htn : ((i : Int) + 1).toNat = i + 1 := by omega
  have hin : i ≤ n := by omega
  have HGN := Lib.hid hGn
  have L0 : Hid ((xs.take (i * 2) ++ Z).length = G * 2) := by show List.length _ = _; rw [List.length_append, HTL.out, HZL.out]; omega
  have F1 : Hid (i * 2 + ([x, y] : List Value).length ≤ (xs.take (i * 2) ++ Z).length) := by show _ ≤ _; rw [L0.out]; simp; omega
  have M1 : Hid (1 = Nat.min 1 (n + 1 - i)) := by show _ = _; simp only [Nat.min_def]; split <;> omega
  have M2 : Hid (n - i = Nat.min (n - i) (n - i)) := by show _ = _; simp only [Nat.min_def]; split <;> omega
  have L1 : Hid ((splice (xs.take (i * 2) ++ Z) (i * 2) [x, y]).length = G * 2) := by show List.length _ = _; rw [splice_len _ _ _ F1.out, L0.out]
  have F2 : Hid ((i + 1) * 2 + D.length ≤ (splice (xs.take (i * 2) ++ Z) (i * 2) [x, y]).length) := by show _ ≤ _; rw [L1.out, HD.out]; omega
  clear hg hv hcur h1 hxs hxl hD hcell hold hkk hik hG hZ hZl h1x h1y hi0 hz0 hz1 hz2
  obtain ⟨R, hR⟩ : ∃ R, R = xs.take (i * 2) ++ Z := ⟨_, rfl⟩
  rw [← hR] at HN L0 F1 L1 F2
  simp only [← hR] at hrz
  have HRR := Lib.hid hR
  clear hR
  have GA : Hid (((w.alloc (.cells R.toArray 62)).drew).heap[w.heap.size]? = some (.cells R.toArray 62 (0, 0))) := heap_alloc_new w _
  have SA : Hid (∀ j v, ([x, y] : List Value)[j]? = some v → ((w.alloc (.cells R.toArray 62)).drew).cell? ((⟨vb, 0, none⟩ : Addr).add j) = some v) := HV.out _ (((Fr.refl _ w).alloc _).drew)
  go_enter Tryz.func108, Tryz.ntmps108
  go_wp2_with (first | (at_builtin; refine Lib.wpList_append_run _ rfl _ _ _ _ rfl _ _ rfl rfl _ _ (hrz _) ?_) | (with_reducible refine wpList_copy_fr2 rfl (.tmp 43) (.tmp 44) 39 39 rfl 62 Tryz.underlying39 hsz2 w.heap.size (i * 2) _ _ ⟨vb, 0, none⟩ 1 1 rfl rfl R 62 GA.out [x, y] 1 M1.out rfl SA.out F1.out H1Y.out ?_))
  intro w4 hg4 hf4
  have hF4 : Fr (fun k => k = w.heap.size) w w4 := Fr.trans (S := fun k => k = w.heap.size) (T := fun k => k = w.heap.size) (((Fr.refl _ w).alloc _).drew) hf4.out (fun _ _ h => h)
  have S2 := Lib.hid (HS.out w4.drew hF4.drew)
  have G2 : Hid (w4.drew.heap[w.heap.size]? = some (.cells (splice R (i * 2) [x, y]).toArray 62 (0, 0))) := hg4.out
  have HF4 := Lib.hid hF4
  clear hg4 hf4 hF4 hrz
  go_wp2
  go_region_law (refine step_copy_fr2 rfl (.tmp 50) (.tmp 53) 39 39 rfl 62 Tryz.underlying39 hsz2 w.heap.size ((i + 1) * 2) (n - i) (G - (i + 1)) ⟨g, i * 2, none⟩ (n - i) (c - i) (by simp [Act.eval, Act.put]) (by simp [Act.eval, Act.put]) (splice R (i * 2) [x, y]) 62 G2.out D (n - i) M2.out HD.out S2.out F2.out H1D.out ?_; intro w5 hg5 hf5)
  have HG5 := Lib.hid hg5.out
  have HF5 := Lib.hid hf5.out
  clear hg5 hf5
  go_wp2
  go_ret
  refine ⟨_, rfl, ⟨?_, .inr ⟨w.heap.size, G, _, rfl, hbase, HG5.out, HGN.out, by unfold maxLen; omega, ?_, ?_⟩⟩, ?_, .inr ⟨_, rfl, Nat.le_refl _⟩⟩
  · simp only [List.length_append, List.length_cons, List.length_nil, HTL.out, List.length_drop, HXL.out]; omega
  · simp only [List.size_toArray]
    rw [splice_len _ _ _ F2.out, L1.out]
  · have h := HN.out
    rw [HXL.out] at h
    have e : (i + 1) * 2 = i * 2 + ([x, y] : List Value).length := by simp; omega
    have e2 : (n + 1) * 2 = n * 2 + ([x, y] : List Value).length := by simp; omega
    rw [e, e2, HDX.out]
    simpa using h
  · exact (Fr.trans (S := fun k => k = w.heap.size) (T := fun k => k = w.heap.size) HF4.out.drew HF5.out (fun _ _ h => h)).weaken fun k hk h => by omega
/-- slices.Insert of one key into a row of the call's own, at any place -/
theorem insert_any (base n i vb : Nat) (v : Value) (xs : List Value) (x y : Value) (w : World) (ho : w.ownsRow base 62 2 v n xs) (hbase : base ≤ w.heap.size) (hn : n ≤ 100000) (hi : i ≤ n)
    (h1 : ∀ v ∈ xs, v.oneCell' = true) (hv : w.heap[vb]? = some (.cells #[x, y] 62 (0, 0))) (hvb : v.ownBlock ≠ some vb) (h1x : x.oneCell' = true) (h1y : y.oneCell' = true) :
    Calls Tryz.prog 108 #[v, .int .i64 i, .slice (some ⟨vb, 0, none⟩) 1 1] w (InsR base n v xs [x, y] (i * 2) w) := by
  rcases Nat.lt_or_ge i n with h | h
  · rcases ho.2 with ⟨rfl, rfl⟩ | ⟨g, c, cur, rfl, hbg, hg, hnc, hcm, hcs, ht⟩
    · omega
    · rcases Nat.lt_or_ge c (n + 1) with hr | hr
      · exact ins_grow base g n c i vb cur xs x y w h hnc hr hn hg hbase hcs ht h1 hv h1x h1y
      · exact ins_shift base g n c i vb cur xs x y w h hr hcm (fun e => hvb (by rw [e]; rfl)) hg hbg hcs ht h1 hv h1x h1y
  · obtain rfl : i = n := by omega
    exact ins_end base i vb v xs x y w ho hbase hn hv h1x h1y
end Go.Proofs.YtohfckkgmijlnaaGreatDoor
