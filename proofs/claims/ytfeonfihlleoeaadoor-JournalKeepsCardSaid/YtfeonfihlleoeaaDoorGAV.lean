/- The walk of journal.entries' iterator. The walks of journal.entries and journal.Load. -/
import Derived.Test.YtfeonfihlleoeaaDoorGAU
namespace Go.Proofs.YtfeonfihlleoeaaDoor
open Go.RowKit Go.Sort Go.Shelf Go.WideShapes
attribute [local go_sem] Oper.semAt_some

theorem CK.putObj {C : Nat → Prop} (W : World) (l : Nat) (o o' : Obj) (h : W.heap[l]? = some o) (hc : o.isCells = false) : CK C W (W.putObj l o') :=
  ⟨by simp, fun b _ cs t fr e => World.putObj_heap_other fun e2 => by subst e2; rw [h] at e; cases e; cases hc⟩
theorem CK.weak {A C : Nat → Prop} {w w' : World} (h : CK C w w') (hA : ∀ b, A b → C b) : CK A w w' := ⟨h.size, fun b hb => h.blk b (hA b hb)⟩
/-- an entry as it is handed on -/
def PreE (z B : Nat) (x : YE) (W : World) : Prop := ∃ v, W.cell? ⟨B, 0, none⟩ = some v ∧ (∀ g, v.ownBlock = some g → z ≤ g ∧ g < W.heap.size) ∧ RB (fun b => z ≤ b ∧ b ≠ B ∧ v.ownBlock ≠ some b) W (.slice x.2.1 x.1.data.length x.2.2) x.1.data
/-- what the loop over the numbers knows -/
structure EntI (o : ObD) (s : Int) (z B : Nat) (W0 : World) (J : List YE → World → Prop) (k : Nat) (wr : World) : Prop where
  mk ::
  pre : ∃ pre : List YE, J pre wr ∧ pre.length = k ∧ pre.map (·.1) ++ entsFrom o (8 - k) (s + 1 + k) = entsFrom o 8 (s + 1)
  ck : CK (fun b => b < z ∧ b ≠ B) W0 wr
  row : ∃ v, wr.cell? ⟨B, 0, none⟩ = some v ∧ ∀ g, v.ownBlock = some g → z ≤ g ∧ g < wr.heap.size
theorem EntI.ext {o : ObD} {s : Int} {z B : Nat} {W0 w w' : World} {J : List YE → World → Prop} {k : Nat} (h : EntI o s z B W0 J k w) (hJ : ∀ s A B, J s A → Below A.heap.size A B → J s B) (hb : Below w.heap.size w w') : EntI o s z B W0 J k w' := by
  obtain ⟨p, h1, h2, h3⟩ := h.pre
  obtain ⟨v, hv, hg⟩ := h.row
  exact ⟨⟨p, hJ _ _ _ h1 hb, h2, h3⟩, h.ck.trans (CK.of_ext (A := fun _ => True) hb) fun _ _ => trivial, v, cellExt hb hv, fun g e => ⟨(hg g e).1, Nat.lt_of_lt_of_le (hg g e).2 hb.size⟩⟩
theorem entsFrom_no {o : ObD} {k : Nat} {s : Int} (h : getD o.keys (enK s) = none) : entsFrom o k s = [] := by
  cases k with
  | zero => rfl
  | succ k => unfold entsFrom; rw [h]
theorem entsFrom_bad {o : ObD} {k : Nat} {s : Int} {b : List UInt8} (h : getD o.keys (enK s) = some b) (hn : ¬ ((unE b).2 = 0 ∧ (unE b).1.seq = s)) : entsFrom o k s = [] := by
  cases k with
  | zero => rfl
  | succ k => unfold entsFrom; rw [h]; simp only; rw [if_neg hn]
theorem entsFrom_yes {o : ObD} {k : Nat} {s : Int} {b : List UInt8} (h : getD o.keys (enK s) = some b) (hn : (unE b).2 = 0 ∧ (unE b).1.seq = s) : entsFrom o (k + 1) s = (unE b).1 :: entsFrom o k (s + 1) := by
  conv => lhs; unfold entsFrom
  rw [h]; simp only; rw [if_pos hn]
/-- where the loop ends -/
theorem EntI.stop {o : ObD} {s : Int} {z B : Nat} {W0 w : World} {J : List YE → World → Prop} {k : Nat} (h : EntI o s z B W0 J k w) (he : entsFrom o (8 - k) (s + 1 + k) = []) : ∃ xs, J xs w ∧ xs.map (·.1) = entsFrom o 8 (s + 1) := by
  obtain ⟨p, h1, -, h3⟩ := h.pre
  rw [he, List.append_nil] at h3
  exact ⟨p, h1, h3⟩
/-- a round -/
theorem EntI.next {o : ObD} {s : Int} {z B : Nat} {W0 w1 w2 : World} {J : List YE → World → Prop} {k : Nat} {b : List UInt8} {x : YE} {p : List YE} {v : Value} (hz : z ≤ W0.heap.size) (hck : CK (fun b => b < z ∧ b ≠ B) W0 w1) (hv : w1.cell? ⟨B, 0, none⟩ = some v) (hg : ∀ g, v.ownBlock = some g → z ≤ g ∧ g < w1.heap.size)
    (hp : p.length = k) (he : p.map (·.1) ++ entsFrom o (8 - k) (s + 1 + k) = entsFrom o 8 (s + 1)) (hk : k < 8) (hb : getD o.keys (enK (s + 1 + k)) = some b) (hn : (unE b).2 = 0 ∧ (unE b).1.seq = s + 1 + k) (hx : x.1 = (unE b).1)
    (hJ : J (p ++ [x]) w2) (hkp : KpE B w1 w2) : EntI o s z B W0 J (k + 1) w2 := by
  obtain ⟨h1, v', hv', h2⟩ := hkp.keep v hv fun g e => (hg g e).2
  refine ⟨⟨p ++ [x], hJ, by simp [hp], ?_⟩, hck.trans h1 fun b hb => ⟨hb.2, fun e => by have := (hg b e).1; omega⟩, v', hv', fun g e => ⟨?_, (h2 g e).2⟩⟩
  · rw [← he, show 8 - k = (8 - (k + 1)) + 1 by omega, entsFrom_yes hb hn]
    simp [hx, show s + 1 + ((k : Nat) : Int) + 1 = s + 1 + ((k + 1 : Nat) : Int) by omega]
  · rcases (h2 g e).1 with h3 | h3
    · exact (hg g h3).1
    · have := hck.size
      omega
theorem get_none {A : Nat → Prop} {v : Value} {o : ObD} {nm : ByteArray} {w : World} (hv : ObV A w v o) (hl : o.okl) (hg : getD o.keys nm = none) : Calls Tryd.prog 43 #[v, .string nm] w fun e w' => ∃ a c, e = .returned (.tuple #[.slice a 0 c, .bool false]) ∧ Below w.heap.size w w' := by
  refine (get_any A v o nm w hv hl).mono ?_
  rintro e w' ⟨v, rfl, hb, h⟩
  rw [hg] at hb ⊢
  obtain ⟨a, c, rfl⟩ := hb.rb.shape
  exact ⟨a, c, rfl, h⟩
theorem get_some {A : Nat → Prop} {v : Value} {o : ObD} {nm : ByteArray} {w : World} {b : List UInt8} (hv : ObV A w v o) (hl : o.okl) (hg : getD o.keys nm = some b) : Calls Tryd.prog 43 #[v, .string nm] w fun e w' => ∃ a c, e = .returned (.tuple #[.slice a b.length c, .bool true]) ∧ RB (fun b => w.heap.size ≤ b) w' (.slice a b.length c) b ∧ Below w.heap.size w w' := by
  refine (get_any A v o nm w hv hl).mono ?_
  rintro e w' ⟨v, rfl, hb, h⟩
  rw [hg] at hb ⊢
  obtain ⟨a, c, rfl⟩ := hb.rb.shape
  exact ⟨a, c, rfl, hb.rb, h⟩
theorem getD_mem {ks : List KyD} {nm : ByteArray} {b : List UInt8} (h : getD ks nm = some b) : ∃ k ∈ ks, k.value = b := by
  unfold getD at h
  obtain ⟨k, hk, rfl⟩ := Option.map_eq_some_iff.1 h
  exact ⟨k, List.mem_of_find?_eq_some hk, rfl⟩
set_option maxRecDepth 100000 in
set_option maxHeartbeats 4000000 in
theorem entries_pre (B ab ob : Nat) (s : Int) (o : ObD) (dv kv : Value) (w : World) (hs0 : 0 ≤ s) (hs1 : s ≤ 1099511627776) (hok : o.okl) (hval : ∀ k ∈ o.keys, k.value.length ≤ 100000)
    (hL : LayW w) (hne : ∀ b, b = 1 ∨ b = 0 ∨ b = 2 ∨ b = ab ∨ b = ob → b < w.heap.size ∧ b ≠ B)
    (hA : w.heap[ab]? = some (.cells #[.int .i64 s] 3 (0, 0))) (hO : w.heap[ob]? = some (.cells #[dv, kv, .int .i64 o.seq] 39 (0, 0)))
    (hd : ObV (fun b => b < w.heap.size ∧ b ≠ B) w (.agg #[dv, kv, .int .i64 o.seq]) o) (v0 : Value) (hB : w.cell? ⟨B, 0, none⟩ = some v0) (hv0 : v0.ownBlock = none) :
    SeqPre Fence.wide 7 Tryd.prog 42 #[.pointer (some ⟨ab, 0, none⟩), .pointer (some ⟨ob, 0, none⟩)] (fun x : YE => #[yeV x]) (PreE w.heap.size B) (KpE B) (fun xs _ => xs.map (·.1) = entsFrom o 8 (s + 1)) 8 w := fun l J W hW hJ hY h0 => by
  have hI0 : EntI o s w.heap.size B W J 0 W := ⟨⟨[], h0, rfl, by simp⟩, CK.refl _ _, v0, cellExt hW hB, fun g e => by rw [hv0] at e; cases e⟩
  have HL := Lib.hid (hL.ext hW)
  have HA := Lib.hid ((hW.block _ (Array.getElem?_eq_some_iff.1 hA).1).trans hA)
  have HO := Lib.hid ((hW.block _ (Array.getElem?_eq_some_iff.1 hO).1).trans hO)
  have HD := Lib.hid (hd.ext hW)
  have HY := Lib.hid hY
  have HJ := Lib.hid hJ
  have HN := Lib.hid hne
  have HV := Lib.hid hval
  have HK := Lib.hid hok
  have HW := Lib.hid hW.size
  have hAc : W.cell? ⟨ab, 0, none⟩ = some (.int .i64 s) := (blk_cell HA.out).1
  clear hL hA hO hd hB hW hY hJ h0 hne hval hok
  refine callsIn_of_wp Tryd.func42 rfl trivial ?_ rfl
  simp only [Tryd.ntmps42, List.size_toArray, List.length_cons, List.length_nil, Nat.reduceAdd, Nat.reduceSub, Array.replicate_succ, Array.replicate_zero, List.push_toArray, List.append_toArray, List.nil_append, List.cons_append]
  gi_wp2
  gi_loopw [4] (fun i wr => ∃ k : Nat, k ≤ 8 ∧ i = .int .i64 (s + 1 + k) ∧ EntI o s w.heap.size B W J k wr) (fun i _ => (s + 9 - intOf i).toNat)
  case atStart => exact ⟨0, by omega, by simp, hI0⟩
  case round =>
    obtain ⟨k, hk, rfl, hI⟩ := hrel
    have hAr := hI.ck.box (HN.out ab (by simp)) HA.out
    have hOr := hI.ck.box (HN.out ob (by simp)) HO.out
    have hLr := LayW.ck HL.out hI.ck (HN.out _ (by simp)) (HN.out _ (by simp)) (HN.out _ (by simp))
    have hDr := ObV.ck HD.out hI.ck fun _ h => h
    have hac : wr.cell? ⟨ab, 0, none⟩ = some (.int .i64 s) := (blk_cell hAr).1
    have ho0 : wr.cell? ⟨ob, 0, none⟩ = some dv := (blk_cell hOr).1
    have ho1 : wr.cell? ⟨ob, 1, none⟩ = some kv := (blk_cell hOr).1
    have ho2 : wr.cell? ⟨ob, 2, none⟩ = some (.int .i64 o.seq) := (blk_cell hOr).1
    have HI := Lib.hid hI
    have HLr := Lib.hid hLr
    have HDr := Lib.hid hDr
    clear hAr hOr hI hLr hDr
    have hfN : Fence.wide.fn 20 := trivial
    have hfG : Fence.wide.fn 43 := trivial
    have hfU : Fence.wide.fn 44 := trivial
    by_cases h8 : k < 8
    · rcases hg : getD o.keys (enK (s + 1 + k)) with _ | b
      · have HG := Lib.hid hg
        clear hg
        gi_wp2
        gi_region_with (first
          | (gi_at_call 20; refine (callsIn_wide.2 (ename_any _ _ (HLr.out.ext ((Below.refl _ wr).drew)))).mono ?_; rintro e w1 ⟨rfl, hb1⟩; have c0 := cellExt hb1 ho0; have c1 := cellExt hb1 ho1; have c2 := cellExt hb1 ho2; have HB1 : Hid (Below wr.heap.size wr w1) := Lib.hid (((Below.refl _ wr).drew).trans hb1); clear hb1)
          | (gi_at_call 43; refine (callsIn_wide.2 (get_none (HDr.out.ext HB1.out) HK.out HG.out)).mono ?_; rintro e w2 ⟨ba, bc, rfl, hb2⟩; have HB2 : Hid (Below wr.heap.size wr w2) := Lib.hid (HB1.out.trans (hb2.mono HB1.out.size)); clear hb2))
        all_goals
          have HI2 := Lib.hid (HI.out.ext HJ.out HB2.out)
          clear HI HLr HDr HB1
          gi_wp2
          refine bodyPost_ret (results_none rfl _ _ _) rfl ?_
          exact ⟨⟨_, rfl⟩, HI2.out.stop (entsFrom_no HG.out)⟩
      · have HG := Lib.hid hg
        have hbl : b.length ≤ 100000 := by
          obtain ⟨q, hq, rfl⟩ := getD_mem hg
          exact HV.out q hq
        clear hg
        gi_wp2
        gi_region_with (first
          | (gi_at_call 20; refine (callsIn_wide.2 (ename_any _ _ (HLr.out.ext ((Below.refl _ wr).drew)))).mono ?_; rintro e w1 ⟨rfl, hb1⟩; have c0 := cellExt hb1 ho0; have c1 := cellExt hb1 ho1; have c2 := cellExt hb1 ho2; have HB1 : Hid (Below wr.heap.size wr w1) := Lib.hid (((Below.refl _ wr).drew).trans hb1); clear hb1)
          | (gi_at_call 43; refine (callsIn_wide.2 (get_some (HDr.out.ext HB1.out) HK.out HG.out)).mono ?_; rintro e w2 ⟨ba, bc, rfl, hbv, hb2⟩; have HBV := Lib.hid hbv; have HB2 : Hid (Below wr.heap.size wr w2) := Lib.hid (HB1.out.trans (hb2.mono HB1.out.size)); clear hbv hb2))
        all_goals
          have HI2 := Lib.hid (HI.out.ext HJ.out HB2.out)
          have HL2 := Lib.hid (HLr.out.ext HB2.out)
          clear HI HLr HDr HB1
          by_cases hn1 : (unE b).2 = 0
          · by_cases hn2 : (unE b).1.seq = s + 1 + k
            · gi_wp2_with (gi_at_call 44; refine (callsIn_wide.2 (eunpack_any _ _ b _ HBV.out hbl HL2.out)).mono ?_; rintro e w3 ⟨ua, uc, rfl, hud, hb3⟩; have HU := Lib.hid hud; have HB3 := Lib.hid hb3; clear hud hb3)
              obtain ⟨p, hp1, hp2, hp3⟩ := HI2.out.pre
              obtain ⟨v, hv, hg⟩ := HI2.out.row
              obtain ⟨W1, hW1⟩ : ∃ W1, W1 = w3.alloc (.cells (yeC ((unE b).1, ua, uc)).toArray 24) := ⟨_, rfl⟩
              have hb1 : Below w2.heap.size w2 W1 := by rw [hW1]; exact HB3.out.alloc HB3.out.size _
              have hJ1 : J p W1 := HJ.out _ _ _ hp1 hb1
              have hg2 : ∀ g, v.ownBlock = some g → w.heap.size ≤ g ∧ g < w2.heap.size := hg
              have hzw : w.heap.size ≤ w2.heap.size := by have := HI2.out.ck.size; have := HW.out; omega
              have hBl := World.block_lt_of_cell? w2 _ hv
              have hpre : PreE w.heap.size B ((unE b).1, ua, uc) W1 := ⟨v, cellExt hb1 hv, fun g e => ⟨(hg g e).1, Nat.lt_of_lt_of_le (hg g e).2 hb1.size⟩, by
                rw [hW1]
                refine (HU.out.ext ((Below.refl _ w3).alloc (Nat.le_refl _) _)).weak fun b' _ hb' => ⟨by omega, fun e => ?_, fun e => ?_⟩
                · have : B < w2.heap.size := hBl
                  omega
                · have := (hg b' e).2
                  omega⟩
              obtain ⟨fn, tmps, assign, body, hy, hR⟩ := HY.out p ((unE b).1, ua, uc) W1 hJ1 hpre (by omega)
              have hck1 := HI2.out.ck.trans (CK.of_ext (A := fun _ => True) hb1) fun _ _ => trivial
              have HNX : Hid (∀ W3, J (p ++ [((unE b).1, ua, uc)]) W3 → KpE B W1 W3 → EntI o s w.heap.size B W J (k + 1) W3) := Lib.hid fun W3 hj hk => EntI.next HW.out hck1 (cellExt hb1 hv) (fun g e => ⟨(hg g e).1, Nat.lt_of_lt_of_le (hg g e).2 hb1.size⟩) hp2 hp3 h8 HG.out ⟨hn1, hn2⟩ rfl hj hk
              have HRR := Lib.hid hR
              clear hR hck1 hpre hJ1 hb1 hv hg hg2 hp1 hp3 hBl
              have hww : W1 = w3.alloc (.cells #[.int .i64 (s + 1 + k), .int .i64 (unE b).1.owner, .int .i64 (unE b).1.kind, .int .i64 (unE b).1.off, .int .i64 (unE b).1.len, .int .i64 (unE b).1.snap, .slice ua (unE b).1.data.length uc] 24) := by rw [hW1]; simp only [yeC, hn2]
              clear hW1
              simp only [yeV, enV] at hy
              rw [hn2] at hy
              rw [← hww, hy]
              clear hww
              gi_wp2
              refine HRR.out.mono ?_
              rintro e W3 ⟨rfl, hJ3, hk3⟩
              have HI3 := Lib.hid (HNX.out W3 hJ3 hk3)
              clear hJ3 hk3
              gi_wp2
              go_roundw
              case rel => exact ⟨k + 1, by omega, by simp; omega, HI3.out⟩
              case measure => simp [intOf]; omega
            · gi_wp2_with (gi_at_call 44; refine (callsIn_wide.2 (eunpack_any _ _ b _ HBV.out hbl HL2.out)).mono ?_; rintro e w3 ⟨ua, uc, rfl, hud, hb3⟩; have HU := Lib.hid hud; have HB3 := Lib.hid hb3; clear hud hb3)
              refine ⟨fun f h => (by cases h), ?_⟩
              gi_wp2
              refine bodyPost_ret (results_none rfl _ _ _) rfl ?_
              exact ⟨⟨_, rfl⟩, (HI2.out.ext HJ.out (HB3.out.alloc HB3.out.size _)).stop (entsFrom_bad HG.out fun h => hn2 h.2)⟩
          · gi_wp2_with (gi_at_call 44; refine (callsIn_wide.2 (eunpack_any _ _ b _ HBV.out hbl HL2.out)).mono ?_; rintro e w3 ⟨ua, uc, rfl, hud, hb3⟩; have HU := Lib.hid hud; have HB3 := Lib.hid hb3; clear hud hb3)
            refine ⟨fun f h => (by cases h), ?_⟩
            gi_wp2
            refine bodyPost_ret (results_none rfl _ _ _) rfl ?_
            exact ⟨⟨_, rfl⟩, (HI2.out.ext HJ.out (HB3.out.alloc HB3.out.size _)).stop (entsFrom_bad HG.out fun h => hn1 h.1)⟩
    · obtain rfl : k = 8 := by omega
      gi_wp2
      go_end0
      exact ⟨⟨_, rfl⟩, HI.out.stop rfl⟩
end Go.Proofs.YtfeonfihlleoeaaDoor
namespace Go.Proofs.YtfeonfihlleoeaaDoor
open Go.RowKit Go.Maps Go.Sort Go.Shelf Go.WideShapes
attribute [local go_sem] Oper.semAt_some

theorem entries_in (dv kv : Value) (q s : Int) (w : World) : CallsIn Fence.wide 7 Tryd.prog 27 #[.agg #[dv, kv, .int .i64 q], .int .i64 s] w fun e w' => e = .returned (.func (.func 42) #[] #[.pointer (some ⟨w.heap.size + 1, 0, none⟩), .pointer (some ⟨w.heap.size, 0, none⟩)]) ∧ w' = (w.alloc (.cells #[dv, kv, .int .i64 q] 39)).alloc (.cells #[.int .i64 s] 3) := by
  refine callsIn_of_wp Tryd.func27 rfl trivial ?_ rfl
  simp only [Tryd.ntmps27, List.size_toArray, List.length_cons, List.length_nil, Nat.reduceAdd, Nat.reduceSub, Array.replicate_succ, Array.replicate_zero, List.push_toArray, List.append_toArray, List.nil_append, List.cons_append]
  gi_wp2
  go_ret
  exact ⟨rfl, rfl⟩
theorem infoEnt : (Tryd.prog.info? 24).map (fun i => (i.zero, i.size, i.bytes)) = some (some (enV EnD.none (.slice none 0 0)), 7, 72) := by kernel_rfl
theorem KpE.of_below {B : Nat} {W W' : World} (h : Below W.heap.size W W') : KpE B W W' := ⟨h.size, fun v hv hl => ⟨CK.of_ext h, v, cellExt h hv, fun g e => ⟨.inl e, Nat.lt_of_lt_of_le (hl g e) h.size⟩⟩⟩
theorem kpe_app {B : Nat} {W w1 : World} {v v' u : Value} {o : Obj} (hc : W.cell? ⟨B, 0, none⟩ = some v) (hg : (W.alloc o).grownBy w1 v.ownBlock) (hat : v'.ownBlock = v.ownBlock ∨ v'.ownBlock = some (W.alloc o).heap.size) (hs1 : ∀ g, v'.ownBlock = some g → g < w1.heap.size) (hn : (w1.setCell ⟨B, 0, none⟩ u).cell? ⟨B, 0, none⟩ = some v') : KpE B W (w1.setCell ⟨B, 0, none⟩ u) := by
  have hs := hg.size
  simp only [World.size_alloc] at hs
  refine ⟨by simp [World.setCell]; omega, fun v0 h0 _ => ?_⟩
  rw [hc] at h0
  cases h0
  refine ⟨⟨by simp [World.setCell]; omega, fun b hb cs t fr e => ?_⟩, v', hn, fun g h => ⟨?_, by simpa [World.setCell] using hs1 g h⟩⟩
  · have hl := (Array.getElem?_eq_some_iff.1 e).1
    exact (Below.heap_setCell _ _ _ b (fun e => hb.1 e)).trans ((hg.block b (by simp; omega) (fun e => hb.2 e.symm)).trans (Below.heap_alloc _ _ b hl))
  · rcases hat with h1 | h1
    · rw [h1] at h
      exact .inl h
    · rw [h1] at h
      simp at h
      exact .inr (by omega)
theorem sle_ents {base n : Nat} {A : Nat → Prop} {w : World} {v : Value} {l : List YE} {t : TypeId} (h : w.ownsRow base t 7 v n (l.flatMap yeC)) (hn : n = l.length) (hA : ∀ b, base ≤ b → A b) (hd : ∀ x ∈ l, RB A w (.slice x.2.1 x.1.data.length x.2.2) x.1.data) : SlE Enc.ent A w v (l.map (·.1)) := by
  subst hn
  refine SlE.of_flat (cs := l.map yeC) (by simp) (fun i x c hi hc => ?_) ?_
  · simp only [List.getElem?_map] at hi hc
    obtain ⟨y, hy, rfl⟩ := Option.map_eq_some_iff.1 hi
    rw [hy] at hc
    cases hc
    exact ⟨_, rfl, hd y (List.mem_of_getElem? hy)⟩
  · rw [← List.flatMap_def]
    have := (SlA.of_owns h).weak hA
    show SlA A w 7 v _ _
    simpa using this
theorem LayW.powlt {w : World} (h : LayW w) : 2 < w.heap.size := by
  have hp := h.pow
  unfold Lib.TabIs World.var? at hp
  have hg : Tryd.prog.globalNamed "internal/strconv.uint64pow10" = some 2 := by kernel_rfl
  rw [hg] at hp
  simp only [Option.bind_some] at hp
  cases hb : w.heap[2]? with
  | none => rw [hb] at hp; cases hp
  | some o => exact (Array.getElem?_eq_some_iff.1 hb).1
/-- what has been collected -/
structure ColI (w : World) (z : Nat) (pre : List YE) (W : World) : Prop where
  mk ::
  ex : ∃ v, Boxed W (w.heap.size + 1) 35 v ∧ W.ownsRow (w.heap.size + 1) 24 7 v pre.length (pre.flatMap yeC) ∧ (∀ x ∈ pre, RB (fun b => z ≤ b ∧ b ≠ w.heap.size + 1 ∧ v.ownBlock ≠ some b) W (.slice x.2.1 x.1.data.length x.2.2) x.1.data) ∧ Below w.heap.size w W
theorem ColI.ext {w A B : World} {z : Nat} {pre : List YE} (h : ColI w z pre A) (hb : Below A.heap.size A B) : ColI w z pre B := by
  obtain ⟨v, h1, h2, h3, h4⟩ := h.ex
  exact ⟨v, (hb.block _ h1.lt).trans h1, owns_ext h2 hb, fun x hx => (h3 x hx).ext hb, h4.trans (hb.mono h4.size)⟩
theorem ColI.putObj {w W : World} {z l : Nat} {o o' : Obj} {pre : List YE} (h : ColI w z pre W) (hl : w.heap.size ≤ l) (ho : W.heap[l]? = some o) (hc : o.isCells = false) (hw : o.isWalk = false) : ColI w z pre (W.putObj l o') := by
  obtain ⟨v, h1, h2, h3, h4⟩ := h.ex
  have hk := CK.putObj (C := fun _ => True) W l o o' ho hc
  exact ⟨v, hk.box trivial h1, ownsRow_putObj h2 o' ho hc, fun x hx => (h3 x hx).ck hk fun _ _ => trivial, h4.trans (belowK_b (Nat.le_refl _) W l o o' hl ho hc hw)⟩
theorem RB.moved {z B : Nat} {W W' : World} {v v' u : Value} {l : List UInt8} (h : RB (fun b => z ≤ b ∧ b ≠ B ∧ v.ownBlock ≠ some b) W u l) (hk : CK (fun b => b ≠ B ∧ v.ownBlock ≠ some b) W W') (hv : ∀ g, v'.ownBlock = some g → v.ownBlock = some g ∨ W.heap.size ≤ g) : RB (fun b => z ≤ b ∧ b ≠ B ∧ v'.ownBlock ≠ some b) W' u l := by
  have h1 : RB (fun b => (z ≤ b ∧ b ≠ B ∧ v.ownBlock ≠ some b) ∧ b < W.heap.size) W u l := h.weak fun b hb ha => ⟨ha, hb⟩
  refine (h1.ck hk fun b hb => hb.1.2).weak fun b _ hb => ⟨hb.1.1, hb.1.2.1, fun e => ?_⟩
  rcases hv b e with h2 | h2
  · exact hb.1.2.2 h2
  · have := hb.2
    omega
set_option maxRecDepth 100000 in
set_option maxHeartbeats 4000000 in
theorem jload_any (A0 : Nat → Prop) (v : Value) (o : ObD) (s : Int) (w : World) (hv : ObV A0 w v o) (hok : o.okl) (hval : ∀ k ∈ o.keys, k.value.length ≤ 100000) (hL : LayW w) :
    Calls Tryd.prog 15 #[v, .int .i64 s] w fun e w' => ∃ v', e = .returned v' ∧ SlE Enc.ent (fun b => w.heap.size ≤ b) w' v' (loadL o s) ∧ Below w.heap.size w w' := by
  obtain ⟨dv, kv, rfl, hd, hk⟩ := hv
  obtain ⟨da, dc, rfl⟩ := hd.shape
  obtain ⟨ka, kc, rfl⟩ := hk.shape
  refine (callsIn_wide (n := 8)).1 ?_
  have hfN : Fence.wide.fn 27 := trivial
  by_cases hs : s < 0 ∨ 1099511627776 < s
  · have hl : loadL o s = [] := by unfold loadL; rw [if_pos hs]
    rw [hl]
    clear hl hd hk hL
    refine callsIn_of_wp_marks Tryd.func15 rfl trivial ?_ rfl
    simp only [Tryd.ntmps15, List.size_toArray, List.length_cons, List.length_nil, Nat.reduceAdd, Nat.reduceSub, Array.replicate_succ, Array.replicate_zero, List.push_toArray, List.append_toArray, List.nil_append, List.cons_append]
    rcases hs with hs | hs
    · gi_wp2
      exact ⟨_, results_tmp rfl _ _ _, _, rfl, SlE.nil _ _ _, ((Below.refl _ w).alloc (Nat.le_refl _) _).alloc (by simp) _⟩
    · gi_wp2
      exact ⟨_, results_tmp rfl _ _ _, _, rfl, SlE.nil _ _ _, ((Below.refl _ w).alloc (Nat.le_refl _) _).alloc (by simp) _⟩
  · have hs0 : 0 ≤ s := by omega
    have hs1 : s ≤ 1099511627776 := by omega
    have hl : loadL o s = entsFrom o 8 (s + 1) := by unfold loadL; rw [if_neg hs]
    rw [hl]
    clear hl hs
    refine callsIn_of_wp_marks Tryd.func15 rfl trivial ?_ rfl
    simp only [Tryd.ntmps15, List.size_toArray, List.length_cons, List.length_nil, Nat.reduceAdd, Nat.reduceSub, Array.replicate_succ, Array.replicate_zero, List.push_toArray, List.append_toArray, List.nil_append, List.cons_append]
    gi_wp2_with (gi_at_call 27; refine (entries_in _ _ _ _ _).mono ?_; rintro e w' ⟨rfl, rfl⟩)
    obtain ⟨i0, hi, hz0, hz1, hz2⟩ := info_parts infoEnt
    obtain ⟨W0, hW0⟩ : ∃ W0, W0 = (((w.alloc (.cells #[.slice da o.data.length dc, .slice ka o.keys.length kc, .int .i64 o.seq] 39)).alloc (.cells #[.slice none 0 0] 35)).alloc (.cells #[.slice da o.data.length dc, .slice ka o.keys.length kc, .int .i64 o.seq] 39)).alloc (.cells #[.int .i64 s] 3) := ⟨_, rfl⟩
    rw [← hW0]
    have hb0 : Below w.heap.size w W0 := by rw [hW0]; exact ((((Below.refl _ w).alloc (Nat.le_refl _) _).alloc (by simp) _).alloc (by simp; omega) _).alloc (by simp; omega) _
    have hs0' : W0.heap.size = w.heap.size + 4 := by rw [hW0]; simp
    have hbo : Boxed W0 (w.heap.size + 1) 35 (.slice none 0 0) := by
      have h := Boxed.new (w.alloc (.cells #[.slice da o.data.length dc, .slice ka o.keys.length kc, .int .i64 o.seq] 39)) 35 (.slice none 0 0)
      rw [World.size_alloc] at h
      rw [hW0]
      exact (h.alloc _).alloc _
    have hob : W0.heap[w.heap.size + 1 + 1]? = some (.cells #[.slice da o.data.length dc, .slice ka o.keys.length kc, .int .i64 o.seq] 39 (0, 0)) := by
      rw [hW0]
      refine (Below.heap_alloc _ _ _ (by simp)).trans ?_
      have h := heap_alloc_new ((w.alloc (.cells #[.slice da o.data.length dc, .slice ka o.keys.length kc, .int .i64 o.seq] 39)).alloc (.cells #[.slice none 0 0] 35)) (.cells #[.slice da o.data.length dc, .slice ka o.keys.length kc, .int .i64 o.seq] 39)
      rwa [World.size_alloc, World.size_alloc] at h
    have hab : W0.heap[w.heap.size + 1 + 1 + 1]? = some (.cells #[.int .i64 s] 3 (0, 0)) := by
      rw [hW0]
      have h := heap_alloc_new (((w.alloc (.cells #[.slice da o.data.length dc, .slice ka o.keys.length kc, .int .i64 o.seq] 39)).alloc (.cells #[.slice none 0 0] 35)).alloc (.cells #[.slice da o.data.length dc, .slice ka o.keys.length kc, .int .i64 o.seq] 39)) (.cells #[.int .i64 s] 3)
      rwa [World.size_alloc, World.size_alloc, World.size_alloc] at h
    have hL1 : 1 < w.heap.size := World.block_lt_of_cell? w _ (hL.tab 0 (by decide))
    have hL2 : 0 < w.heap.size := World.block_lt_of_cell? w _ (hL.nam 0 (by decide))
    have hL3 : 2 < w.heap.size := hL.powlt
    have hobv : ObV (fun b => b < W0.heap.size ∧ b ≠ w.heap.size + 1) W0 (.agg #[.slice da o.data.length dc, .slice ka o.keys.length kc, .int .i64 o.seq]) o :=
      ((show ObV A0 w _ o from ⟨_, _, rfl, hd, hk⟩).weak (A' := fun b => b < W0.heap.size ∧ b ≠ w.heap.size + 1) fun b hb _ => ⟨by omega, by omega⟩).ext hb0
    have HSEQ := entries_pre (w.heap.size + 1) (w.heap.size + 1 + 1 + 1) (w.heap.size + 1 + 1) s o _ _ W0 hs0 hs1 hok hval (hL.ext hb0) (by rintro b (rfl | rfl | rfl | rfl | rfl) <;> omega) hab hob hobv (.slice none 0 0) hbo.cell rfl
    have HB0 := Lib.hid hb0
    have HS0 : Hid (W0.heap.size = w.heap.size + 4) := Lib.hid hs0'
    have HI0 : Hid (ColI w W0.heap.size [] W0) := Lib.hid ⟨_, hbo, World.ownsRow_nil _ _ _ _, fun _ h => (by cases h), hb0⟩
    clear hob hab hobv hbo hb0 hs0' hW0 hd hk hL hL1 hL2 hL3 hval hok
    refine range_pre rfl (by omega) (gf := 42) (lb := #[.pointer (some ⟨w.heap.size + 1 + 1 + 1, 0, none⟩), .pointer (some ⟨w.heap.size + 1 + 1, 0, none⟩)]) rfl trivial (enters_of Tryd.func42 (by kernel_rfl) rfl)
      HSEQ (fun h k => KpE.trans h k) (fun W l o o' h hc => KpE.putObj W l o o' h hc) (Below.refl _ _) (fun _ => rfl)
      (ColI w W0.heap.size) (fun _ _ _ h hb => h.ext hb) (fun _ W l o o' h hl ho hc hw => h.putObj (by have := HS0.out; omega) ho hc hw) (fun A B h => KpE.of_below h)
      (fun x A B h hb => ?preb) (fun x => .cells (yeC x).toArray 24) (fun _ => rfl) (fun x W l o o' h ho hc => ?prep) (fun _ _ _ _ _ h _ _ => h) HI0.out
      (fun x q => { tmps := #[.agg #[.slice da o.data.length dc, .slice ka o.keys.length kc, .int .i64 o.seq], .int .i64 s, .pointer (some ⟨w.heap.size, 0, none⟩), undef, .slice none 0 0, .pointer (some ⟨w.heap.size + 1, 0, none⟩), .pointer (some ⟨q, 0, none⟩), .int .i64 s, .bool (decide (s < 0)), .bool (decide (s < 0)), .int .i64 s, .bool (decide (1099511627776 < s)), .bool (decide (s < 0) || decide (1099511627776 < s)), undef, .agg #[.slice da o.data.length dc, .slice ka o.keys.length kc, .int .i64 o.seq], .int .i64 s, .func (.func 42) #[] #[.pointer (some ⟨w.heap.size + 1 + 1 + 1, 0, none⟩), .pointer (some ⟨w.heap.size + 1 + 1, 0, none⟩)], yeV x, undef, undef, undef, undef, undef], defers := [] }) ?assign ?body ?done
    case preb =>
      obtain ⟨v, h1, h2, h3⟩ := h
      exact ⟨v, cellExt hb h1, fun g e => ⟨(h2 g e).1, Nat.lt_of_lt_of_le (h2 g e).2 hb.size⟩, h3.ext hb⟩
    case prep =>
      obtain ⟨v, h1, h2, h3⟩ := h
      have hk := CK.putObj (C := fun _ => True) W l o o' ho hc
      exact ⟨v, hk.cell trivial h1, fun g e => ⟨(h2 g e).1, Nat.lt_of_lt_of_le (h2 g e).2 hk.size⟩, h3.ck hk fun _ _ => trivial⟩
    case assign =>
      intro l x W K hK
      gi_wp2
      exact hK
    case body =>
      rintro l pre x W q ⟨v, hv, hrow, hdat, hB⟩ ⟨v2, hv2, hg2, hrb⟩ hq hqw hlen
      have hvc := hv.cell
      obtain rfl : v = v2 := Option.some.inj (hvc.symm.trans hv2)
      have HG := Lib.hid hg2
      have HDT := Lib.hid hdat
      have HRB := Lib.hid hrb
      obtain ⟨va, vc, rfl⟩ := owns_shape hrow
      have hvf := hv.frozen
      have hq0 : W.cell? ⟨q, 0, none⟩ = some (.int .i64 x.1.seq) := (blk_cell hq).1
      have hq1 : W.cell? ⟨q, 1, none⟩ = some (.int .i64 x.1.owner) := (blk_cell hq).1
      have hq2 : W.cell? ⟨q, 2, none⟩ = some (.int .i64 x.1.kind) := (blk_cell hq).1
      have hq3 : W.cell? ⟨q, 3, none⟩ = some (.int .i64 x.1.off) := (blk_cell hq).1
      have hq4 : W.cell? ⟨q, 4, none⟩ = some (.int .i64 x.1.len) := (blk_cell hq).1
      have hq5 : W.cell? ⟨q, 5, none⟩ = some (.int .i64 x.1.snap) := (blk_cell hq).1
      have hq6 : W.cell? ⟨q, 6, none⟩ = some (.slice x.2.1 x.1.data.length x.2.2) := (blk_cell hq).1
      have hBs := hB.size
      have HV := Lib.hid hv
      have HR := Lib.hid hrow
      have HB := Lib.hid hB
      clear hv hrow hB hdat hrb hg2 hv2 hq
      gi_wp2_with (gi_at_builtin; refine stop_in ?_)
      unfold Stop
      refine wpListIn_append_own_at _ rfl _ _ 35 rfl (w.heap.size + 1) 24 i0 (enV EnD.none (.slice none 0 0)) 7 72 Tryd.underlying35 hi hz0 hz1 hz2 rfl (by decide) _ _ _ rfl (HR.out.alloc _) ⟨W.heap.size, 0, none⟩ 1 1 (yeC x) rfl rfl (cells_new _ _ _) (by simp [yeC, Value.oneCell']) (by unfold maxLen; omega) (by omega) (by simp; omega) ?_
      intro v' w1 hown' hgrow _ hat
      have hlt' : ∀ g, v'.ownBlock = some g → g < w1.heap.size := fun g e => (hown'.lt g e).2
      obtain ⟨g', cap', rfl⟩ := ownsRow_succ hown'
      have hBs1 : w.heap.size + 1 ≤ W.heap.size := by
        have := World.block_lt_of_cell? W _ hvc
        simp at this
        omega
      obtain ⟨hv1, hv2, hr2, hk2, hb2⟩ := HV.out.appended (by decide) HR.out hBs1 (Nat.le_refl _) hown' hgrow
      have hkp := kpe_app hvc hgrow hat hlt' hv2.cell
      obtain ⟨hc1, v3, hv3, hg3⟩ := hkp.keep _ hvc fun g e => (HG.out g e).2
      obtain rfl := Option.some.inj (hv2.cell.symm.trans hv3)
      have HDN := Lib.hid (show ∀ y ∈ pre ++ [x], RB _ _ (.slice y.2.1 y.1.data.length y.2.2) y.1.data from fun y hy => by
        rcases List.mem_append.1 hy with h | h
        · exact (HDT.out y h).moved hc1 fun g e => (hg3 g e).1
        · cases List.mem_singleton.1 h
          exact HRB.out.moved hc1 fun g e => (hg3 g e).1)
      have HKP := Lib.hid hkp
      have HBB := Lib.hid (HB.out.trans (hb2.mono (Nat.le_succ _)))
      have HK2 := Lib.hid hk2
      have HR2 := Lib.hid hr2
      have HV2 := Lib.hid hv2
      have hc1 := hv1.cell
      have hf1 := hv1.frozen
      clear hat hgrow hown' hb2 hk2 hr2 hv2 hv1 hkp hg3 hv3 hlt'
      gi_wp2
      exact ⟨HK2.out, HKP.out, _, HV2.out, by simpa using HR2.out, HDN.out, HBB.out⟩
    case done =>
      rintro D xs W hD hS ⟨v, hv, hrow, hdat, hB⟩ hK
      obtain ⟨va, vc, rfl⟩ := owns_shape hrow
      have hvc := hv.cell
      have HR := Lib.hid hrow
      have HB := Lib.hid hB
      have HDT := Lib.hid hdat
      have HS := HS0.out
      have HSS := Lib.hid hS
      clear hrow hB hv hdat hS
      gi_wp2
      refine ⟨by simp, .inl ⟨_, _, rfl, run_takeDeferred hK, ?_⟩⟩
      have HO := ownsRow_putObj HR.out (.deferred none) hK rfl
      have hk := CK.putObj (C := fun _ => True) W D _ (.deferred none) hK rfl
      refine ⟨_, results_tmp rfl _ _ _, _, rfl, ?_, HB.out.trans (belowK_b (w := w) (Nat.le_refl _) W D _ _ (by omega) hK rfl rfl)⟩
      rw [← HSS.out]
      exact sle_ents HO rfl (fun b h => by omega) fun y hy => ((HDT.out y hy).ck hk fun _ _ => trivial).weak fun b _ h => by have := h.1; omega
end Go.Proofs.YtfeonfihlleoeaaDoor
