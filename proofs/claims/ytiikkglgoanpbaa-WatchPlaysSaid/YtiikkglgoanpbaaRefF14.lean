/- The walk of Over of terrazzoref14. -/
import Derived.Test.YtiikkglgoanpbaaRefE14
namespace Go.Proofs.Ytiikkglgoanpbaa
open Go.RowKit Go.Maps Go.WideShapes

theorem own_ne {w : World} {b1 b2 s1 s2 n1 n2 : Nat} {e1 e2 : TypeId} {v1 v2 : Value} {x1 x2 : List Value} (h1 : w.ownsRow b1 e1 s1 v1 n1 x1) (h2 : w.ownsRow b2 e2 s2 v2 n2 x2) (hne : e1 ≠ e2) : v1.ownBlock = none ∨ v1.ownBlock ≠ v2.ownBlock := by
  rcases h1.2 with ⟨rfl, _⟩ | ⟨g1, c1, u1, rfl, _, hg1, _⟩
  · exact .inl rfl
  · refine .inr fun e => ?_
    rcases h2.2 with ⟨rfl, _⟩ | ⟨g2, c2, u2, rfl, _, hg2, _⟩
    · simp [Value.ownBlock] at e
    · simp only [Value.ownBlock, Option.some.injEq] at e
      subst e
      rw [hg1] at hg2
      simp only [Option.some.injEq, Obj.cells.injEq] at hg2
      exact hne hg2.2.1
def keepN (now : Int) (ns : List Nt) (k : Nat) : List Nt := (ns.take k).filter fun n => !overB now n
theorem keepN_hit {now : Int} {ns : List Nt} {k : Nat} (hk : k < ns.length) (h : overB now ns[k] = true) : keepN now ns (k + 1) = keepN now ns k := by
  rw [keepN, List.take_succ_eq_append_getElem hk, List.filter_append]
  simp [h, keepN]
theorem keepN_miss {now : Int} {ns : List Nt} {k : Nat} (hk : k < ns.length) (h : overB now ns[k] = false) : keepN now ns (k + 1) = keepN now ns k ++ [ns[k]] := by
  rw [keepN, List.take_succ_eq_append_getElem hk, List.filter_append]
  simp [h, keepN]
theorem keepN_len (now : Int) (ns : List Nt) (k : Nat) : (keepN now ns k).length ≤ ns.length := by
  refine Nat.le_trans (List.length_filter_le _ _) ?_
  simp; omega
theorem outL_len (now : Int) (ns : List Nt) (k : Nat) : (outL now ns k).length ≤ ns.length := by
  simp only [outL, List.length_map]
  refine Nat.le_trans (List.length_filter_le _ _) ?_
  simp; omega

set_option maxRecDepth 100000 in
set_option maxHeartbeats 4000000 in
theorem rover_any (A : Nat → Prop) (v : Value) (B : Brd) (now : Int) (w : World) (h : IsR A w v B) (n0 : -9223372036854775808 ≤ now) (n1 : now ≤ 9223372036854775807) (hat : ∀ n ∈ B.ns, 0 ≤ n.at_ ∧ n.at_ ≤ 1099511627776) (hn : B.ns.length ≤ 1000) :
    Calls Try.prog 23 #[v, .int .i64 now] w fun e w' => ∃ v' o', e = .returned (.tuple #[v', o']) ∧ IsR (UpA A w) w' v' (B.keep (B.ns.filter fun n => !overB now n)) ∧ RL (UpA A w) w' o' ((B.ns.filter (overB now)).map (·.id)) ∧ Below w.heap.size w w' := by
  obtain ⟨wv, nv, rfl, h1, h2⟩ := h
  obtain ⟨wa, wc, rfl⟩ := h1.shape
  obtain ⟨na, nc, rfl⟩ := h2.shape
  have HW := Lib.hid h1
  have HN := Lib.hid h2
  have HA := Lib.hid hat
  obtain ⟨j0, hj', hy0, hy1, hy2⟩ := info_parts Try.infoNt
  obtain ⟨i0, hi, hz0, hz1, hz2⟩ := info_parts Try.infoInt
  clear h1 h2 hat
  go_enter Try.func23, Try.ntmps23
  go_wp2
  go_loopw [6, 7, 8] (fun lv ov q wr => ∃ (k : Nat) (ds : List Value), k ≤ B.ns.length ∧ q = .int .i64 k ∧ ds.length = (keepN now B.ns k).length ∧ (∀ i (h : i < ds.length) (h' : i < (keepN now B.ns k).length), RL (fun b => A b ∧ b < w.heap.size) wr ds[i] (keepN now B.ns k)[i].miss) ∧
    wr.ownsRow (w.heap.size + 2) 68 3 lv (keepN now B.ns k).length (flat (keepN now B.ns k) ds) ∧ wr.ownsRow (w.heap.size + 2) 3 1 ov (outL now B.ns k).length ((outL now B.ns k).map (Value.int .i64)) ∧
    w.heap.size + 2 ≤ wr.heap.size ∧ Below (w.heap.size + 2) ((w.alloc (.cells #[.slice wa 4 wc, .slice na B.ns.length nc, .int .i64 B.last] 38)).alloc (.cells #[.slice none 0 0, .slice none 0 0, .int .i64 0] 38)) wr) (fun _ _ q _ => B.ns.length - (intOf q).toNat)
  case atStart => exact ⟨0, [], by omega, rfl, rfl, fun i hi => by simp at hi, World.ownsRow_nil _ _ _ _, World.ownsRow_nil _ _ _ _, by simp, Below.refl _ _⟩
  case round =>
    obtain ⟨k2, ds2, hk2, rfl, hds2, hE2, hown2, howno, hsz2, hbr2⟩ := hrel
    have HO2 := Lib.hid hown2
    have HQ2 := Lib.hid howno
    have HE2 := Lib.hid hE2
    have HDS2 := Lib.hid hds2
    have hW : wr.heap[w.heap.size]? = some (.cells #[.slice wa 4 wc, .slice na B.ns.length nc, .int .i64 B.last] 38 (0, 0)) := by
      rw [hbr2.block _ (by omega), Below.heap_alloc _ _ _ (by simp)]
      exact heap_alloc_new w _
    have hW1 : wr.heap[w.heap.size + 1]? = some (.cells #[.slice none 0 0, .slice none 0 0, .int .i64 0] 38 (0, 0)) := by
      rw [hbr2.block _ (by omega)]
      exact heap_alloc_new' _ _ (by simp)
    have HWB := Lib.hid hW
    have HWB1 := Lib.hid hW1
    have HBR2 := Lib.hid hbr2
    have hbw : Below w.heap.size w wr := (((Below.refl _ w).alloc (Nat.le_refl _) _).alloc (by simp) _).trans (hbr2.mono (by omega))
    have HBW := Lib.hid hbw
    obtain ⟨y1, z1⟩ := blk_cell (i := 1) hW
    simp at y1
    clear hown2 howno hE2 hds2 hW hW1 hbr2
    by_cases hlt2 : k2 < B.ns.length
    · obtain ⟨b, off, u, rfl, hbl, d0, d1, d2, hu⟩ := HN.out.at hlt2
      obtain ⟨ua, uc, rfl⟩ := SlA.shape hu
      have d0 := cellB hbw hbl d0
      have d1 := cellB hbw hbl d1
      have d2 := cellB hbw hbl d2
      have HU := Lib.hid (RL.of_old hu hbw)
      have hatn := HA.out _ (List.getElem_mem hlt2)
      have hl1 : Hid ((keepN now B.ns k2).length ≤ 1000) := Nat.le_trans (keepN_len now B.ns k2) hn
      have hl2 : Hid ((outL now B.ns k2).length ≤ 1000) := Nat.le_trans (outL_len now B.ns k2) hn
      clear hu z1 hbw
      cases hov : overB now B.ns[k2]
      · have hcs : 0 < B.ns[k2].miss.length ∧ (now < 0 ∨ 0 ≤ now ∧ now - B.ns[k2].at_ < 8) := by
          simp only [overB, Bool.or_eq_false_iff, Bool.and_eq_false_iff, decide_eq_false_iff_not] at hov
          obtain ⟨h1, h2⟩ := hov
          refine ⟨List.length_pos_iff.2 (by simpa using h1), by omega⟩
        obtain ⟨hm0, hcs⟩ := hcs
        have t0 : ((B.ns[k2].miss.length : Int) == 0) = false := by rw [beq_eq_false_iff_ne]; omega
        have HL := Lib.hid (keepN_miss hlt2 hov)
        have HUo := Lib.hid (outL_miss hlt2 hov)
        clear hov
        generalize hnk : B.ns[k2] = nk at *
        obtain ⟨nid, nat_, nb1, nb2, ms⟩ := nk
        have HNK := Lib.hid hnk
        clear hnk
        simp only at d0 d1 d2 t0 hcs hatn hm0
        have HST : Hid (∀ (w3 : World), Below w.heap.size w w3 → wr.heap.size ≤ w3.heap.size → ∀ i (h : i < (ds2 ++ [Value.slice ua ms.length uc]).length) (h' : i < (keepN now B.ns (k2 + 1)).length), RL (fun b => A b ∧ b < w.heap.size) w3 (ds2 ++ [Value.slice ua ms.length uc])[i] (keepN now B.ns (k2 + 1))[i].miss) := by
          intro w3 hb3 hs3 i hi hi'
          have hsm : Same (fun b => A b ∧ b < w.heap.size) wr w3 := Same.of_below (hbw3_of HBW.out hb3 hs3) fun b hb => hb.2
          have hd := HDS2.out
          rcases Nat.lt_or_ge i ds2.length with g | g
          · rw [List.getElem_append_left g]
            have e : (keepN now B.ns (k2 + 1))[i] = (keepN now B.ns k2)[i]'(by omega) := by
              simp only [HL.out]
              rw [List.getElem_append_left (by omega)]
            rw [e]
            exact (HE2.out i g (by omega)).mono hsm
          · obtain rfl : i = ds2.length := by simp at hi; omega
            have e : (keepN now B.ns (k2 + 1))[ds2.length] = ⟨nid, nat_, nb1, nb2, ms⟩ := by
              simp only [HL.out]
              rw [List.getElem_append_right (by omega)]
              simp [hd]
            rw [List.getElem_append_right (Nat.le_refl _), e]
            simp only [Nat.sub_self, List.getElem_cons_zero]
            exact HU.out.mono hsm
        have HFL : Hid (flat (keepN now B.ns (k2 + 1)) (ds2 ++ [Value.slice ua ms.length uc]) = flat (keepN now B.ns k2) ds2 ++ [.int .i64 nid, .int .i64 nat_, .slice ua ms.length uc]) := by
          show _ = _
          rw [HL.out, flat_append HDS2.out]
          rfl
        have HLN : Hid ((keepN now B.ns (k2 + 1)).length = (keepN now B.ns k2).length + 1) := by show _ = _; rw [HL.out]; simp
        have HBS : Hid (Below wr.heap.size wr (wr.alloc (.cells #[.int .i64 nid, .int .i64 nat_, .slice ua ms.length uc] 68))) := (Below.refl _ wr).alloc (Nat.le_refl _) _
        have HO3 := Lib.hid (owns_ext HO2.out HBS.out)
        rcases hcs with hneg | ⟨hge, hl8⟩
        · go_wp2_with (first | (at_builtin; refine wpList_append_own_at _ rfl _ _ 36 rfl (w.heap.size + 2) 68 j0 (.agg #[.int .i64 0, .int .i64 0, .slice none 0 0]) 3 40 Try.underlying36 hj' hy0 hy1 hy2 rfl (by decide) _ _ _ rfl (HO3.out.alloc _) ⟨wr.heap.size + 1, 0, none⟩ 1 1 [.int .i64 nid, .int .i64 nat_, .slice ua ms.length uc] rfl rfl ?c0p ?c1p ?c2p ?c3p ?c4p ?_) | go_in)
          try (case c0p => simpa using cells3 (wr.alloc (.cells #[.int .i64 nid, .int .i64 nat_, .slice ua ms.length uc] 68)) (.int .i64 nid) (.int .i64 nat_) (.slice ua ms.length uc) 68)
          case c1p => simp [Value.oneCell']
          case c2p => have := hl1.out; unfold maxLen; omega
          case c3p => have := hl1.out; omega
          case c4p => first | omega | (simp; omega)
          intro v3 w3 ho hg hnn hat
          have HO4 := Lib.hid ho
          have hgg := (World.grownBy_alloc (wr.alloc (.cells #[.int .i64 nid, .int .i64 nat_, .slice ua ms.length uc] 68)) (.cells #[.int .i64 nid, .int .i64 nat_, .slice ua ms.length uc] 68) none)
          have HQ3 := Lib.hid ((((owns_ext HQ2.out HBS.out).alloc (.cells #[.int .i64 nid, .int .i64 nat_, .slice ua ms.length uc] 68)).kept hg (own_ne ((owns_ext HQ2.out HBS.out).alloc (.cells #[.int .i64 nid, .int .i64 nat_, .slice ua ms.length uc] 68)) (HO3.out.alloc (.cells #[.int .i64 nid, .int .i64 nat_, .slice ua ms.length uc] 68)) (by decide))))
          have hb3 : Below (w.heap.size + 2) wr w3 := (((Below.refl _ wr).alloc hsz2 _).alloc (by simp; omega) _).grown hg (by simp; omega) fun g hg' => (HO2.out.lt g hg').1
          have hs3 := hb3.size
          have HB3 := Lib.hid (HBR2.out.trans hb3)
          have HBW3 := Lib.hid (HBW.out.trans (hb3.mono (by omega)))
          clear ho hg hnn hat hgg hb3
          go_wp2
          go_roundw
          case rel => exact ⟨k2 + 1, ds2 ++ [Value.slice ua ms.length uc], by omega, by go_num, by rw [HLN.out]; simp [HDS2.out], HST.out _ HBW3.out hs3, by rw [HFL.out, HLN.out]; exact HO4.out, by rw [HUo.out]; exact HQ3.out, by omega, HB3.out⟩
          case measure => simp [intOf]; omega
        · have hw : IntKind.i64.wrap (now - nat_) = now - nat_ := IntWalk.i64_in _ (by omega)
          go_wp2_with (first | (at_builtin; refine wpList_append_own_at _ rfl _ _ 36 rfl (w.heap.size + 2) 68 j0 (.agg #[.int .i64 0, .int .i64 0, .slice none 0 0]) 3 40 Try.underlying36 hj' hy0 hy1 hy2 rfl (by decide) _ _ _ rfl (HO3.out.alloc _) ⟨wr.heap.size + 1, 0, none⟩ 1 1 [.int .i64 nid, .int .i64 nat_, .slice ua ms.length uc] rfl rfl ?c0q ?c1q ?c2q ?c3q ?c4q ?_) | go_in)
          try (case c0q => simpa using cells3 (wr.alloc (.cells #[.int .i64 nid, .int .i64 nat_, .slice ua ms.length uc] 68)) (.int .i64 nid) (.int .i64 nat_) (.slice ua ms.length uc) 68)
          case c1q => simp [Value.oneCell']
          case c2q => have := hl1.out; unfold maxLen; omega
          case c3q => have := hl1.out; omega
          case c4q => first | omega | (simp; omega)
          intro v3 w3 ho hg hnn hat
          have HO4 := Lib.hid ho
          have hgg := (World.grownBy_alloc (wr.alloc (.cells #[.int .i64 nid, .int .i64 nat_, .slice ua ms.length uc] 68)) (.cells #[.int .i64 nid, .int .i64 nat_, .slice ua ms.length uc] 68) none)
          have HQ3 := Lib.hid ((((owns_ext HQ2.out HBS.out).alloc (.cells #[.int .i64 nid, .int .i64 nat_, .slice ua ms.length uc] 68)).kept hg (own_ne ((owns_ext HQ2.out HBS.out).alloc (.cells #[.int .i64 nid, .int .i64 nat_, .slice ua ms.length uc] 68)) (HO3.out.alloc (.cells #[.int .i64 nid, .int .i64 nat_, .slice ua ms.length uc] 68)) (by decide))))
          have hb3 : Below (w.heap.size + 2) wr w3 := (((Below.refl _ wr).alloc hsz2 _).alloc (by simp; omega) _).grown hg (by simp; omega) fun g hg' => (HO2.out.lt g hg').1
          have hs3 := hb3.size
          have HB3 := Lib.hid (HBR2.out.trans hb3)
          have HBW3 := Lib.hid (HBW.out.trans (hb3.mono (by omega)))
          clear ho hg hnn hat hgg hb3
          go_wp2
          go_roundw
          case rel => exact ⟨k2 + 1, ds2 ++ [Value.slice ua ms.length uc], by omega, by go_num, by rw [HLN.out]; simp [HDS2.out], HST.out _ HBW3.out hs3, by rw [HFL.out, HLN.out]; exact HO4.out, by rw [HUo.out]; exact HQ3.out, by omega, HB3.out⟩
          case measure => simp [intOf]; omega
      · have hcs : B.ns[k2].miss.length ≤ 0 ∨ 0 < B.ns[k2].miss.length ∧ 0 ≤ now ∧ 8 ≤ now - B.ns[k2].at_ := by
          simp only [overB, Bool.or_eq_true, Bool.and_eq_true, decide_eq_true_eq] at hov
          rcases hov with h | h
          · left; simp at h; simp [h]
          · rcases Nat.lt_or_ge 0 B.ns[k2].miss.length with g | g
            · exact .inr ⟨g, h⟩
            · exact .inl g
        have HL := Lib.hid (keepN_hit hlt2 hov)
        have HUo := Lib.hid (outL_hit hlt2 hov)
        clear hov
        generalize hnk : B.ns[k2] = nk at *
        obtain ⟨nid, nat_, nb1, nb2, ms⟩ := nk
        have HNK := Lib.hid hnk
        clear hnk
        simp only at d0 d1 d2 hcs hatn
        have HBS : Hid (Below wr.heap.size wr (wr.alloc (.cells #[.int .i64 nid, .int .i64 nat_, .slice ua ms.length uc] 68))) := (Below.refl _ wr).alloc (Nat.le_refl _) _
        have HQ3 := Lib.hid (owns_ext HQ2.out HBS.out)
        have HST : Hid (∀ (w3 : World), Below w.heap.size w w3 → wr.heap.size ≤ w3.heap.size → ∀ i (h : i < ds2.length) (h' : i < (keepN now B.ns (k2 + 1)).length), RL (fun b => A b ∧ b < w.heap.size) w3 ds2[i] (keepN now B.ns (k2 + 1))[i].miss) := by
          intro w3 hb3 hs3 i hi hi'
          have hsm : Same (fun b => A b ∧ b < w.heap.size) wr w3 := Same.of_below (hbw3_of HBW.out hb3 hs3) fun b hb => hb.2
          have e : (keepN now B.ns (k2 + 1))[i] = (keepN now B.ns k2)[i]'(by rw [← HDS2.out]; exact hi) := by simp only [HL.out]
          rw [e]
          exact (HE2.out i hi _).mono hsm
        rcases hcs with hz | ⟨hm0, hge, h8⟩
        · have t0 : ((ms.length : Int) == 0) = true := by rw [beq_iff_eq]; omega
          go_wp2_with (first | (at_builtin; refine wpList_append_own_at _ rfl _ _ 22 rfl (w.heap.size + 2) 3 i0 (.int .i64 0) 1 8 Try.underlying22 hi hz0 hz1 hz2 rfl (by decide) _ _ _ rfl (HQ3.out.alloc _) ⟨wr.heap.size + 1, 0, none⟩ 1 1 [.int .i64 nid] rfl rfl ?c0r ?c1r ?c2r ?c3r ?c4r ?_) | go_in)
          try (case c0r => simpa using cells_new (wr.alloc (.cells #[.int .i64 nid, .int .i64 nat_, .slice ua ms.length uc] 68)) [.int .i64 nid] 3)
          case c1r => simp [Value.oneCell']
          case c2r => have := hl2.out; unfold maxLen; omega
          case c3r => have := hl2.out; omega
          case c4r => first | omega | (simp; omega)
          intro v3 w3 ho hg hnn hat
          have HQ4 := Lib.hid ho
          have HO3 := Lib.hid ((((owns_ext HO2.out HBS.out).alloc (.cells #[.int .i64 nid] 3)).kept hg (own_ne ((owns_ext HO2.out HBS.out).alloc (.cells #[.int .i64 nid] 3)) (HQ3.out.alloc (.cells #[.int .i64 nid] 3)) (by decide))))
          have hb3 : Below (w.heap.size + 2) wr w3 := (((Below.refl _ wr).alloc hsz2 _).alloc (by simp; omega) _).grown hg (by simp; omega) fun g hg' => (HQ2.out.lt g hg').1
          have hs3 := hb3.size
          have HB3 := Lib.hid (HBR2.out.trans hb3)
          have HBW3 := Lib.hid (HBW.out.trans (hb3.mono (by omega)))
          clear ho hg hnn hat hb3
          go_wp2
          go_roundw
          case rel => exact ⟨k2 + 1, ds2, by omega, by go_num, by rw [HL.out]; exact HDS2.out, HST.out _ HBW3.out hs3, by rw [HL.out]; exact HO3.out, by rw [HUo.out]; simpa using HQ4.out, by omega, HB3.out⟩
          case measure => simp [intOf]; omega
        · have t0 : ((ms.length : Int) == 0) = false := by rw [beq_eq_false_iff_ne]; omega
          have hw : IntKind.i64.wrap (now - nat_) = now - nat_ := IntWalk.i64_in _ (by omega)
          go_wp2_with (first | (at_builtin; refine wpList_append_own_at _ rfl _ _ 22 rfl (w.heap.size + 2) 3 i0 (.int .i64 0) 1 8 Try.underlying22 hi hz0 hz1 hz2 rfl (by decide) _ _ _ rfl (HQ3.out.alloc _) ⟨wr.heap.size + 1, 0, none⟩ 1 1 [.int .i64 nid] rfl rfl ?c0s ?c1s ?c2s ?c3s ?c4s ?_) | go_in)
          try (case c0s => simpa using cells_new (wr.alloc (.cells #[.int .i64 nid, .int .i64 nat_, .slice ua ms.length uc] 68)) [.int .i64 nid] 3)
          case c1s => simp [Value.oneCell']
          case c2s => have := hl2.out; unfold maxLen; omega
          case c3s => have := hl2.out; omega
          case c4s => first | omega | (simp; omega)
          intro v3 w3 ho hg hnn hat
          have HQ4 := Lib.hid ho
          have HO3 := Lib.hid ((((owns_ext HO2.out HBS.out).alloc (.cells #[.int .i64 nid] 3)).kept hg (own_ne ((owns_ext HO2.out HBS.out).alloc (.cells #[.int .i64 nid] 3)) (HQ3.out.alloc (.cells #[.int .i64 nid] 3)) (by decide))))
          have hb3 : Below (w.heap.size + 2) wr w3 := (((Below.refl _ wr).alloc hsz2 _).alloc (by simp; omega) _).grown hg (by simp; omega) fun g hg' => (HQ2.out.lt g hg').1
          have hs3 := hb3.size
          have HB3 := Lib.hid (HBR2.out.trans hb3)
          have HBW3 := Lib.hid (HBW.out.trans (hb3.mono (by omega)))
          clear ho hg hnn hat hb3
          go_wp2
          go_roundw
          case rel => exact ⟨k2 + 1, ds2, by omega, by go_num, by rw [HL.out]; exact HDS2.out, HST.out _ HBW3.out hs3, by rw [HL.out]; exact HO3.out, by rw [HUo.out]; simpa using HQ4.out, by omega, HB3.out⟩
          case measure => simp [intOf]; omega
    · obtain ⟨fa, fc, rfl⟩ := owns_shape HO2.out
      obtain ⟨oa, oc, rfl⟩ := owns_shape HQ2.out
      have hk5 : k2 = B.ns.length := by omega
      have hkp : keepN now B.ns k2 = B.ns.filter fun n => !overB now n := by rw [keepN, hk5, List.take_length]
      have hol : outL now B.ns k2 = (B.ns.filter (overB now)).map (·.id) := by rw [outL, hk5, List.take_length]
      have hfin : IsR (Far A w 2) wr (.agg #[.slice wa 4 wc, .slice fa (keepN now B.ns k2).length fc, .int .i64 B.last]) (B.keep (B.ns.filter fun n => !overB now n)) := by
        refine ⟨_, _, rfl, (HW.out.cut.mono (Same.of_below hbw fun b hb => hb.2)).weak fun b hb => .inl hb, ds2, ?_, fun i hi hi' => ?_, ?_⟩
        · show ds2.length = (B.ns.filter fun n => !overB now n).length
          rw [HDS2.out, hkp]
        · have h1 := HE2.out i hi' (by rw [← HDS2.out]; exact hi')
          simp only [hkp] at h1
          exact h1.weak fun b hb => .inl hb
        · have h1 := SlA.of_owns HO2.out
          rw [hkp] at h1 ⊢
          exact h1.weak fun b hb => .inr hb
      have hfo : RL (Far A w 2) wr (.slice oa (outL now B.ns k2).length oc) ((B.ns.filter (overB now)).map (·.id)) := by
        have h1 := SlA.of_owns HQ2.out
        rw [hol] at h1 ⊢
        exact SlA.weak h1 fun b hb => .inr hb
      have FIN := Lib.hid hfin
      have FO := Lib.hid hfo
      obtain ⟨y0, z0⟩ := blk_cell (i := 0) HWB.out
      obtain ⟨y2, z2⟩ := blk_cell (i := 2) HWB.out
      obtain ⟨e0, q0⟩ := blk_cell (i := 0) HWB1.out
      obtain ⟨e1, q1⟩ := blk_cell (i := 1) HWB1.out
      obtain ⟨e2, q2⟩ := blk_cell (i := 2) HWB1.out
      simp at y0 y2 e0 e1 e2
      have hk6 : B.ns.length ≤ k2 := by omega
      clear hfin hfo hbw hk5 hlt2 hkp hol
      go_wp2
      refine bodyPost_ret (v := .tuple #[.agg #[.slice wa 4 wc, .slice fa (keepN now B.ns k2).length fc, .int .i64 B.last], .slice oa (outL now B.ns k2).length oc]) (by simp [results, Try.results23, go_sem, e0, e1, e2]) rfl ⟨_, _, rfl, (FIN.out.mono ?_).weak (Far.up A w 2), (FO.out.mono ?_).weak (Far.up A w 2), ?_⟩
      iterate 2
        · refine Same.setCell (Same.setCell (Same.setCell (Same.setCell (Same.refl _ _) ?_ _) ?_ _) ?_ _) ?_ _
          · exact not_far0 (by omega)
          · exact not_far (by omega)
          · exact not_far (by omega)
          · exact not_far (by omega)
      · refine Below.setCell (Below.setCell (Below.setCell (Below.setCell HBW.out ?_ _) ?_ _) ?_ _) ?_ _ <;> (simp; try omega)
end Go.Proofs.Ytiikkglgoanpbaa
