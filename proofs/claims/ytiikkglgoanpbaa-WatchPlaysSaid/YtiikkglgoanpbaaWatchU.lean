/- The walk of Over. -/
import Derived.Test.YtiikkglgoanpbaaWatchT
namespace Go.Proofs.Ytiikkglgoanpbaa
open Go.RowKit Go.Maps Go.WideShapes

theorem row_some {w : World} {base n size : Nat} {e : TypeId} {v : Value} {xs : List Value} (h : w.ownsRow base e size v n xs) (hn : 0 < n) : ∃ g cap, v = .slice (some ⟨g, 0, none⟩) n cap := by
  obtain ⟨h1, h2⟩ := h
  rcases h2 with ⟨_, h⟩ | ⟨g, cap, cur, rfl, _⟩
  · omega
  · exact ⟨g, cap, rfl⟩
theorem Try.infoInt : (Try.prog.info? 3).map (fun i => (i.zero, i.size, i.bytes)) = some (some (.int .i64 0), 1, 8) := by kernel_rfl

set_option maxRecDepth 100000 in
set_option maxHeartbeats 1600000 in
theorem over_empty (B : Brd) (now : Int) (w : World) (hB : IsB w B) (hnl : B.ns = []) :
    Calls Try.prog 14 #[.pointer (some ⟨B.pb, 0, none⟩), .int .i64 now] w fun e w' => e = .returned (.slice none 0 0) ∧ Below w.heap.size w w' := by
  obtain ⟨c0, c1, c2, c3, c4, c5⟩ := self_cells hB
  have hr := risingB B.nb (ntV B.ns) w hB.nots (by simp [ntV, hnl])
  rw [show (ntV B.ns).length = B.ns.length from by simp [ntV]] at hr
  have HR := Lib.hid hr
  have hle : B.ns.length ≤ 0 := by simp [hnl]
  clear hr hB hnl
  go_enter Try.func14, Try.ntmps14
  go_wp2_with (first | (go_at_call 30; refine HR.out.mono ?_; rintro e w1 ⟨v, rfl, hv1, hv2, hv3⟩; obtain ⟨a1, cp1, rfl⟩ := owns_shape hv1) | go_in)
  clear hv1 hv2
  refine wp_loop_once ?_
  go_wp2
  go_ret
  exact ⟨rfl, hv3⟩

theorem keepL_mem {now : Int} {ns : List Nt} {k : Nat} {n : Nt} (h : n ∈ keepL now ns k) : n ∈ ns := by
  rcases List.mem_append.1 h with h | h
  · exact List.mem_of_mem_take (List.mem_filter.1 h).1
  · exact List.mem_of_mem_drop h
theorem keepL_fp {B : Brd} {now : Int} {k b : Nat} (h : b ∈ (B.keep (keepL now B.ns k)).fp) : b ∈ B.fp := by
  simp only [Brd.fp, Brd.keep, List.mem_cons, List.mem_flatMap] at h ⊢
  rcases h with h | h | h | h | h | h | ⟨n, hn, h⟩
  all_goals try simp [h]
  exact .inr (.inr (.inr (.inr (.inr (.inr ⟨n, keepL_mem hn, by simpa using h⟩)))))

set_option maxRecDepth 100000 in
set_option maxHeartbeats 1600000 in
theorem over_some (B : Brd) (now : Int) (w : World) (hB : IsB w B) (n0 : -9223372036854775808 ≤ now) (n1 : now ≤ 9223372036854775807) (hat : ∀ n ∈ B.ns, 0 ≤ n.at_ ∧ n.at_ ≤ 1099511627776) (hnl : B.ns.length ≤ 1000) (hpos : 0 < B.ns.length) :
    Calls Try.prog 14 #[.pointer (some ⟨B.pb, 0, none⟩), .int .i64 now] w fun e w' => ∃ v, e = .returned v ∧
      w'.ownsRow w.heap.size 3 1 v (outL now B.ns B.ns.length).length ((outL now B.ns B.ns.length).map (Value.int .i64)) ∧ IsB w' (B.keep (keepL now B.ns B.ns.length)) ∧ Fr (· ∈ B.fp) w w' := by
  obtain ⟨c0, c1, c2, c3, c4, c5⟩ := self_cells hB
  have hr := risingB B.nb (ntV B.ns) w hB.nots (by simp only [ntV, List.length_map]; omega)
  rw [show (ntV B.ns).length = B.ns.length from by simp [ntV], show ((ntV B.ns).map (·.1)).map (Value.int .i64) = B.ns.map (fun n => Value.int .i64 n.id) from by simp [ntV, Function.comp_def]] at hr
  have HR := Lib.hid hr
  have HA := Lib.hid hat
  have HLT := Lib.hid hB.lt
  have HB := Lib.hid hB
  obtain ⟨i0, hi, hz0, hz1, hz2⟩ := info_parts Try.infoInt
  clear hr hB hat
  go_enter Try.func14, Try.ntmps14
  go_wp2_with (first | (go_at_call 30; refine HR.out.mono ?_; rintro e w1 ⟨v, rfl, hv1, hv2, hv3⟩; obtain ⟨g, cp, rfl⟩ := row_some hv1 hpos) | go_in)
  have HV := Lib.hid hv1
  clear hv1 hv2
  go_loopw [5, 18] (fun v i wr => ∃ k : Nat, k ≤ B.ns.length ∧ i = .int .i64 k ∧ wr.ownsRow w1.heap.size 3 1 v (outL now B.ns k).length ((outL now B.ns k).map (Value.int .i64)) ∧ IsB wr (B.keep (keepL now B.ns k)) ∧ Fr (· ∈ B.fp) w1 wr) (fun _ i _ => B.ns.length - (intOf i).toNat)
  case atStart => exact ⟨0, Nat.zero_le _, rfl, World.ownsRow_nil _ _ _ _, by simpa [keepL, Brd.keep] using HB.out.ext hv3, Fr.refl _ _⟩
  case round =>
    obtain ⟨k, hk, rfl, hown, hBr, hfr⟩ := hrel
    have HO := Lib.hid hown
    have HBR := Lib.hid hBr
    have HF := Lib.hid hfr
    clear hown hBr hfr
    by_cases hlt : k < B.ns.length
    · generalize hnn : B.ns[k] = n
      have hmem : n ∈ B.ns := hnn ▸ List.getElem_mem hlt
      have hkm : n ∈ keepL now B.ns k := by rw [keepL_split hlt, hnn]; simp
      have hB' := HBR.out
      have e4 : wr.cell? ⟨B.pb, 4, none⟩ = some (.map (some B.nb)) := (self_cells hB').2.2.2.2.1
      have hok : okI n.id := hB'.nots.ok (n.id, .pointer (some ⟨n.blk, 0, none⟩)) (List.mem_map.2 ⟨n, hkm, rfl⟩)
      have hfind : findN n.id (keepL now B.ns k) = some n := findN_of_mem (ntV_up hB'.nots.up) hkm
      have hlook : (Instr.lookup 53 (.map (some B.nb)) (.int .i64 n.id) false).run Try.prog wr = .ok (((findN n.id (keepL now B.ns k)).map fun n => .pointer (some ⟨n.blk, 0, none⟩)).getD (.pointer none)) wr := by
        have := hB'.nots.look Try.underlying3 Try.underlying53 (zero_notice wr) hok
        rw [ntV_get] at this
        exact this
      rw [hfind, Option.map_some, Option.getD_some] at hlook
      obtain ⟨m0, m1⟩ := note_cells hB' (n := n) hkm
      have hrow : wr.cell? ⟨g, k, none⟩ = some (.int .i64 n.id) := by
        have hl := HV.out.lt g rfl
        have h1 : w1.cell? ⟨g, k, none⟩ = _ := HV.out.cellAt k (by omega)
        rw [List.getElem?_map, List.getElem?_eq_getElem hlt, hnn] at h1
        have hgn : g ∉ B.fp := fun hm => by have := HLT.out g hm; omega
        exact ((HF.out.cell (p := ⟨g, k, none⟩) hl.2 hgn).trans h1)
      have hlen := fun ty => (hB'.each n hkm).2.len Try.underlying54 ty
      rw [setV_length] at hlen
      have hatn := HA.out n hmem
      have HKM := Lib.hid hkm
      have HOK := Lib.hid hok
      have HNN := Lib.hid hnn
      have HMEM := Lib.hid hmem
      clear hfind hkm hok hmem hnn hB'
      cases hov : overB now n
      · have hcs : 0 < n.miss.length ∧ (now < 0 ∨ 0 ≤ now ∧ now - n.at_ < 8) := by
          simp only [overB, Bool.or_eq_false_iff, Bool.and_eq_false_iff, decide_eq_false_iff_not] at hov
          obtain ⟨h1, h2⟩ := hov
          refine ⟨List.length_pos_iff.2 (by simpa using h1), by omega⟩
        obtain ⟨hm0, hcs⟩ := hcs
        have t0 : ((n.miss.length : Int) == 0) = false := by simpa using List.length_pos_iff.1 hm0
        have HL := Lib.hid (keepL_miss hlt (by rw [HNN.out]; exact hov))
        have HU := Lib.hid (outL_miss hlt (by rw [HNN.out]; exact hov))
        clear hov
        rcases hcs with hneg | ⟨hge, hl8⟩
        · go_wp2
          go_roundw
          case rel => exact ⟨k + 1, by omega, by go_num, by rw [HU.out]; exact HO.out, by rw [HL.out]; exact HBR.out, HF.out⟩
          case measure => simp [intOf]; omega
        · have hw : IntKind.i64.wrap (now - n.at_) = now - n.at_ := IntWalk.i64_in _ (by omega)
          go_wp2
          go_roundw
          case rel => exact ⟨k + 1, by omega, by go_num, by rw [HU.out]; exact HO.out, by rw [HL.out]; exact HBR.out, HF.out⟩
          case measure => simp [intOf]; omega
      · have hcs : n.miss.length ≤ 0 ∨ 0 < n.miss.length ∧ 0 ≤ now ∧ 8 ≤ now - n.at_ := by
          simp only [overB, Bool.or_eq_true, Bool.and_eq_true, decide_eq_true_eq] at hov
          rcases hov with h | h
          · left; simp at h; simp [h]
          · rcases Nat.lt_or_ge 0 n.miss.length with g | g
            · exact .inr ⟨g, h⟩
            · exact .inl g
        have HL := Lib.hid (keepL_hit hlt (by rw [HNN.out]; exact hov))
        have HU := Lib.hid (outL_hit hlt (by rw [HNN.out]; exact hov))
        have hB' := HBR.out
        obtain ⟨wa, ra, ta⟩ := (hB'.each n HKM.out).2.clear Try.underlying54 0
        obtain ⟨a1, a2, a3, a4, a5⟩ := hB'.apart HKM.out
        obtain ⟨wb, rb, mb, tb⟩ := (hB'.nots.block (w' := wa) (turned_block ta (Ne.symm a2))).del Try.underlying3 Try.underlying53 HOK.out 0
        have rb : (Builtin.delete_ #[53, 3] 0 #[.map (some B.nb), .int .i64 n.id]).run Try.prog wa = .ok (.tuple #[]) wb := rb
        have hBB : IsB wb (B.keep (keepL now B.ns (k + 1))) := by
          rw [HL.out]
          refine IsB.off (n := n) (w := wr) (wa := wa) ?_ ta ?_ tb
          · have := hB'; rw [keepL_split hlt, HNN.out] at this; exact this
          · have := mb; rw [show (B.keep (keepL now B.ns k)).ns = keepL now B.ns k from rfl, keepL_split hlt, HNN.out] at this; exact this
        have e4b : wa.cell? ⟨B.pb, 4, none⟩ = some (.map (some B.nb)) := (World.cell?_of_block (turned_block ta (Ne.symm a1))).trans e4
        have e4c : wb.cell? ⟨B.pb, 4, none⟩ = some (.map (some B.nb)) := (self_cells hBB).2.2.2.2.1
        have hmf : n.mb ∈ B.fp := mem_fp_mb HMEM.out
        have hnf : B.nb ∈ B.fp := by simp [Brd.fp]
        have HFB := Lib.hid ((HF.out.trans (turned_fr ta) (fun j _ e => e ▸ hmf)).trans (turned_fr tb) (fun j _ e => by rw [e]; exact hnf))
        have HOB : Hid (wb.ownsRow w1.heap.size 3 1 u5 (outL now B.ns k).length ((outL now B.ns k).map (Value.int .i64))) := by
          have q1 := HLT.out _ hmf
          have q2 := HLT.out _ hnf
          have q3 := hv3.size
          refine (HO.out.kept ta.grown ?_).kept tb.grown ?_ <;>
          · cases ho : u5.ownBlock with
            | none => exact .inl rfl
            | some j =>
              refine .inr fun e => ?_
              have := (HO.out.lt j ho).1
              simp only [Option.some.injEq, Brd.keep] at e
              omega
        have HSZ : Hid (wb.heap.size = wr.heap.size) := (turned_size tb).trans (turned_size ta)
        have HOL : Hid ((outL now B.ns k).length ≤ 1000) := by
          refine Nat.le_trans ?_ hnl
          simp only [outL, List.length_map]
          exact Nat.le_trans (List.length_filter_le _ _) (by simp; omega)
        have HBB := Lib.hid hBB
        clear hov hB' ta tb mb hBB a1 a2 a3 a4 a5 hmf hnf
        rcases hcs with hz | ⟨hm0, hge, h8⟩
        · have hz' : n.miss.length = 0 := by omega
          rw [hz'] at hlen
          clear hz hz'
          go_wp2_with (first | (at_builtin; refine wpList_append_own _ rfl _ _ 22 rfl w1.heap.size 3 i0 (.int .i64 0) 1 8 Try.underlying22 hi hz0 hz1 hz2 rfl (by decide) _ _ _ rfl (HOB.out.alloc _) ⟨wb.heap.size, 0, none⟩ 1 1 [.int .i64 n.id] rfl rfl ?c1 ?c2 ?c3 ?c4 ?c5 ?_) | go_in)
          case c1 => exact cells_new wb [.int .i64 n.id] _
          case c2 => simp [Value.oneCell']
          case c3 => have := HOL.out; unfold maxLen; omega
          case c4 => have := HOL.out; omega
          case c5 => simp; have := HF.out.size; have := HSZ.out; omega
          intro v' w3 ho hg hn
          have H3 := Lib.hid (HFB.out.alloc (.cells #[.int .i64 n.id] 3))
          have HO3 := Lib.hid ho
          have HG3 := Lib.hid hg
          clear ho hg hn
          go_wp2
          go_roundw
          case rel =>
            have hlow : ∀ j, j < w1.heap.size → some j ≠ u5.ownBlock := fun j hj e => by have := (HO.out.lt j e.symm).1; omega
            refine ⟨k + 1, by omega, by go_num, ?_, HBB.out.keep fun b hb => ?_, H3.out.grown HG3.out fun j hj e => (hlow j hj e).elim⟩
            · rw [HU.out, HNN.out]; simpa using HO3.out
            · have hb1 := HLT.out _ (keepL_fp hb)
              have hb2 := hv3.size
              have hb3 := HF.out.size
              have hb4 := HSZ.out
              rw [HG3.out.block b (by simp; omega) (hlow b (by omega)), Below.heap_alloc _ _ _ (by omega)]
          case measure => simp [intOf]; omega
        · have t0 : ((n.miss.length : Int) == 0) = false := by simpa using List.length_pos_iff.1 hm0
          have hw : IntKind.i64.wrap (now - n.at_) = now - n.at_ := IntWalk.i64_in _ (by omega)
          go_wp2_with (first | (at_builtin; refine wpList_append_own _ rfl _ _ 22 rfl w1.heap.size 3 i0 (.int .i64 0) 1 8 Try.underlying22 hi hz0 hz1 hz2 rfl (by decide) _ _ _ rfl (HOB.out.alloc _) ⟨wb.heap.size, 0, none⟩ 1 1 [.int .i64 n.id] rfl rfl ?c1 ?c2 ?c3 ?c4 ?c5 ?_) | go_in)
          case c1 => exact cells_new wb [.int .i64 n.id] _
          case c2 => simp [Value.oneCell']
          case c3 => have := HOL.out; unfold maxLen; omega
          case c4 => have := HOL.out; omega
          case c5 => simp; have := HF.out.size; have := HSZ.out; omega
          intro v' w3 ho hg hn
          have H3 := Lib.hid (HFB.out.alloc (.cells #[.int .i64 n.id] 3))
          have HO3 := Lib.hid ho
          have HG3 := Lib.hid hg
          clear ho hg hn
          go_wp2
          go_roundw
          case rel =>
            have hlow : ∀ j, j < w1.heap.size → some j ≠ u5.ownBlock := fun j hj e => by have := (HO.out.lt j e.symm).1; omega
            refine ⟨k + 1, by omega, by go_num, ?_, HBB.out.keep fun b hb => ?_, H3.out.grown HG3.out fun j hj e => (hlow j hj e).elim⟩
            · rw [HU.out, HNN.out]; simpa using HO3.out
            · have hb1 := HLT.out _ (keepL_fp hb)
              have hb2 := hv3.size
              have hb3 := HF.out.size
              have hb4 := HSZ.out
              rw [HG3.out.block b (by simp; omega) (hlow b (by omega)), Below.heap_alloc _ _ _ (by omega)]
          case measure => simp [intOf]; omega
    · obtain rfl : k = B.ns.length := by omega
      go_wp2
      go_ret
      exact ⟨_, rfl, ownsRow_base_a HO.out hv3.size, HBR.out, (Fr.ext hv3 : Fr (· ∈ B.fp) w w1).trans HF.out fun _ _ h => h⟩

theorem over_any (B : Brd) (now : Int) (w : World) (hB : IsB w B) (n0 : -9223372036854775808 ≤ now) (n1 : now ≤ 9223372036854775807) (hat : ∀ n ∈ B.ns, 0 ≤ n.at_ ∧ n.at_ ≤ 1099511627776) (hnl : B.ns.length ≤ 1000) :
    Calls Try.prog 14 #[.pointer (some ⟨B.pb, 0, none⟩), .int .i64 now] w fun e w' => ∃ v, e = .returned v ∧
      w'.ownsRow w.heap.size 3 1 v (B.ns.filter (overB now)).length ((B.ns.filter (overB now)).map fun n => Value.int .i64 n.id) ∧ IsB w' (B.keep (B.ns.filter fun n => !overB now n)) ∧ Fr (· ∈ B.fp) w w' := by
  rcases Nat.eq_zero_or_pos B.ns.length with h | h
  · have hn : B.ns = [] := List.length_eq_zero_iff.1 h
    refine (over_empty B now w hB hn).mono ?_
    rintro e w' ⟨rfl, hb⟩
    refine ⟨_, rfl, by rw [hn]; exact World.ownsRow_nil _ _ _ _, ?_, Fr.ext hb⟩
    rw [show B.keep (B.ns.filter fun n => !overB now n) = B from by rw [hn]; cases B; simp_all [Brd.keep]]
    exact hB.ext hb
  · refine (over_some B now w hB n0 n1 hat hnl h).mono ?_
    rintro e w' ⟨v, rfl, h1, h2, h3⟩
    simp only [outL, keepL, List.take_length, List.drop_length, List.append_nil, List.length_map, List.map_map] at h1 h2
    exact ⟨v, rfl, h1, h2, h3⟩
set_option maxRecDepth 100000 in
theorem over_nil (now : Int) (w : World) : Calls Try.prog 14 #[.pointer none, .int .i64 now] w fun e w' => e = .returned (.slice none 0 0) ∧ Below w.heap.size w w' := by
  go_enter Try.func14, Try.ntmps14
  go_wp2
  go_ret
  exact ⟨rfl, Below.refl _ _⟩
end Go.Proofs.Ytiikkglgoanpbaa
