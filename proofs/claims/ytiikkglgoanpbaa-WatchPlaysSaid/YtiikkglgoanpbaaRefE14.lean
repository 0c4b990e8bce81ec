/- The walk of Ack of terrazzoref14. -/
import Derived.Test.YtiikkglgoanpbaaRefD14
namespace Go.Proofs.Ytiikkglgoanpbaa
open Go.RowKit Go.Maps Go.WideShapes

def ackM (id who : Int) (n : Nt) : List Int := if n.id = id then remS who n.miss else n.miss
def ackF (id who : Int) (n : Nt) : Nt := { n with miss := ackM id who n }
theorem missL_mem {B : Brd} (h : B.ns.Pairwise (fun m n => m.id < n.id)) {n : Nt} (hn : n ∈ B.ns) : B.missL n.id = n.miss := by
  unfold Brd.missL
  rw [findN_of_mem h hn]
theorem ack_ns {B : Brd} (h : B.ns.Pairwise (fun m n => m.id < n.id)) (id who : Int) : (B.ack id who).ns = B.ns.map (ackF id who) := by
  unfold Brd.ack
  cases hk : B.ackB id who
  · simp only [Bool.false_eq_true, if_false]
    conv => lhs; rw [← List.map_id B.ns]
    refine List.map_congr_left fun n hn => ?_
    simp only [id_eq, ackF, ackM]
    split
    · rename_i e
      have : who ∉ n.miss := by
        have h1 := hk
        unfold Brd.ackB at h1
        rw [← e, missL_mem h hn] at h1
        simpa using h1
      rw [remS_not this]
    · rfl
  · simp only [if_true, Brd.setN, setN]
    refine List.map_congr_left fun n hn => ?_
    simp only [ackF, ackM]
    split
    · rename_i e
      rw [← e, missL_mem h hn]
    · rfl
def isA (id who : Int) (ns : List Nt) : Bool := ns.any fun n => n.id == id && decide (who ∈ n.miss)
theorem isA_all {B : Brd} (h : B.ns.Pairwise (fun m n => m.id < n.id)) (id who : Int) : isA id who B.ns = B.ackB id who := by
  rw [Bool.eq_iff_iff]
  simp only [isA, List.any_eq_true, Bool.and_eq_true, beq_iff_eq, decide_eq_true_eq, Brd.ackB]
  constructor
  · rintro ⟨n, hn, rfl, hw⟩
    rw [missL_mem h hn]; exact hw
  · intro hw
    unfold Brd.missL at hw
    split at hw
    · rename_i n hf
      obtain ⟨h1, h2⟩ := findN_mem hf
      exact ⟨n, h1, h2, hw⟩
    · simp at hw
theorem isA_hit {ns : List Nt} (h : ns.Pairwise (fun m n => m.id < n.id)) {k : Nat} (hk : k < ns.length) {id who : Int} (he : ns[k].id = id) : isA id who (ns.take (k + 1)) = decide (who ∈ ns[k].miss) := by
  rw [List.take_succ_eq_append_getElem hk]
  have h0 : isA id who (ns.take k) = false := by
    unfold isA
    rw [List.any_eq_false]
    intro n hn
    obtain ⟨i, hi, rfl⟩ := List.getElem_of_mem hn
    have hik : i < k := by simp at hi; omega
    rw [List.getElem_take]
    have := List.pairwise_iff_getElem.1 h i k (by omega) hk hik
    have hne : ns[i].id ≠ id := by omega
    simp [hne]
  unfold isA at h0 ⊢
  rw [List.any_append, h0]
  simp [he]
theorem isA_miss {ns : List Nt} {k : Nat} (hk : k < ns.length) {id who : Int} (he : ns[k].id ≠ id) : isA id who (ns.take (k + 1)) = isA id who (ns.take k) := by
  rw [List.take_succ_eq_append_getElem hk]
  unfold isA
  rw [List.any_append]
  simp [he]
theorem RL.of_old {A : Nat → Prop} {w wr : World} {v : Value} {l : List Int} (h : RL A w v l) (hb : Below w.heap.size w wr) : RL (fun b => A b ∧ b < w.heap.size) wr v l := h.cut.mono (Same.of_below hb fun _ hb => hb.2)

theorem hbw3_of {B : Nat} {w w1 w2 : World} (h1 : Below B w w1) (h2 : Below B w w2) (hs : w1.heap.size ≤ w2.heap.size) : Below B w1 w2 :=
  ⟨h2.os.trans h1.os.symm, h2.tape.trans h1.tape.symm, h2.output.trans h1.output.symm, hs, fun k hk => (h2.block k hk).trans (h1.block k hk).symm⟩
set_option maxRecDepth 100000 in
set_option maxHeartbeats 4000000 in
theorem rack_any (A : Nat → Prop) (v : Value) (B : Brd) (id who : Int) (w : World) (h : IsR A w v B) (hup : B.ns.Pairwise (fun m n => m.id < n.id)) (hmp : ∀ n ∈ B.ns, n.miss.Pairwise (· < ·)) (hn : B.ns.length ≤ 1000) (hm : ∀ n ∈ B.ns, n.miss.length ≤ 1000) :
    Calls Try.prog 22 #[v, .int .i64 id, .int .i64 who] w fun e w' => ∃ v', e = .returned (.tuple #[v', .bool (B.ackB id who)]) ∧ IsR (UpA A w) w' v' (B.ack id who) ∧ Below w.heap.size w w' := by
  obtain ⟨wv, nv, rfl, h1, h2⟩ := h
  obtain ⟨wa, wc, rfl⟩ := h1.shape
  obtain ⟨na, nc, rfl⟩ := h2.shape
  have HW := Lib.hid h1
  have HN := Lib.hid h2
  have HM := Lib.hid hm
  have HUP := Lib.hid hup
  have HMP := Lib.hid hmp
  obtain ⟨j0, hj', hy0, hy1, hy2⟩ := info_parts Try.infoNt
  clear h1 h2 hm hup hmp
  go_enter Try.func22, Try.ntmps22
  go_wp2
  go_loopw [8, 9, 10] (fun out is q wr => ∃ (k : Nat) (ds : List Value) (S : Nat → Prop), k ≤ B.ns.length ∧ q = .int .i64 k ∧ is = .bool (isA id who (B.ns.take k)) ∧ ds.length = k ∧ (∀ i (h : i < ds.length) (h' : i < B.ns.length), RL (fun b => S b ∨ A b ∧ b < w.heap.size) wr ds[i] (ackM id who B.ns[i])) ∧ wr.ownsRow (w.heap.size + 2) 68 3 out k (flat (B.ns.take k) ds) ∧ Gro (w.heap.size + 2) S wr out ∧
    w.heap.size + 2 ≤ wr.heap.size ∧ Below (w.heap.size + 2) ((w.alloc (.cells #[.slice wa 4 wc, .slice na B.ns.length nc, .int .i64 B.last] 38)).alloc (.cells #[.slice none 0 0, .slice none 0 0, .int .i64 0] 38)) wr) (fun _ _ q _ => B.ns.length - (intOf q).toNat)
  case atStart => exact ⟨0, [], _, by omega, rfl, rfl, rfl, fun i hi => by simp at hi, World.ownsRow_nil _ _ _ _, Gro.nil _ _, by simp, Below.refl _ _⟩
  case round =>
    obtain ⟨k2, ds2, S2, hk2, rfl, rfl, hds2, hE2, hown2, hG2, hsz2, hbr2⟩ := hrel
    have HO2 := Lib.hid hown2
    have HE2 := Lib.hid hE2
    have HG2 := Lib.hid hG2
    have HDS2 := Lib.hid hds2
    have hW : wr.heap[w.heap.size]? = some (.cells #[.slice wa 4 wc, .slice na B.ns.length nc, .int .i64 B.last] 38 (0, 0)) := by
      rw [hbr2.block _ (by omega), Below.heap_alloc _ _ _ (by simp)]
      exact heap_alloc_new w _
    have hW1 : wr.heap[w.heap.size + 1]? = some (.cells #[.slice none 0 0, .slice none 0 0, .int .i64 0] 38 (0, 0)) := by
      rw [hbr2.block _ (by omega)]
      exact heap_alloc_new' _ _ (by simp)
    have HWB := Lib.hid hW
    have HWB1 := Lib.hid hW1
    have HBR2 := Lib.hid hbr2
    have hbw : Below w.heap.size w wr := (((Below.refl _ w).alloc (Nat.le_refl _) _).alloc (by simp) _).trans (hbr2.mono (by omega))
    obtain ⟨y1, z1⟩ := blk_cell (i := 1) hW
    simp at y1
    clear hown2 hE2 hG2 hds2 hW hW1 hbr2
    by_cases hlt2 : k2 < B.ns.length
    · obtain ⟨b, off, u, rfl, hbl, d0, d1, d2, hu⟩ := HN.out.at hlt2
      obtain ⟨ua, uc, rfl⟩ := SlA.shape hu
      have d0 := cellB hbw hbl d0
      have d1 := cellB hbw hbl d1
      have d2 := cellB hbw hbl d2
      have hmm : Hid ((B.ns[k2]).miss.length ≤ 1000) := HM.out _ (List.getElem_mem hlt2)
      have hmp : Hid ((B.ns[k2]).miss.Pairwise (· < ·)) := HMP.out _ (List.getElem_mem hlt2)
      have HFL := Lib.hid (fun (v : Value) => flat_snoc (v := v) hlt2 HDS2.out)
      have HU := Lib.hid (RL.of_old hu hbw)
      have HST : Hid (∀ (v : Value) (w2 w3 : World), Below wr.heap.size wr w2 → Same (More S2 wr w2) w2 w3 → Below w.heap.size w w3 → RL (fun b => More S2 wr w2 b ∨ A b ∧ b < w.heap.size) w3 v (ackM id who B.ns[k2]) →
          ∀ i (h : i < (ds2 ++ [v]).length) (h' : i < B.ns.length), RL (fun b => More S2 wr w2 b ∨ A b ∧ b < w.heap.size) w3 (ds2 ++ [v])[i] (ackM id who B.ns[i])) := by
        intro v w2 w3 hb2 hs hbw3 hv i hi hi'
        rcases Nat.lt_or_ge i ds2.length with g | g
        · rw [List.getElem_append_left g]
          have hsm : Same (fun b => S2 b ∨ A b ∧ b < w.heap.size) wr w3 := ⟨Nat.le_trans hb2.size hs.size, fun b hb hl => by
            rcases hb with hb | hb
            · exact (hs.block b (.inl hb) (Nat.lt_of_lt_of_le hl hb2.size)).trans (hb2.block b hl)
            · exact (hbw3.block b hb.2).trans (hbw.block b hb.2).symm⟩
          exact ((HE2.out i g hi').mono hsm).weak fun b hb => hb.imp (fun h => .inl h) fun h => h
        · obtain rfl : i = ds2.length := by simp at hi; omega
          rw [List.getElem_append_right (Nat.le_refl _)]
          simp only [Nat.sub_self, List.getElem_cons_zero]
          have e : ds2.length = k2 := HDS2.out
          have : B.ns[ds2.length] = B.ns[k2] := by congr 1
          rw [this]
          exact hv
      by_cases he : B.ns[k2].id = id
      · have HIS := Lib.hid (isA_hit (who := who) HUP.out hlt2 he)
        have HAM : Hid (ackM id who B.ns[k2] = remS who B.ns[k2].miss) := by show _ = _; unfold ackM; rw [if_pos he]
        rw [HAM.out] at HST
        have t1 : (id == id) = true := by simp
        rw [he] at d0
        have hz : ∀ P : Prop, (∀ _ : Hid (isA id who (B.ns.take (k2 + 1)) = true), decide ((remS who B.ns[k2].miss).length < B.ns[k2].miss.length) = true → P) → (∀ _ : Hid (isA id who (B.ns.take (k2 + 1)) = false), decide ((remS who B.ns[k2].miss).length < B.ns[k2].miss.length) = false → P) → P := by
          intro P p1 p2
          by_cases hw : who ∈ B.ns[k2].miss
          · exact p1 (by show _ = _; rw [HIS.out]; simpa using hw) (by have := remS_succ hmp.out hw; simp; omega)
          · exact p2 (by show _ = _; rw [HIS.out]; simpa using hw) (by rw [remS_not hw]; simp)
        have HE0 := Lib.hid he
        clear he hu z1
        generalize hnk : B.ns[k2] = nk at *
        obtain ⟨nid, nat_, nb1, nb2, ms⟩ := nk
        have HNK := Lib.hid hnk
        clear hnk
        simp only at d0 d1 d2
        refine hz _ (fun HIS2 ht => ?_) (fun HIS2 ht => ?_) <;> clear hz
        all_goals
          go_wp2_with fail
          refine (without_any _ _ ms who _ (HU.out.ext ((Below.refl _ _).alloc (Nat.le_refl _) _)) hmm.out).mono ?_
          rintro e w2 ⟨v2, rfl, hv2, hb2⟩
          obtain ⟨v2a, v2c, rfl⟩ := SlA.shape hv2
          have hblk : w2.heap[wr.heap.size]? = some (.cells #[.int .i64 id, .int .i64 nat_, .slice ua ms.length uc] 68 (0, 0)) := by
            rw [hb2.block _ (by simp)]
            exact heap_alloc_new wr _
          obtain ⟨e0, q0⟩ := blk_cell (i := 0) hblk
          obtain ⟨e1, q1⟩ := blk_cell (i := 1) hblk
          obtain ⟨e2, q2⟩ := blk_cell (i := 2) hblk
          simp at e0 e1 e2
          have hbs : Below wr.heap.size wr (w2.setCell ⟨wr.heap.size, 2, none⟩ (.slice v2a (remS who ms).length v2c)) := (((Below.refl _ wr).alloc (Nat.le_refl _) _).trans (hb2.mono (by simp))).setCell (Nat.le_refl _) _
          have hv3 : RL (fun b => wr.heap.size ≤ b) (w2.setCell ⟨wr.heap.size, 2, none⟩ (.slice v2a (remS who ms).length v2c)) (.slice v2a (remS who ms).length v2c) (remS who ms) := by
            refine (RL.mono hv2 ((Same.refl _ w2).setCell ?_ _)).weak fun b hb => ?_
            · simp
            · simp at hb; omega
          have HBS := Lib.hid hbs
          have HV3 := Lib.hid hv3
          have HO3 := Lib.hid (owns_ext HO2.out hbs)
          have hs2 : wr.heap.size + 1 ≤ w2.heap.size := by simpa using hb2.size
          clear hv2 hb2 hblk d0 d1 d2 y1 hbs hv3
          go_wp2_with (first | (at_builtin; refine wpList_append_own_at _ rfl _ _ 36 rfl (w.heap.size + 2) 68 j0 (.agg #[.int .i64 0, .int .i64 0, .slice none 0 0]) 3 40 Try.underlying36 hj' hy0 hy1 hy2 rfl (by decide) _ _ _ rfl (HO3.out.alloc _) ⟨w2.heap.size, 0, none⟩ 1 1 [.int .i64 id, .int .i64 nat_, .slice v2a (remS who ms).length v2c] rfl rfl ?c0h ?c1h ?c2h ?c3h ?c4h ?_) | go_in)
          case c0h => simpa using cells3 (w2.setCell ⟨wr.heap.size, 2, none⟩ (.slice v2a (remS who ms).length v2c)) (.int .i64 id) (.int .i64 nat_) (.slice v2a (remS who ms).length v2c) 68
          case c1h => simp [Value.oneCell']
          case c2h => unfold maxLen; omega
          case c3h => omega
          case c4h => simp; omega
          intro v3 w3 ho hg hnn hat
          obtain ⟨q1, q2, q3⟩ := nest_step HG2.out HO2.out hsz2 HBS.out hg (by simpa using hat)
          have HG3 := Lib.hid q1
          have HO4 := Lib.hid ho
          have hb3 := Lib.hid (HBR2.out.trans q3)
          have hbw3 : Below w.heap.size w w3 := hbw.trans (q3.mono (by omega))
          have HQ2 := Lib.hid q2
          have hs3 := q3.size
          clear ho hg hnn hat q1 q2 q3
          have HE3 := Lib.hid (HST.out _ _ _ HBS.out HQ2.out hbw3 (((HV3.out.cut.weak fun b hb => .inr ⟨hb.1, hb.2⟩ : RL (More S2 wr _) _ _ _).mono HQ2.out).weak fun b hb => .inl hb))
          go_wp2
          go_roundw
          case rel => exact ⟨k2 + 1, _, _, by omega, by go_num, by rw [HIS2.out], by simp [HDS2.out], HE3.out, by have h := HFL.out (.slice v2a (remS who ms).length v2c); rw [show nid = id from HE0.out] at h; rw [h]; exact HO4.out, HG3.out, by omega, hb3.out⟩
          case measure => simp [intOf]; omega
      · have HIS := Lib.hid (isA_miss (who := who) hlt2 he)
        have HAM : Hid (ackM id who B.ns[k2] = B.ns[k2].miss) := by show _ = _; unfold ackM; rw [if_neg he]
        rw [HAM.out] at HST
        have t1 : (B.ns[k2].id == id) = false := by rw [beq_eq_false_iff_ne]; exact he
        clear he hu z1
        generalize hnk : B.ns[k2] = nk at *
        obtain ⟨nid, nat_, nb1, nb2, ms⟩ := nk
        have HNK := Lib.hid hnk
        clear hnk
        simp only at d0 d1 d2 t1
        have HBS : Hid (Below wr.heap.size wr (wr.alloc (.cells #[.int .i64 nid, .int .i64 nat_, .slice ua ms.length uc] 68))) := (Below.refl _ wr).alloc (Nat.le_refl _) _
        have HO3 := Lib.hid (owns_ext HO2.out HBS.out)
        go_wp2_with (first | (at_builtin; refine wpList_append_own_at _ rfl _ _ 36 rfl (w.heap.size + 2) 68 j0 (.agg #[.int .i64 0, .int .i64 0, .slice none 0 0]) 3 40 Try.underlying36 hj' hy0 hy1 hy2 rfl (by decide) _ _ _ rfl (HO3.out.alloc _) ⟨wr.heap.size + 1, 0, none⟩ 1 1 [.int .i64 nid, .int .i64 nat_, .slice ua ms.length uc] rfl rfl ?c0m ?c1m ?c2m ?c3m ?c4m ?_) | go_in)
        case c1m => simp [Value.oneCell']
        case c2m => unfold maxLen; omega
        case c3m => omega
        case c4m => first | omega | (simp; omega)
        intro v3 w3 ho hg hnn hat
        obtain ⟨q1, q2, q3⟩ := nest_step HG2.out HO2.out hsz2 HBS.out hg (by simpa using hat)
        have HG3 := Lib.hid q1
        have HO4 := Lib.hid ho
        have hb3 := Lib.hid (HBR2.out.trans q3)
        have hbw3 : Below w.heap.size w w3 := hbw.trans (q3.mono (by omega))
        have HQ2 := Lib.hid q2
        have hs3 := q3.size
        clear ho hg hnn hat q1 q2 q3
        have HE3 := Lib.hid (HST.out _ _ _ HBS.out HQ2.out hbw3 ((HU.out.mono (Same.of_below (hbw3_of hbw hbw3 hs3) fun b hb => hb.2)).weak fun b hb => .inr hb))
        go_wp2
        go_roundw
        case rel => exact ⟨k2 + 1, _, _, by omega, by go_num, by rw [HIS.out], by simp [HDS2.out], HE3.out, by rw [HFL.out]; exact HO4.out, HG3.out, by omega, hb3.out⟩
        case measure => simp [intOf]; omega
    · obtain ⟨fa, fc, rfl⟩ := owns_shape HO2.out
      have hk5 : k2 = B.ns.length := by omega
      have hfin : IsR (Far A w 2) wr (.agg #[.slice wa 4 wc, .slice fa k2 fc, .int .i64 B.last]) (B.ack id who) := by
        have hns := ack_ns HUP.out id who
        have hlast : (B.ack id who).last = B.last := by unfold Brd.ack; split <;> rfl
        have hwl : (B.ack id who).wl = B.wl := by unfold Brd.ack; split <;> rfl
        refine ⟨_, _, by rw [hlast], ?_, ds2, ?_, fun i hi hi' => ?_, ?_⟩
        · rw [hwl]
          exact (HW.out.cut.mono (Same.of_below hbw fun b hb => hb.2)).weak fun b hb => .inl hb
        · rw [hns, List.length_map, HDS2.out]; exact hk5
        · have hi2 : i < B.ns.length := by rw [hns, List.length_map] at hi; exact hi
          have h1 := HE2.out i hi' hi2
          rw [show ((B.ack id who).ns[i]'hi).miss = ackM id who B.ns[i] by simp [hns, ackF]]
          refine h1.weak fun b hb => ?_
          rcases hb with hb | hb
          · exact .inr (HG2.out.lo b hb).1
          · exact .inl hb
        · have h1 := SlA.of_owns HO2.out
          have h2 : (B.ack id who).ns.length = k2 := by rw [hns, List.length_map]; exact hk5.symm
          have h3 : flat (B.ack id who).ns ds2 = flat (B.ns.take k2) ds2 := by
            rw [hk5, List.take_length, hns]
            exact flat_map (f := ackF id who) (fun n => ⟨rfl, rfl⟩) B.ns ds2
          rw [h2, h3]
          exact h1.weak fun b hb => .inr hb
      have FIN := Lib.hid hfin
      have HBW := Lib.hid hbw
      have HIS : Hid (isA id who (B.ns.take k2) = B.ackB id who) := by
        show _ = _
        rw [hk5, List.take_length]
        exact isA_all HUP.out id who
      rw [HIS.out]
      obtain ⟨y0, z0⟩ := blk_cell (i := 0) HWB.out
      obtain ⟨y2, z2⟩ := blk_cell (i := 2) HWB.out
      obtain ⟨e0, q0⟩ := blk_cell (i := 0) HWB1.out
      obtain ⟨e1, q1⟩ := blk_cell (i := 1) HWB1.out
      obtain ⟨e2, q2⟩ := blk_cell (i := 2) HWB1.out
      simp at y0 y2 e0 e1 e2
      have hk6 : B.ns.length ≤ k2 := by omega
      clear hfin hbw hk5 hlt2
      go_wp2
      refine bodyPost_ret (v := .tuple #[.agg #[.slice wa 4 wc, .slice fa k2 fc, .int .i64 B.last], .bool (B.ackB id who)]) (by simp [results, Try.results22, go_sem, e0, e1, e2]) rfl ⟨_, rfl, (FIN.out.mono ?_).weak (Far.up A w 2), ?_⟩
      · refine Same.setCell (Same.setCell (Same.setCell (Same.setCell (Same.refl _ _) ?_ _) ?_ _) ?_ _) ?_ _
        · exact not_far0 (by omega)
        · exact not_far (by omega)
        · exact not_far (by omega)
        · exact not_far (by omega)
      · refine Below.setCell (Below.setCell (Below.setCell (Below.setCell HBW.out ?_ _) ?_ _) ?_ _) ?_ _ <;> (simp; try omega)
end Go.Proofs.Ytiikkglgoanpbaa
