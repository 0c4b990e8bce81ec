/- The walk of the reference's Pieces. -/
import Derived.Test.YthbpafbgnenljaaPieces2
namespace Go.Proofs.Ythbpafbgnenljaa
open Go.RowKit

theorem pcs_succ (u c o off : Int) (i : Nat) : pcs u c o off (i + 1) = joinP (pcs u c o off i) ⟨plO u c o (off + i), plK u c o (off + i), 1, i⟩ := rfl

set_option maxHeartbeats 2000000 in
theorem refPieces_any (u c o off n : Int) (w : World) :
    Calls Try.prog 18 #[lay u c o, .int .i64 off, .int .i64 n] w fun e w' => ∃ v, e = .returned v ∧ Sl w' 4 v (PCS u c o off n).length (pcCells (PCS u c o off n)) ∧ Below w.heap.size w w' := by
  cases hok : okB u c o
  · have HP : Hid (PCS u c o off n = []) := PCS_no (.inl (by rw [hok]; rfl))
    have HH := Lib.hid hok
    clear hok
    go_enter Try.func18, Try.ntmps18
    go_wp2_with (go_at_call 10; refine (refMay_any _ _ _ _).mono ?_; rintro e w' ⟨rfl, hb1⟩; rw [HH.out])
    go_ret
    exact ⟨_, rfl, by rw [HP.out]; exact Sl.nil _ _, by (repeat' (first | exact Below.refl _ _ | refine below_drewN ?_ _ | refine Below.drew ?_ | refine Below.alloc ?_ (by first | exact Nat.le_refl _ | (simp; done) | (simp; omega)) _ | (refine Below.trans ?_ (Below.mono (by assumption) (by first | exact Nat.le_refl _ | (simp; done) | (simp; omega))))))⟩
  have HH := Lib.hid hok
  by_cases h0 : off < 0
  · have HP : Hid (PCS u c o off n = []) := PCS_no (.inl (by simp [inF]; omega))
    clear hok
    go_enter Try.func18, Try.ntmps18
    go_wp2_with (go_at_call 10; refine (refMay_any _ _ _ _).mono ?_; rintro e w' ⟨rfl, hb1⟩; rw [HH.out])
    go_ret
    exact ⟨_, rfl, by rw [HP.out]; exact Sl.nil _ _, by (repeat' (first | exact Below.refl _ _ | refine below_drewN ?_ _ | refine Below.drew ?_ | refine Below.alloc ?_ (by first | exact Nat.le_refl _ | (simp; done) | (simp; omega)) _ | (refine Below.trans ?_ (Below.mono (by assumption) (by first | exact Nat.le_refl _ | (simp; done) | (simp; omega))))))⟩
  by_cases h1 : 1099511627776 < off
  · have HP : Hid (PCS u c o off n = []) := PCS_no (.inl (by simp [inF]; omega))
    clear hok
    go_enter Try.func18, Try.ntmps18
    go_wp2_with (go_at_call 10; refine (refMay_any _ _ _ _).mono ?_; rintro e w' ⟨rfl, hb1⟩; rw [HH.out])
    go_ret
    exact ⟨_, rfl, by rw [HP.out]; exact Sl.nil _ _, by (repeat' (first | exact Below.refl _ _ | refine below_drewN ?_ _ | refine Below.drew ?_ | refine Below.alloc ?_ (by first | exact Nat.le_refl _ | (simp; done) | (simp; omega)) _ | (refine Below.trans ?_ (Below.mono (by assumption) (by first | exact Nat.le_refl _ | (simp; done) | (simp; omega))))))⟩
  by_cases h2 : n < 0
  · have HP : Hid (PCS u c o off n = []) := PCS_no (.inl (by simp [inF]; omega))
    clear hok
    go_enter Try.func18, Try.ntmps18
    go_wp2_with (go_at_call 10; refine (refMay_any _ _ _ _).mono ?_; rintro e w' ⟨rfl, hb1⟩; rw [HH.out])
    go_ret
    exact ⟨_, rfl, by rw [HP.out]; exact Sl.nil _ _, by (repeat' (first | exact Below.refl _ _ | refine below_drewN ?_ _ | refine Below.drew ?_ | refine Below.alloc ?_ (by first | exact Nat.le_refl _ | (simp; done) | (simp; omega)) _ | (refine Below.trans ?_ (Below.mono (by assumption) (by first | exact Nat.le_refl _ | (simp; done) | (simp; omega))))))⟩
  by_cases h3 : 512 < n
  · have HP : Hid (PCS u c o off n = []) := PCS_no (.inr h3)
    clear hok
    go_enter Try.func18, Try.ntmps18
    go_wp2_with (go_at_call 10; refine (refMay_any _ _ _ _).mono ?_; rintro e w' ⟨rfl, hb1⟩; rw [HH.out])
    go_ret
    exact ⟨_, rfl, by rw [HP.out]; exact Sl.nil _ _, by (repeat' (first | exact Below.refl _ _ | refine below_drewN ?_ _ | refine Below.drew ?_ | refine Below.alloc ?_ (by first | exact Nat.le_refl _ | (simp; done) | (simp; omega)) _ | (refine Below.trans ?_ (Below.mono (by assumption) (by first | exact Nat.le_refl _ | (simp; done) | (simp; omega))))))⟩
  have hn0 : 0 ≤ n := by omega
  obtain ⟨N, rfl⟩ := Int.eq_ofNat_of_zero_le hn0
  have H := lay_of hok
  have HP : Hid (PCS u c o off (N : Int) = pcs u c o off N) := by
    show _ = _
    unfold PCS
    rw [if_pos]
    · simp
    · rw [hok, inF_iff.2 ⟨by omega, by omega⟩]
      simp
      omega
  have HL := Lib.hid H
  have o64 := H.o64
  clear hok H
  obtain ⟨i0, hi, hz0, hz1, hz2⟩ := info_parts Try.infoPc
  go_enter Try.func18, Try.ntmps18
  go_wp2_with (go_at_call 10; refine (refMay_any _ _ _ _).mono ?_; rintro e w1 ⟨rfl, hb1⟩; rw [HH.out])
  have hbw : Below (w.heap.size + 1) (w.alloc (.cells #[.int .i64 u, .int .i64 c, .int .i64 o] 23)) w1 := hb1.mono (by simp)
  clear hb1
  go_loopw [8, 9] (fun v i wr => ∃ k : Nat, k ≤ N ∧ i = .int .i64 k ∧ wr.ownsRow (w.heap.size + 1) 37 4 v (pcs u c o off k).length (pcCells (pcs u c o off k)) ∧ (pcs u c o off k = [] → v = .slice none 0 0) ∧ Below (w.heap.size + 1) (w.alloc (.cells #[.int .i64 u, .int .i64 c, .int .i64 o] 23)) wr) (fun _ i _ => N - (intOf i).toNat)
  case atStart => exact ⟨0, Nat.zero_le _, rfl, World.ownsRow_nil _ _ _ _, fun _ => rfl, hbw⟩
  case round =>
    obtain ⟨k, hk, rfl, hown, hnil, hbr⟩ := hrel
    clear hbw
    have x0 : wr.cell? ⟨w.heap.size, 0, none⟩ = some (.int .i64 u) := (hbr.cell (p := ⟨w.heap.size, 0, none⟩) (by simp)).trans (by simp)
    have x1 : wr.cell? ⟨w.heap.size, 1, none⟩ = some (.int .i64 c) := (hbr.cell (p := ⟨w.heap.size, 1, none⟩) (by simp)).trans (by simp)
    have x2 : wr.cell? ⟨w.heap.size, 2, none⟩ = some (.int .i64 o) := (hbr.cell (p := ⟨w.heap.size, 2, none⟩) (by simp)).trans (by simp)
    have hsz : w.heap.size + 1 ≤ wr.heap.size := by have := hbr.size; simpa using this
    by_cases hlt : k < N
    · have HU := Lib.hid (pcs_succ u c o off k)
      have p0 := plK_range HL.out (off := off + k)
      obtain ⟨p00, p01⟩ := p0
      have hlen := length_pcs u c o off k
      have hsm := Lib.hid (pcs_small HL.out off k)
      rcases snoc_cases (pcs u c o off k) with hp | ⟨a, q, hp⟩
      · obtain rfl := hnil hp
        rw [hp] at hown hlen
        rw [hp, joinP_nil] at HU
        have HO := Lib.hid hown
        clear hown hnil hp
        go_wp2_with (first | (go_at_call 25; refine (refplace_any _ _ _ _ _ HL.out (by omega) (by omega)).mono ?_; rintro e w'' ⟨rfl, hb2⟩; obtain ⟨hc2, hf2⟩ := bcell hb2) | (at_builtin; refine wpList_append_own _ rfl _ _ 33 rfl (w.heap.size + 1) 37 i0 (.agg #[.int .i64 0, .int .i64 0, .int .i64 0, .int .i64 0]) 4 32 Try.underlying33 hi hz0 hz1 hz2 rfl (by decide) _ 0 [] rfl (World.ownsRow_nil _ _ _ _) ⟨w''.heap.size, 0, none⟩ 1 1 (Pc.cells ⟨plO u c o (off + k), plK u c o (off + k), 1, k⟩) rfl rfl ?c1 ?c2 ?c3 ?c4 ?c5 ?_))
        case c1 =>
          have := cells_new w'' (Pc.cells ⟨plO u c o (off + k), plK u c o (off + k), 1, k⟩) 37
          simpa [Pc.cells] using this
        case c2 => simp [Pc.cells, Value.oneCell']
        case c3 => unfold maxLen; omega
        case c4 => omega
        case c5 => simp; have := hb2.size; omega
        intro v' w3 ho hg hn
        have H3 : Hid (Below (w.heap.size + 1) (w.alloc (.cells #[.int .i64 u, .int .i64 c, .int .i64 o] 23)) w3) :=
          (hbr.trans ((hb2.mono hsz).alloc (by have := hb2.size; omega) _)).trans (Below.grown (Below.refl _ _) hg (by simp; have := hb2.size; omega) (by intro j e; simp [Value.ownBlock] at e))
        have H1 := Lib.hid ho
        clear ho hg hn
        go_wp2
        go_roundw
        case rel =>
          exact ⟨k + 1, by omega, by go_num, by rw [HU.out]; exact H1.out, by rw [HU.out]; exact fun e => by simp at e, H3.out⟩
        case measure => simp [intOf]; omega
      · rcases hown.2 with ⟨_, hl0⟩ | ⟨g, cap, cur, rfl, hr⟩
        · rw [hp] at hl0; simp at hl0
        rw [hp] at hown hlen
        simp only [List.length_append, List.length_singleton] at hown hlen
        have hq := hsm.out q (by rw [hp]; simp)
        obtain ⟨q00, q01, q02⟩ := hq
        have hgb := (hown.lt g rfl).1
        have hgs := (hown.lt g rfl).2
        have ce := fun j (hj : j < (a.length + 1) * 4) => hown.cellAt j hj
        have hqq := pcCells_at (a ++ [q]) a.length (by simp)
        simp only [List.getElem_concat_length] at hqq
        have q0 : wr.cell? ⟨g, a.length * 4, none⟩ = some (.int .i64 q.ob) := (ce _ (by omega)).trans hqq.1
        have q1 : wr.cell? ⟨g, a.length * 4 + 1, none⟩ = some (.int .i64 q.off) := (ce _ (by omega)).trans hqq.2.1
        have q2 : wr.cell? ⟨g, a.length * 4 + 2, none⟩ = some (.int .i64 q.len) := (ce _ (by omega)).trans hqq.2.2.1
        have q3 : wr.cell? ⟨g, a.length * 4 + 3, none⟩ = some (.int .i64 q.fr) := (ce _ (by omega)).trans hqq.2.2.2
        have qf : wr.frozen? ⟨g, a.length * 4 + 2, none⟩ = false := hown.frozenAt _
        have HO := Lib.hid hown
        rw [hp] at HU
        have hlp : (pcs u c o off k).length = a.length + 1 := by rw [hp]; simp
        rw [hlp]
        have HPL := Lib.hid hlp
        clear ce hqq hown hnil hr hlp
        by_cases hit : q.ob = plO u c o (off + k) ∧ q.off + q.len = plK u c o (off + k)
        · have t1 : (q.ob == plO u c o (off + k)) = true := by simp [hit.1]
          have t2 : (q.off + q.len == plK u c o (off + k)) = true := by simp [hit.2]
          have HJ := Lib.hid (joinP_hit a q ⟨plO u c o (off + k), plK u c o (off + k), 1, k⟩ hit.1 hit.2)
          clear hit
          go_wp2_with (go_at_call 25; refine (refplace_any _ _ _ _ _ HL.out (by omega) (by omega)).mono ?_; rintro e w'' ⟨rfl, hb2⟩; obtain ⟨hc2, hf2⟩ := bcell hb2; have hz2 := hb2.size; have hg2 : g < w''.heap.size := Nat.lt_of_lt_of_le hgs hz2)
          refine ⟨⟨k + 1, by omega, by go_num, ?_, ?_, ?_⟩, by simp [intOf]; omega⟩
          · rw [HU.out, HJ.out]
            have := ((owns_ext HO.out hb2).stored (a.length * 4 + 2) (.int .i64 (q.len + 1))).1
            rw [pcCells_set] at this
            simpa using this.alloc (.cells #[.int .i64 q.ob, .int .i64 q.off, .int .i64 q.len, .int .i64 q.fr] 37)
          · rw [HU.out, HJ.out]; exact fun e => by simp at e
          · exact ((hbr.trans (hb2.mono hsz)).setCell hgb _).alloc (by simp; omega) _
        · have HJ := Lib.hid (joinP_miss a q ⟨plO u c o (off + k), plK u c o (off + k), 1, k⟩ hit)
          have hz2' := hz2
          cases t1 : (q.ob == plO u c o (off + k))
          · clear hit
            go_wp2_with (first | (go_at_call 25; refine (refplace_any _ _ _ _ _ HL.out (by omega) (by omega)).mono ?_; rintro e w'' ⟨rfl, hb2⟩; obtain ⟨hc2, hf2⟩ := bcell hb2; have hz2 := hb2.size; have hg2 : g < w''.heap.size := Nat.lt_of_lt_of_le hgs hz2) | (at_builtin; refine wpList_append_own _ rfl _ _ 33 rfl (w.heap.size + 1) 37 i0 (.agg #[.int .i64 0, .int .i64 0, .int .i64 0, .int .i64 0]) 4 32 Try.underlying33 hi hz0 hz1 hz2' rfl (by decide) _ _ _ rfl (((owns_ext HO.out hb2).alloc _).alloc _) ⟨w''.heap.size + 1, 0, none⟩ 1 1 (Pc.cells ⟨plO u c o (off + k), plK u c o (off + k), 1, k⟩) rfl rfl ?c1 ?c2 ?c3 ?c4 ?c5 ?_))
            case c1 =>
              have := cells_new (w''.alloc (.cells #[.int .i64 q.ob, .int .i64 q.off, .int .i64 q.len, .int .i64 q.fr] 37)) (Pc.cells ⟨plO u c o (off + k), plK u c o (off + k), 1, k⟩) 37
              simpa [Pc.cells] using this
            case c2 => simp [Pc.cells, Value.oneCell']
            case c3 => unfold maxLen; omega
            case c4 => omega
            case c5 => simp; omega
            intro v' w3 ho hg hn
            have H3 : Hid (Below (w.heap.size + 1) (w.alloc (.cells #[.int .i64 u, .int .i64 c, .int .i64 o] 23)) w3) := by
              refine (((hbr.trans (hb2.mono hsz)).alloc (by omega) _).alloc (by simp; omega) _).trans (Below.grown (Below.refl _ _) hg (by simp; omega) ?_)
              intro j e
              simp [Value.ownBlock] at e
              omega
            have H1 := Lib.hid ho
            clear ho hg hn
            go_wp2
            go_roundw
            case rel =>
              exact ⟨k + 1, by omega, by go_num, by rw [HU.out, HJ.out, pcCells_append]; simpa [pcCells] using H1.out, by rw [HU.out, HJ.out]; exact fun e => by simp at e, H3.out⟩
            case measure => simp [intOf]; omega
          · have t2 : (q.off + q.len == plK u c o (off + k)) = false := by
              simp at t1 ⊢
              exact fun e => hit ⟨t1, e⟩
            clear hit
            go_wp2_with (first | (go_at_call 25; refine (refplace_any _ _ _ _ _ HL.out (by omega) (by omega)).mono ?_; rintro e w'' ⟨rfl, hb2⟩; obtain ⟨hc2, hf2⟩ := bcell hb2; have hz2 := hb2.size; have hg2 : g < w''.heap.size := Nat.lt_of_lt_of_le hgs hz2) | (at_builtin; refine wpList_append_own _ rfl _ _ 33 rfl (w.heap.size + 1) 37 i0 (.agg #[.int .i64 0, .int .i64 0, .int .i64 0, .int .i64 0]) 4 32 Try.underlying33 hi hz0 hz1 hz2' rfl (by decide) _ _ _ rfl (((owns_ext HO.out hb2).alloc _).alloc _) ⟨w''.heap.size + 1, 0, none⟩ 1 1 (Pc.cells ⟨plO u c o (off + k), plK u c o (off + k), 1, k⟩) rfl rfl ?c1 ?c2 ?c3 ?c4 ?c5 ?_))
            case c1 =>
              have := cells_new (w''.alloc (.cells #[.int .i64 q.ob, .int .i64 q.off, .int .i64 q.len, .int .i64 q.fr] 37)) (Pc.cells ⟨plO u c o (off + k), plK u c o (off + k), 1, k⟩) 37
              simpa [Pc.cells] using this
            case c2 => simp [Pc.cells, Value.oneCell']
            case c3 => unfold maxLen; omega
            case c4 => omega
            case c5 => simp; omega
            intro v' w3 ho hg hn
            have H3 : Hid (Below (w.heap.size + 1) (w.alloc (.cells #[.int .i64 u, .int .i64 c, .int .i64 o] 23)) w3) := by
              refine (((hbr.trans (hb2.mono hsz)).alloc (by omega) _).alloc (by simp; omega) _).trans (Below.grown (Below.refl _ _) hg (by simp; omega) ?_)
              intro j e
              simp [Value.ownBlock] at e
              omega
            have H1 := Lib.hid ho
            clear ho hg hn
            go_wp2
            go_roundw
            case rel =>
              exact ⟨k + 1, by omega, by go_num, by rw [HU.out, HJ.out, pcCells_append]; simpa [pcCells] using H1.out, by rw [HU.out, HJ.out]; exact fun e => by simp at e, H3.out⟩
            case measure => simp [intOf]; omega
    · have hkn : k = N := by omega
      subst hkn
      have HS := Lib.hid (Sl.of_owns hown)
      obtain ⟨a3, c3, rfl⟩ := owns_shape hown
      clear hown hnil
      go_wp2
      go_ret
      exact ⟨_, rfl, by rw [HP.out]; exact HS.out, by (repeat' (first | exact Below.refl _ _ | refine below_drewN ?_ _ | refine Below.drew ?_ | refine Below.alloc ?_ (by first | exact Nat.le_refl _ | (simp; done) | (simp; omega)) _ | (refine Below.trans ?_ (Below.mono (by assumption) (by first | exact Nat.le_refl _ | (simp; done) | (simp; omega))))))⟩
end Go.Proofs.Ythbpafbgnenljaa
