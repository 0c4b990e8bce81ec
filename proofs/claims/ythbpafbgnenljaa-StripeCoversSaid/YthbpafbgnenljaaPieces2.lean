/- The walk of Pieces. -/
import Derived.Test.YthbpafbgnenljaaPieces
namespace Go.Proofs.Ythbpafbgnenljaa
open Go.RowKit

theorem PCS_no {u c o off n : Int} (h : (okB u c o && (inF off && inF n)) = false ∨ 512 < n) : PCS u c o off n = [] := by
  unfold PCS
  rw [if_neg]
  intro g
  simp only [Bool.and_eq_true, decide_eq_true_eq] at g
  rcases h with h | h
  · have : inF n = true := inF_iff.2 ⟨g.1.2, by omega⟩
    rw [g.1.1.1, g.1.1.2, this] at h
    simp at h
  · omega

theorem pcs_small {u c o : Int} (H : Lay u c o) (off : Int) (i : Nat) : Small 64 (pcs u c o off i) := by
  induction i with
  | zero => intro q h; simp [pcs] at h
  | succ i ih =>
    have r := plK_range H (off := off + i)
    have := H.o64
    exact joinP_small ih r.1 (by simp [pcAt]) (by simp only [pcAt]; omega)

structure PlF' (u c o off : Int) : Prop where
  a : 0 ≤ off / u ∧ off / u ≤ 1099511628288
  b : 0 ≤ off / u / c ∧ off / u / c ≤ 1099511628288
  d : 0 ≤ off / u % c ∧ off / u % c < c
  m : 0 ≤ off % u ∧ off % u < u
  r : 0 ≤ off / u / c / (o / u) ∧ off / u / c / (o / u) ≤ 1099511628288
  s : 0 ≤ off / u / c % (o / u) ∧ off / u / c % (o / u) < o / u
  t : 0 ≤ off / u / c / (o / u) * c ∧ off / u / c / (o / u) * c ≤ 1099511628288 * 8
  v : 0 ≤ off / u / c % (o / u) * u ∧ off / u / c % (o / u) * u ≤ 64 * 64
theorem plF' {u c o off : Int} (H : Lay u c o) (h0 : 0 ≤ off) (h1 : off ≤ 1099511628288) : PlF' u c o off := by
  have a := div_b h0 h1 H.u1
  have b := div_b a.1 a.2 H.c1
  have r := div_b b.1 b.2 H.e1
  have s := mod_b (a := off / u / c) H.e1
  have he := H.e64
  have := H.uo
  have := H.o64
  exact ⟨a, b, mod_b H.c1, mod_b H.u1, r, s, mul_b r.1 r.2 (by have := H.c1; omega) H.c8, mul_b s.1 (by omega) (by have := H.u1; omega) (by omega)⟩

set_option maxHeartbeats 2000000 in
theorem pieces_any (u c o off n : Int) (w : World) :
    Calls Try.prog 17 #[lay u c o, .int .i64 off, .int .i64 n] w fun e w' => ∃ v, e = .returned v ∧ Sl w' 4 v (PCS u c o off n).length (pcCells (PCS u c o off n)) ∧ Below w.heap.size w w' := by
  cases hh : (okB u c o && (inF off && inF n))
  · have HP := Lib.hid (PCS_no (.inl hh))
    have HH := Lib.hid hh
    clear hh
    go_enter Try.func17, Try.ntmps17
    go_wp2_with (go_at_call 23; refine (may2 _ _ _ off n _ _ _ (by simp) (by simp) (by simp)).mono ?_; rintro e w' ⟨rfl, hb1⟩; rw [HH.out])
    go_ret
    exact ⟨_, rfl, by rw [HP.out]; exact Sl.nil _ _, by (repeat' (first | exact Below.refl _ _ | refine below_drewN ?_ _ | refine Below.drew ?_ | refine Below.alloc ?_ (by first | exact Nat.le_refl _ | (simp; done) | (simp; omega)) _ | (refine Below.trans ?_ (Below.mono (by assumption) (by first | exact Nat.le_refl _ | (simp; done) | (simp; omega))))))⟩
  · have HH := Lib.hid hh
    rw [Bool.and_eq_true, Bool.and_eq_true, inF_iff, inF_iff] at hh
    obtain ⟨hok, ⟨hi0, hi1⟩, hn0, hn1⟩ := hh
    by_cases hg : 512 < n
    · have HP := Lib.hid (PCS_no (u := u) (c := c) (o := o) (off := off) (.inr hg))
      clear hok
      go_enter Try.func17, Try.ntmps17
      go_wp2_with (go_at_call 23; refine (may2 _ _ _ off n _ _ _ (by simp) (by simp) (by simp)).mono ?_; rintro e w' ⟨rfl, hb1⟩; rw [HH.out])
      go_ret
      exact ⟨_, rfl, by rw [HP.out]; exact Sl.nil _ _, by (repeat' (first | exact Below.refl _ _ | refine below_drewN ?_ _ | refine Below.drew ?_ | refine Below.alloc ?_ (by first | exact Nat.le_refl _ | (simp; done) | (simp; omega)) _ | (refine Below.trans ?_ (Below.mono (by assumption) (by first | exact Nat.le_refl _ | (simp; done) | (simp; omega))))))⟩
    · obtain ⟨N, rfl⟩ := Int.eq_ofNat_of_zero_le hn0
      have H := lay_of hok
      have HP : Hid (PCS u c o off (N : Int) = pcs u c o off N) := by
        show _ = _
        unfold PCS
        rw [if_pos]
        · simp
        · rw [hok, inF_iff.2 ⟨hi0, hi1⟩]
          simp
          omega
      have HL := Lib.hid H
      clear hok
      go_enter Try.func17, Try.ntmps17
      go_wp2_with (go_at_call 23; refine (may2 _ _ _ off N _ _ _ (by simp) (by simp) (by simp)).mono ?_; rintro e w1 ⟨rfl, hb1⟩; rw [HH.out])
      have hsz1 : w.heap.size + 1 ≤ w1.heap.size := by have := hb1.size; simp at this; omega
      have hbw : Below (w.heap.size + 1) (w.alloc (.cells #[.int .i64 u, .int .i64 c, .int .i64 o] 23)) w1 := by
        refine Below.trans ?_ (hb1.mono (by simp))
        exact (Below.refl _ _).alloc (by simp) _
      clear hb1
      go_loopw [9] (fun i wr => ∃ (k : Nat) (v : Value), k ≤ N ∧ i = .int .i64 k ∧ wr.heap[w1.heap.size]? = some (.cells #[v] 33 (0, 0)) ∧ wr.ownsRow (w1.heap.size + 1) 37 4 v (pcs u c o off k).length (pcCells (pcs u c o off k)) ∧ (pcs u c o off k = [] → v = .slice none 0 0) ∧ Below (w.heap.size + 1) (w.alloc (.cells #[.int .i64 u, .int .i64 c, .int .i64 o] 23)) wr) (fun i _ => N - (intOf i).toNat)
      case atStart =>
        refine ⟨0, _, Nat.zero_le _, rfl, heap_alloc_new _ _, World.ownsRow_nil _ _ _ _, fun _ => rfl, hbw.alloc hsz1 _⟩
      case round =>
        obtain ⟨k, v, hk, rfl, hbo, hown, hnil, hbr⟩ := hrel
        clear hbw
        have x0 : wr.cell? ⟨w.heap.size, 0, none⟩ = some (.int .i64 u) := (hbr.cell (p := ⟨w.heap.size, 0, none⟩) (by simp)).trans (by simp)
        have x1 : wr.cell? ⟨w.heap.size, 1, none⟩ = some (.int .i64 c) := (hbr.cell (p := ⟨w.heap.size, 1, none⟩) (by simp)).trans (by simp)
        have x2 : wr.cell? ⟨w.heap.size, 2, none⟩ = some (.int .i64 o) := (hbr.cell (p := ⟨w.heap.size, 2, none⟩) (by simp)).trans (by simp)
        have hbs := lt_of_block hbo
        have hb0 := cell_of_one hbo
        have hsz : w.heap.size < wr.heap.size := by have := hbr.size; simp at this; omega
        by_cases hlt : k < N
        · obtain ⟨⟨a0, a1⟩, ⟨b0, b1⟩, ⟨d0, d1⟩, ⟨m0, m1⟩, ⟨r0, r1⟩, ⟨s0, s1⟩, ⟨t0, t1⟩, ⟨v0, v1⟩⟩ := plF' H (off := off + k) (by omega) (by omega)
          obtain ⟨u1, c1, c8, uo, o64, e1, e64, -⟩ := H
          have HB := Lib.hid hbo
          have HO := Lib.hid hown
          have HN := Lib.hid hnil
          clear hbo hown hnil
          go_wp2
          go_region
          generalize hM : (if (N : Int) - (k : Int) < u - (off + ↑k) % u then (N : Int) - (k : Int) else u - (off + ↑k) % u) = M
          have g : 1 ≤ M ∧ M ≤ N - k ∧ M ≤ u - (off + k) % u := by rw [← hM]; split <;> omega
          clear hM
          obtain ⟨g1, g2, g3⟩ := g
          obtain ⟨m, rfl⟩ : ∃ m : Nat, M = (m : Int) + 1 := ⟨(M - 1).toNat, by omega⟩
          have HU := Lib.hid (pcs_unit HL.out (off := off) k m (by omega))
          have hlen := length_pcs u c o off k
          have hK : (off + ↑k) / u / c % (o / u) * u + (off + ↑k) % u < o := (plK_range HL.out).2
          have fin : ∀ (v' : Value) (w3 : World) (o3 : Obj), Fr (fun j => j = w1.heap.size ∨ some j = v.ownBlock) (wr.alloc o3).drew w3 →
              w3.cell? ⟨wr.heap.size, 2, none⟩ = (wr.alloc o3).cell? ⟨wr.heap.size, 2, none⟩ ∧ Below (w.heap.size + 1) (w.alloc (.cells #[.int .i64 u, .int .i64 c, .int .i64 o] 23)) w3 := by
            intro v' w3 o3 h3
            refine ⟨?_, ?_⟩
            · refine (h3.cell (p := ⟨wr.heap.size, 2, none⟩) (by simp) ?_).trans rfl
              rintro (e | e)
              · simp only at e; omega
              · have := (HO.out.lt _ e.symm).2
                simp only at this; omega
            · refine (hbr.alloc (by omega) o3).drew.trans (h3.below (by simp; omega) ?_)
              rintro j hj (e | e)
              · omega
              · have := (HO.out.lt _ e.symm).1
                omega
          have FIN := Lib.hid fin
          clear fin
          go_wp2_with fail
          refine (join_any ⟨_, _, _, _⟩ (pcs u c o off k) v w1.heap.size _ (by exact (Below.heap_alloc _ _ _ hbs).trans HB.out) (by exact (HO.out.alloc _).drew) HN.out (by omega) (pcs_small HL.out _ _) (by simp only []; omega) (by simp only []; omega) (by simp only []; omega)).mono ?_
          rintro e w3 ⟨v', rfl, h1, h2, h3⟩
          obtain ⟨y0, y1⟩ := FIN.out v' w3 _ h3
          rw [World.cell?_alloc_new] at y0
          have H1 := Lib.hid h1
          have H2 := Lib.hid h2
          have H3 := Lib.hid y1
          clear h1 h2 h3 y1 FIN
          go_wp2
          go_roundw
          case rel =>
            refine ⟨k + (m + 1), v', by omega, by go_num, H2.out, ?_, ?_, H3.out⟩
            · rw [HU.out]; exact H1.out
            · rw [HU.out]; exact fun e => absurd e (joinP_ne _ _)
          case measure => simp [intOf]; omega
        · have hkn : k = N := by omega
          subst hkn
          have HS := Lib.hid (Sl.of_owns hown)
          obtain ⟨a3, c3, rfl⟩ := owns_shape hown
          clear hown hnil
          go_wp2
          go_ret
          exact ⟨_, rfl, by rw [HP.out]; exact HS.out, by (repeat' (first | exact Below.refl _ _ | refine below_drewN ?_ _ | refine Below.drew ?_ | refine Below.alloc ?_ (by first | exact Nat.le_refl _ | (simp; done) | (simp; omega)) _ | (refine Below.trans ?_ (Below.mono (by assumption) (by first | exact Nat.le_refl _ | (simp; done) | (simp; omega))))))⟩
end Go.Proofs.Ythbpafbgnenljaa
