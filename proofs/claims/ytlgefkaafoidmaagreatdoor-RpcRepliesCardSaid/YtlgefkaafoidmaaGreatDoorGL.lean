/- The walk of object.Check, at any object. The walks of object.Get, object.from, object.At: the first key that meets something. Rows of the call's own whose data are the call's own too and stand apart from the row; append of one datum. No program is named. Rows of the call's own that hold data: append of one datum. No program is named. What the references of layer 8 compute, plainly: it is what object's functions compute. No program is named. -/
import Derived.Test.YtlgefkaafoidmaaGreatDoorGK
import Derived.Test.YtlgefkaafoidmaaGreatDoorGG
import Derived.Test.YtlgefkaafoidmaaGreatDoorGF
import Derived.Maps.AppendAt
import Derived.Test.YtlgefkaafoidmaaGreatDoorGI
namespace Go.Proofs.YtlgefkaafoidmaaGreatDoor
open Go.RowKit Go.WideShapes

theorem ObV.ext {A : Nat → Prop} {w w' : World} {v : Value} {o : ObD} (h : ObV A w v o) (hb : Below w.heap.size w w') : ObV A w' v o := by
  obtain ⟨dv, kv, rfl, hd, hk⟩ := h
  exact ⟨dv, kv, rfl, hd.ext hb, hk.ext hb⟩
theorem chkAt_eq {ks : List KyD} {k : Nat} (hlt : k < ks.length) : chkAt ks k = (keyB ks[k] && ordB ks k) := by simp [chkAt, hlt]
theorem ordB_succ {ks : List KyD} {k : Nat} (hlt : k + 1 < ks.length) : ordB ks (k + 1) = ltS (ks[k]'(by omega)).name ks[k + 1].name := by
  have h0 : ks[k]? = some (ks[k]'(by omega)) := List.getElem?_eq_getElem (by omega)
  have h1 : ks[k + 1]? = some ks[k + 1] := List.getElem?_eq_getElem hlt
  simp [ordB, h0, h1]
theorem head_ways (o : ObD) :
    (headB o = true ∧ (o.data.length : Int) ≤ 64 ∧ (o.keys.length : Int) ≤ 120 ∧ 0 ≤ o.seq ∧ o.seq ≤ 1099511627776) ∨
    (headB o = false ∧ ¬ (o.data.length : Int) ≤ 64) ∨
    (headB o = false ∧ (o.data.length : Int) ≤ 64 ∧ ¬ (o.keys.length : Int) ≤ 120) ∨
    (headB o = false ∧ (o.data.length : Int) ≤ 64 ∧ (o.keys.length : Int) ≤ 120 ∧ ¬ 0 ≤ o.seq) ∨
    (headB o = false ∧ (o.data.length : Int) ≤ 64 ∧ (o.keys.length : Int) ≤ 120 ∧ 0 ≤ o.seq ∧ ¬ o.seq ≤ 1099511627776) := by
  unfold headB
  by_cases h1 : (o.data.length : Int) ≤ 64
  · by_cases h2 : (o.keys.length : Int) ≤ 120
    · by_cases h3 : 0 ≤ o.seq
      · by_cases h4 : o.seq ≤ 1099511627776
        · exact .inl ⟨by simp [h1, h2, h3, h4], h1, h2, h3, h4⟩
        · exact .inr (.inr (.inr (.inr ⟨by simp [h4], h1, h2, h3, h4⟩)))
      · exact .inr (.inr (.inr (.inl ⟨by simp [h3], h1, h2, h3⟩)))
    · exact .inr (.inr (.inl ⟨by simp [h2], h1, h2⟩))
  · exact .inr (.inl ⟨by simp [h1], h1⟩)
def ChkR (c : Bool) (w : World) (e : Ending) (w' : World) : Prop := e = .returned (.int .i64 (if c then 0 else 1)) ∧ Below w.heap.size w w'
/-- the first part's outcome -/
inductive HeadC (d k : Nat) (s : Int) : Bool → Prop
  | yes : (d : Int) ≤ 64 → (k : Int) ≤ 120 → 0 ≤ s → s ≤ 1099511627776 → HeadC d k s true
  | no1 : ¬ (d : Int) ≤ 64 → HeadC d k s false
  | no2 : (d : Int) ≤ 64 → ¬ (k : Int) ≤ 120 → HeadC d k s false
  | no3 : (d : Int) ≤ 64 → (k : Int) ≤ 120 → ¬ 0 ≤ s → HeadC d k s false
  | no4 : (d : Int) ≤ 64 → (k : Int) ≤ 120 → 0 ≤ s → ¬ s ≤ 1099511627776 → HeadC d k s false
theorem headC (o : ObD) : HeadC o.data.length o.keys.length o.seq (headB o) := by
  rcases head_ways o with ⟨h, a, b, c, d⟩ | ⟨h, a⟩ | ⟨h, a, b⟩ | ⟨h, a, b, c⟩ | ⟨h, a, b, c, d⟩ <;> rw [h]
  · exact .yes a b c d
  · exact .no1 a
  · exact .no2 a b
  · exact .no3 a b c
  · exact .no4 a b c d
theorem chk_next {c B x : Bool} {ks : List KyD} {k : Nat} (h : (c && chkTo ks k) = B) (hx : (B && chkAt ks k) = x) : (c && chkTo ks (k + 1)) = x := by
  rw [← hx, ← h, chkTo, Bool.and_assoc]
set_option maxRecDepth 100000 in
set_option maxHeartbeats 16000000 in
theorem check_any' (A : Nat → Prop) (od : List UInt8) (ks : List KyD) (os : Int) (da ka : Option Addr) (dc kc : Nat) (c : Bool) (w : World) (hk : SlE Enc.key A w (.slice ka ks.length kc) ks) (hl : ks.length ≤ 100000) (hc : HeadC od.length ks.length os c) :
    Calls Tryz.prog 75 #[.agg #[.slice da od.length dc, .slice ka ks.length kc, .int .i64 os]] w (ChkR (c && chkTo ks ks.length) w) := by
  have HK := Lib.hid hk
  clear hk
  obtain ⟨c', hc'⟩ : ∃ c', c' = c := ⟨_, rfl⟩
  rw [← hc']
  have HCC := Lib.hid hc'
  clear hc'
  rcases hc with ⟨d1, d2, d3, d4⟩ | ⟨d1⟩ | ⟨d1, d2⟩ | ⟨d1, d2, d3⟩ | ⟨d1, d2, d3, d4⟩
  all_goals
    go_enter Tryz.func75, Tryz.ntmps75
    go_wp2
    obtain ⟨w0, hw0⟩ : ∃ w0, w0 = w.alloc (.cells #[.slice da od.length dc, .slice ka ks.length kc, .int .i64 os] 38) := ⟨_, rfl⟩
    rw [← hw0]
    have hw : Below w.heap.size w w0 := by rw [hw0]; ((repeat' (first | exact Below.refl _ _ | refine below_drewN ?_ _ | refine Below.drew ?_ | refine Below.alloc ?_ ?_ _ | refine Below.trans ?_ (Below.mono (by assumption) ?_))); all_goals (first | exact Nat.le_refl _ | exact Below.size (by assumption) | omega | (simp; done) | (simp; omega)))
    have B0 : w0.heap[w.heap.size]? = some (.cells #[.slice da od.length dc, .slice ka ks.length kc, .int .i64 os] 38 (0, 0)) := by rw [hw0]; exact heap_alloc_new _ _
    have HW := Lib.hid hw
    have HK0 := Lib.hid (HK.out.ext hw)
    have HB0 := Lib.hid B0
    clear hw hw0 B0 HK d1
    go_loopw [3, 29] (fun q3 q29 wr => ∃ k : Nat, k ≤ ks.length ∧ q29 = .int .i64 k ∧ (∃ B, (c' && chkTo ks k) = B ∧ q3 = .bool B) ∧ Below w0.heap.size w0 wr) (fun _ q29 _ => ks.length - (intOf q29).toNat)
    case atStart => exact ⟨0, Nat.zero_le _, rfl, ⟨_, by rw [HCC.out]; rfl, rfl⟩, Below.refl _ _⟩
    case round =>
      obtain ⟨k, hk, rfl, ⟨B, hB, rfl⟩, hbr⟩ := hrel
      have HB := Lib.hid hB
      have HBR := Lib.hid hbr
      have hsr := hbr.size
      have hw0 : w.heap.size < w0.heap.size := (Array.getElem?_eq_some_iff.1 HB0.out).1
      have hwl : w.heap.size < wr.heap.size := by omega
      obtain ⟨x1, f1⟩ := blk_cell (i := 1) ((hbr.block _ hw0).trans HB0.out)
      simp at x1
      clear hB hbr hw0
      by_cases hlt : k < ks.length
      · have HKr := Lib.hid (HK0.out.ext HBR.out)
        obtain ⟨b, off, v, rfl, hb, -, c3, c4, hv⟩ := Keys.at HKr.out hlt
        obtain ⟨va, vc, rfl⟩ := hv.shape
        clear hv
        have HCA : Hid (chkAt ks k = (keyB ks[k] && ordB ks k)) := chkAt_eq hlt
        have hord : Hid (∀ j, k = j + 1 → ∃ pn, ordB ks k = ltS pn (ks[k]).name ∧ wr.cell? ⟨b, off + j * 2, none⟩ = some (.string pn)) := by
          intro j hj
          subst hj
          obtain ⟨b', off', v', e', -, -, c3', -, -⟩ := Keys.at HKr.out (i := j) (by omega)
          simp only [Option.some.injEq, Addr.mk.injEq] at e'
          obtain ⟨rfl, rfl, -⟩ := e'
          exact ⟨_, ordB_succ hlt, c3'⟩
        generalize hky : ks[k] = ky at *
        clear hky
        go_upto_region 5 with fail
        obtain ⟨wk, hwk⟩ : ∃ wk, wk = wr.alloc (.cells #[.string ky.name, .slice va ky.value.length vc] 89) := ⟨_, rfl⟩
        rw [← hwk]
        have K := heap_alloc_new wr (.cells #[.string ky.name, .slice va ky.value.length vc] 89)
        rw [← hwk] at K
        have hbk : Below wr.heap.size wr wk := by rw [hwk]; exact (Below.refl _ _).alloc (Nat.le_refl _) _
        have HBK := Lib.hid (HBR.out.trans (hbk.mono hsr))
        have y0 : ∀ n : After wk, n.w.cell? ⟨wr.heap.size, 0, none⟩ = some (.string ky.name) := after_cell (blk_cell (i := 0) K).1
        have y1 : ∀ n : After wk, n.w.cell? ⟨wr.heap.size, 1, none⟩ = some (.slice va ky.value.length vc) := after_cell (blk_cell (i := 1) K).1
        have y2 : ∀ n : After wk, n.w.cell? ⟨w.heap.size, 1, none⟩ = some (.slice (some ⟨b, off, none⟩) ks.length kc) := after_cell (cellExt hbk x1)
        have hord2 : Hid (∀ j, k = j + 1 → ∃ pn, ordB ks k = ltS pn ky.name ∧ ∀ n : After wk, n.w.cell? ⟨b, off + j * 2, none⟩ = some (.string pn)) := fun j hj => by
          obtain ⟨pn, e1, e2⟩ := hord.out j hj
          exact ⟨pn, e1, after_cell (cellExt hbk e2)⟩
        clear hwk K hbk hord x1 c3 c4
        cases B with
        | false =>
          (refine wp_region_after (by kernel_rfl) (by kernel_rfl) ?_
           repeat (first | go_big_quiet_skip | (go_big_quiet_want; go_big_quiet_op; (first | go_big_quiet_on | (apply Exists.intro; refine ⟨fun _ => ?_, ?_⟩; (focus (fail)); go_big_quiet_on))))
           refine wpQuiet_nil ?_
           intro _ hw'
           obtain ⟨nq, hw''⟩ := hw'
           subst hw''
           have hq := nq.h)
          have HQ := Lib.hid hq
          clear hq
          go_wp2
          go_roundw
          case rel => exact ⟨k + 1, by omega, by go_num, ⟨false, chk_next HB.out (rfl), rfl⟩, HBK.out.trans (HQ.out.mono HBK.out.size)⟩
          case measure => simp [intOf]; omega
        | true =>
          by_cases hn : nameB ky.name = true
          · have HR : Hid (∀ W, Calls Tryz.prog 89 #[.string ky.name] W fun e w' => e = .returned (.bool true) ∧ Below W.heap.size W w') := fun W => by rw [← hn]; exact oright_any _ W
            by_cases hv : (ky.value.length : Int) ≤ 2048
            · have HKB : Hid (keyB ky = true) := by show keyB ky = true; simp only [keyB, hn, Bool.true_and, decide_eq_true_eq]; omega
              clear hn
              rcases Nat.eq_zero_or_pos k with h0 | hp
              · have HO : Hid (ordB ks k = true) := by show ordB ks k = true; rw [h0]; rfl
                have hk0 : ((k : Int) == 0) = true := by simp; omega
                have hk1 : decide (k = 0) = true := by simp; omega
                have hk2 : (k == 0) = true := by simp; omega
                clear h0
                (refine wp_region_after (by kernel_rfl) (by kernel_rfl) ?_
                 repeat (first | go_big_quiet_skip | (go_big_quiet_want; go_big_quiet_op; (first | go_big_quiet_on | (apply Exists.intro; refine ⟨fun _ => ?_, ?_⟩; (focus (go_at_call 89; exact calls_after (HR.out _))); go_big_quiet_on))))
                 refine wpQuiet_nil ?_
                 intro _ hw'
                 obtain ⟨nq, hw''⟩ := hw'
                 subst hw''
                 have hq := nq.h)
                have HQ := Lib.hid hq
                clear hq
                go_wp2
                go_roundw
                case rel => exact ⟨k + 1, by omega, by go_num, ⟨true, chk_next HB.out (by rw [HCA.out, HKB.out, HO.out]; rfl), rfl⟩, HBK.out.trans (HQ.out.mono HBK.out.size)⟩
                case measure => simp [intOf]; omega
              · obtain ⟨j, hj⟩ : ∃ j, k = j + 1 := ⟨k - 1, by omega⟩
                obtain ⟨pn, e1, z0⟩ := hord2.out j hj
                have hk0 : ((k : Int) == 0) = false := by simp; omega
                have hk1 : decide (k = 0) = false := by simp; omega
                have hk2 : (k == 0) = false := by simp; omega
                have hw1 : IntKind.i64.wrap ((k : Int) - 1) = (j : Int) := by rw [IntKind.wrap_i64]; omega
                have hjl : (j : Int) < ks.length := by omega
                cases hlt2 : Op.bytesLess pn.toList ky.name.toList with
                | true =>
                  have HO : Hid (ordB ks k = true) := e1.trans hlt2
                  clear e1 hj hp
                  (refine wp_region_after (by kernel_rfl) (by kernel_rfl) ?_
                   repeat (first | go_big_quiet_skip | (go_big_quiet_want; go_big_quiet_op; (first | go_big_quiet_on | (apply Exists.intro; refine ⟨fun _ => ?_, ?_⟩; (focus (go_at_call 89; exact calls_after (HR.out _))); go_big_quiet_on))))
                   refine wpQuiet_nil ?_
                   intro _ hw'
                   obtain ⟨nq, hw''⟩ := hw'
                   subst hw''
                   have hq := nq.h)
                  have HQ := Lib.hid hq
                  clear hq
                  go_wp2
                  go_roundw
                  case rel => exact ⟨k + 1, by omega, by go_num, ⟨true, chk_next HB.out (by rw [HCA.out, HKB.out, HO.out]; rfl), rfl⟩, HBK.out.trans (HQ.out.mono HBK.out.size)⟩
                  case measure => simp [intOf]; omega
                | false =>
                  have HO : Hid (ordB ks k = false) := e1.trans hlt2
                  clear e1 hj hp
                  (refine wp_region_after (by kernel_rfl) (by kernel_rfl) ?_
                   repeat (first | go_big_quiet_skip | (go_big_quiet_want; go_big_quiet_op; (first | go_big_quiet_on | (apply Exists.intro; refine ⟨fun _ => ?_, ?_⟩; (focus (go_at_call 89; exact calls_after (HR.out _))); go_big_quiet_on))))
                   refine wpQuiet_nil ?_
                   intro _ hw'
                   obtain ⟨nq, hw''⟩ := hw'
                   subst hw''
                   have hq := nq.h)
                  have HQ := Lib.hid hq
                  clear hq
                  go_wp2
                  go_roundw
                  case rel => exact ⟨k + 1, by omega, by go_num, ⟨false, chk_next HB.out (by rw [HCA.out, HKB.out, HO.out]; rfl), rfl⟩, HBK.out.trans (HQ.out.mono HBK.out.size)⟩
                  case measure => simp [intOf]; omega
            · have HKB : Hid (keyB ky = false) := by show keyB ky = false; simp only [keyB, hn, Bool.true_and, decide_eq_false_iff_not]; omega
              clear hn
              (refine wp_region_after (by kernel_rfl) (by kernel_rfl) ?_
               repeat (first | go_big_quiet_skip | (go_big_quiet_want; go_big_quiet_op; (first | go_big_quiet_on | (apply Exists.intro; refine ⟨fun _ => ?_, ?_⟩; (focus (go_at_call 89; exact calls_after (HR.out _))); go_big_quiet_on))))
               refine wpQuiet_nil ?_
               intro _ hw'
               obtain ⟨nq, hw''⟩ := hw'
               subst hw''
               have hq := nq.h)
              have HQ := Lib.hid hq
              clear hq
              go_wp2
              go_roundw
              case rel => exact ⟨k + 1, by omega, by go_num, ⟨false, chk_next HB.out (by rw [HCA.out, HKB.out]; rfl), rfl⟩, HBK.out.trans (HQ.out.mono HBK.out.size)⟩
              case measure => simp [intOf]; omega
          · have hn' : nameB ky.name = false := by simpa using hn
            have HR : Hid (∀ W, Calls Tryz.prog 89 #[.string ky.name] W fun e w' => e = .returned (.bool false) ∧ Below W.heap.size W w') := fun W => by rw [← hn']; exact oright_any _ W
            have HKB : Hid (keyB ky = false) := by show keyB ky = false; simp [keyB, hn']
            clear hn hn'
            (refine wp_region_after (by kernel_rfl) (by kernel_rfl) ?_
             repeat (first | go_big_quiet_skip | (go_big_quiet_want; go_big_quiet_op; (first | go_big_quiet_on | (apply Exists.intro; refine ⟨fun _ => ?_, ?_⟩; (focus (go_at_call 89; exact calls_after (HR.out _))); go_big_quiet_on))))
             refine wpQuiet_nil ?_
             intro _ hw'
             obtain ⟨nq, hw''⟩ := hw'
             subst hw''
             have hq := nq.h)
            have HQ := Lib.hid hq
            clear hq
            go_wp2
            go_roundw
            case rel => exact ⟨k + 1, by omega, by go_num, ⟨false, chk_next HB.out (by rw [HCA.out, HKB.out]; rfl), rfl⟩, HBK.out.trans (HQ.out.mono HBK.out.size)⟩
            case measure => simp [intOf]; omega
      · obtain rfl : k = ks.length := by omega
        cases B with
        | false =>
          go_wp2
          go_ret
          exact ⟨by rw [HB.out]; rfl, HW.out.trans (HBR.out.mono HW.out.size)⟩
        | true =>
          go_wp2
          go_ret
          exact ⟨by rw [HB.out]; rfl, HW.out.trans (HBR.out.mono HW.out.size)⟩
theorem check_any (A : Nat → Prop) (v : Value) (o : ObD) (w : World) (hv : ObV A w v o) (hl : o.keys.length ≤ 100000) :
    Calls Tryz.prog 75 #[v] w (ChkR (mayB o) w) := by
  obtain ⟨dv, kv, rfl, hd, hk⟩ := hv
  obtain ⟨da, dc, rfl⟩ := hd.shape
  obtain ⟨ka, kc, rfl⟩ := hk.shape
  exact check_any' A o.data o.keys o.seq da ka dc kc _ w hk hl (headC o)
end Go.Proofs.YtlgefkaafoidmaaGreatDoor
namespace Go.Proofs.YtlgefkaafoidmaaGreatDoor
open Go.RowKit Go.WideShapes

theorem eqL (a b : ByteArray) : (a.toList == b.toList) = decide (a = b) := by
  rw [Bool.eq_iff_iff, beq_iff_eq, decide_eq_true_eq]
  exact ⟨ba_ext, fun e => by rw [e]⟩
theorem e0 (s : ByteArray) : s.size = 0 ↔ s.toList = [] := by
  rw [Lib.toList_data, ← List.length_eq_zero_iff]
  exact Iff.rfl
theorem b0_at {s : ByteArray} (h : 0 < s.size) : s.data[0]? = some s[0] := Array.getElem?_eq_getElem (xs := s.data) h
theorem fromB_of {nm : ByteArray} {k : KyD} : fromB nm k = (!ltS k.name nm && !decide (nm.size = 0) && !decide (k.name.size = 0) && (k.name.data[0]? == nm.data[0]?)) := rfl
def ixN (p : KyD → Bool) (ks : List KyD) : Nat := (ks.takeWhile fun k => !p k).length
def ixR (p : KyD → Bool) (ks : List KyD) : Int := if ixN p ks < ks.length then (ixN p ks : Int) else -1
theorem tw_get {α : Type} (q : α → Bool) : ∀ (l : List α) (i : Nat) x, i < (l.takeWhile q).length → l[i]? = some x → q x = true
  | [], i, x, h, _ => by simp at h
  | y :: l, i, x, h, hx => by
    rw [List.takeWhile_cons] at h
    by_cases hy : q y = true
    · rw [if_pos hy] at h
      cases i with
      | zero => simp at hx; subst hx; exact hy
      | succ i => exact tw_get q l i x (by simpa using h) (by simpa using hx)
    · rw [if_neg hy] at h
      simp at h
theorem tw_stop {α : Type} (q : α → Bool) : ∀ (l : List α) x, l[(l.takeWhile q).length]? = some x → q x = false
  | [], x, h => by simp at h
  | y :: l, x, h => by
    rw [List.takeWhile_cons] at h
    by_cases hy : q y = true
    · rw [if_pos hy] at h
      exact tw_stop q l x (by simpa using h)
    · rw [if_neg hy] at h
      simp at h
      subst h
      simpa using hy
theorem tw_le {α : Type} (q : α → Bool) (l : List α) : (l.takeWhile q).length ≤ l.length := (List.takeWhile_sublist q).length_le
theorem ixN_hit {p : KyD → Bool} {ks : List KyD} {k : Nat} (h : k ≤ ixN p ks) (hlt : k < ks.length) (hx : p ks[k] = true) : ixN p ks = k := by
  rcases Nat.lt_or_ge k (ixN p ks) with h1 | h1
  · have := tw_get _ ks k ks[k] h1 (by simp [hlt])
    simp [hx] at this
  · omega
theorem ixR_hit {p : KyD → Bool} {ks : List KyD} {k : Nat} (h : k ≤ ixN p ks) (hlt : k < ks.length) (hx : p ks[k] = true) : ixR p ks = k := by
  unfold ixR
  rw [ixN_hit h hlt hx, if_pos hlt]
theorem ixN_miss {p : KyD → Bool} {ks : List KyD} {k : Nat} (h : k ≤ ixN p ks) (hlt : k < ks.length) (hx : p ks[k] = false) : k + 1 ≤ ixN p ks := by
  rcases Nat.lt_or_ge k (ixN p ks) with h1 | h1
  · exact h1
  · obtain rfl : k = ixN p ks := by omega
    have := tw_stop (fun k => !p k) ks _ (List.getElem?_eq_getElem hlt)
    have hx : p ks[ixN p ks] = false := hx
    change (!p ks[ixN p ks]) = false at this
    rw [hx] at this
    cases this
theorem ixR_none {p : KyD → Bool} {ks : List KyD} (h : ks.length ≤ ixN p ks) : ixR p ks = -1 := by
  unfold ixR
  rw [if_neg (by omega)]
theorem ix_ways (p : KyD → Bool) (ks : List KyD) : (ixR p ks = -1 ∧ ks.find? p = none) ∨ ∃ k, ∃ h : k < ks.length, ixR p ks = k ∧ ks.find? p = some ks[k] := by
  rcases Nat.lt_or_ge (ixN p ks) ks.length with h | h
  · right
    have h2 := tw_stop (fun k => !p k) ks _ (List.getElem?_eq_getElem h)
    refine ⟨ixN p ks, h, by unfold ixR; rw [if_pos h], ?_⟩
    rw [List.find?_eq_some_iff_getElem]
    refine ⟨by simpa using h2, _, h, rfl, fun j hj => ?_⟩
    exact tw_get (fun k => !p k) ks j _ hj (List.getElem?_eq_getElem (by omega))
  · left
    refine ⟨ixR_none h, List.find?_eq_none.2 fun x hx => ?_⟩
    obtain ⟨i, hi, rfl⟩ := List.getElem_of_mem hx
    have := tw_get (fun k => !p k) ks i _ (Nat.lt_of_lt_of_le hi h) (List.getElem?_eq_getElem hi)
    simpa using this
def IdxR (p : KyD → Bool) (ks : List KyD) (w : World) (e : Ending) (w' : World) : Prop := e = .returned (.int .i64 (ixR p ks)) ∧ Below w.heap.size w w'
def isB (nm : ByteArray) (k : KyD) : Bool := decide (k.name = nm)
end Go.Proofs.YtlgefkaafoidmaaGreatDoor
namespace Go.Proofs.YtlgefkaafoidmaaGreatDoor
open Go.RowKit Go.WideShapes

/-- a row of the call's own; what its data lead to lies in blocks from base on, apart from the row's own -/
structure EnR {α : Type} (E : Enc α) (t : TypeId) (base : Nat) (w : World) (v : Value) (l : List α) : Prop where
  mk ::
  ex : ∃ cs : List (List Value), cs.length = l.length ∧ (∀ (i : Nat) (x : α) (c : List Value), l[i]? = some x → cs[i]? = some c → E.rd (fun b => base ≤ b ∧ v.ownBlock ≠ some b) w c x) ∧ w.ownsRow base t E.size v l.length cs.flatten
section
variable {α : Type} {E : Enc α} {t : TypeId} {base : Nat} {w w' : World} {v v' : Value} {l : List α}
theorem EnR.nil (E : Enc α) (t : TypeId) (base : Nat) (w : World) : EnR E t base w (.slice none 0 0) [] := ⟨⟨[], rfl, fun i x c h => by simp at h, World.ownsRow_nil _ _ _ _⟩⟩
theorem owns_same {n size : Nat} {e : TypeId} {xs : List Value} (h : w.ownsRow base e size v n xs) (hs : Same (fun b => base ≤ b) w w') : w'.ownsRow base e size v n xs := by
  refine ⟨h.1, h.2.imp id ?_⟩
  rintro ⟨g, cap, cur, rfl, h1, h2, h3⟩
  exact ⟨g, cap, cur, rfl, h1, by rw [hs.block g h1 (Array.getElem?_eq_some_iff.1 h2).1]; exact h2, h3⟩
theorem EnR.same (h : EnR E t base w v l) (hs : Same (fun b => base ≤ b) w w') : EnR E t base w' v l := by
  obtain ⟨cs, h1, h2, h3⟩ := h.ex
  exact ⟨⟨cs, h1, fun i x c hi hc => E.mono (h2 i x c hi hc) (hs.weak fun b hb => hb.1), owns_same h3 hs⟩⟩
theorem EnR.same2 (h : EnR E t base w v l) (hs : Same (fun b => base ≤ b ∧ b < w.heap.size) w w') : EnR E t base w' v l := by
  obtain ⟨cs, h1, h2, h3⟩ := h.ex
  refine ⟨⟨cs, h1, fun i x c hi hc => ?_, ?_⟩⟩
  · exact E.weak (E.mono (E.weak (h2 i x c hi hc) (A' := fun b => (base ≤ b ∧ v.ownBlock ≠ some b) ∧ b < w.heap.size) fun b hl hb => ⟨hb, hl⟩) (hs.weak fun b hb => ⟨hb.1.1, hb.2⟩)) fun b _ hb => hb.1
  · refine ⟨h3.1, h3.2.imp id ?_⟩
    rintro ⟨g, cap, cur, rfl, h4, h5, h6⟩
    exact ⟨g, cap, cur, rfl, h4, by rw [hs.block g ⟨h4, (Array.getElem?_eq_some_iff.1 h5).1⟩ (Array.getElem?_eq_some_iff.1 h5).1]; exact h5, h6⟩
theorem EnR.ext (h : EnR E t base w v l) (hb : Below w.heap.size w w') : EnR E t base w' v l := h.same (Same.of_ext hb)
theorem EnR.shape (h : EnR E t base w v l) : ∃ a c, v = .slice a l.length c := by
  obtain ⟨cs, h1, h2, h3⟩ := h.ex
  exact owns_shape h3
theorem EnR.sle (h : EnR E t base w v l) : SlE E (fun b => base ≤ b) w v l := by
  obtain ⟨cs, h1, h2, h3⟩ := h.ex
  exact SlE.of_flat h1 (fun i x c hi hc => E.weak (h2 i x c hi hc) fun b _ hb => hb.1) (SlA.of_owns h3)
theorem EnR.lt (h : EnR E t base w v l) : ∀ g, v.ownBlock = some g → base ≤ g ∧ g < w.heap.size := by
  obtain ⟨cs, h1, h2, h3⟩ := h.ex
  exact fun g hg => h3.lt g hg
end
section
variable {P : Program} {ops : Array Oper} {rest : List Oper} {o : Oper} {a : Act} {Q : Exit → Act → World → Prop}
/-- 'append(out, x)': out of the call's own, x one datum that leads to the call's own memory -/
theorem wpList_pushR {α : Type} (W : World) (hgd : o.guard = none) (s x : Operand) (t : TypeId) (ho : o.op = .call { callee := .builtin .append, args := #[s, x], argTypes := #[t, t] })
    (E : Enc α) (base : Nat) (e : TypeId) (i : TypeInfo) (z : Value) (bytes : Nat) (ht : P.underlying t = some (.slice e)) (hi : P.info? e = some i) (hz : i.zero = some z)
    (hsize : i.size = E.size) (hby : i.bytes = bytes) (hzs : z.cells.size = E.size) (hsz : 0 < E.size) (hbb : bytes ≤ 1000)
    (v : Value) (l : List α) (hs : a.eval s = v) (hown : EnR E e base W v l) (c : List Value) (tt : TypeId) (y : α)
    (hx : a.eval x = .slice (some ⟨W.heap.size, 0, none⟩) 1 1) (hrd : E.rd (fun b => base ≤ b ∧ v.ownBlock ≠ some b) W c y)
    (hl : l.length ≤ 1000000) (hbase : base ≤ W.heap.size)
    (h : ∀ v' w', EnR E e base w' v' (l ++ [y]) → Below base W w' → wpList P ops Q rest (a.put o.dst v') w') : wpList P ops Q (o :: rest) a (W.alloc (.cells c.toArray tt)) := by
  obtain ⟨cs, h1, h2, h3⟩ := hown.ex
  have hal : Below W.heap.size W (W.alloc (.cells c.toArray tt)) := (Below.refl _ _).alloc (Nat.le_refl _) _
  refine wpList_append_own_at _ hgd s x t ho base e i z E.size bytes ht hi hz hsize hby hzs hsz v l.length cs.flatten hs (owns_ext h3 hal) ⟨W.heap.size, 0, none⟩ 1 1 c hx (by rw [Nat.one_mul]; exact E.len hrd) (cells_new W c tt) (E.one hrd) (by unfold maxLen; omega) ?_ (Nat.le_trans hbase hal.size) ?_
  · exact Nat.le_trans (Nat.mul_le_mul (show l.length + 1 ≤ 1000001 by omega) hbb) (by decide)
  · intro v' w' h4 h5 _ h6
    have hb : Below base W w' := ((Below.refl base W).alloc hbase _).grown h5 (by simp; omega) fun j hj => (h3.lt j hj).1
    have hsame : Same (fun b => base ≤ b ∧ v.ownBlock ≠ some b) W w' := by
      refine ⟨hb.size, fun b hb hl => ?_⟩
      rw [h5.block b (by simp; omega) fun e => hb.2 e.symm, Below.heap_alloc _ _ _ hl]
    have hmv : ∀ b, b < W.heap.size → (base ≤ b ∧ v.ownBlock ≠ some b) → (base ≤ b ∧ v'.ownBlock ≠ some b) := fun b hl hb => by
      refine ⟨hb.1, ?_⟩
      rcases h6 with e | e
      · rw [e]; exact hb.2
      · rw [e]
        simp only [World.size_alloc, ne_eq, Option.some.injEq]
        omega
    have key : ∀ c y, E.rd (fun b => base ≤ b ∧ v.ownBlock ≠ some b) W c y → E.rd (fun b => base ≤ b ∧ v'.ownBlock ≠ some b) w' c y := fun c y h =>
      E.weak (E.mono (E.weak h (A' := fun b => (base ≤ b ∧ v.ownBlock ≠ some b) ∧ b < W.heap.size) fun b hl hb => ⟨hb, hl⟩) (hsame.weak fun b hb => hb.1)) fun b _ hb => hmv b hb.2 hb.1
    refine h v' w' ⟨⟨cs ++ [c], by simp [h1], fun i y d hi hd => ?_, by simpa using h4⟩⟩ hb
    by_cases hlt : i < l.length
    · rw [List.getElem?_append_left hlt] at hi
      rw [List.getElem?_append_left (by omega)] at hd
      exact key _ _ (h2 i y d hi hd)
    · have hil := (List.getElem?_eq_some_iff.1 hi).1
      simp only [List.length_append, List.length_singleton] at hil
      have : i = l.length := by omega
      subst this
      rw [List.getElem?_append_right (by omega)] at hi hd
      simp [h1] at hi hd
      subst hi hd
      exact key _ _ hrd
end
end Go.Proofs.YtlgefkaafoidmaaGreatDoor
namespace Go.Proofs.YtlgefkaafoidmaaGreatDoor
open Go.RowKit Go.WideShapes

/-- a goal that the walk leaves alone: a step is then taken by hand -/
def Stop (p : Prop) : Prop := p
theorem stop_in {p : Prop} (h : Stop p) : p := h
/-- a row of the call's own that holds data -/
structure EnRow {α : Type} (E : Enc α) (t : TypeId) (A : Nat → Prop) (base : Nat) (w : World) (v : Value) (l : List α) : Prop where
  mk ::
  ex : ∃ cs : List (List Value), cs.length = l.length ∧ (∀ (i : Nat) (x : α) (c : List Value), l[i]? = some x → cs[i]? = some c → E.rd A w c x) ∧ w.ownsRow base t E.size v l.length cs.flatten
section
variable {α : Type} {E : Enc α} {t : TypeId} {A A' : Nat → Prop} {base : Nat} {w w' : World} {v v' : Value} {l : List α}
theorem EnRow.nil (E : Enc α) (t : TypeId) (A : Nat → Prop) (base : Nat) (w : World) : EnRow E t A base w (.slice none 0 0) [] := ⟨⟨[], rfl, fun i x c h => by simp at h, World.ownsRow_nil _ _ _ _⟩⟩
theorem EnRow.ext (h : EnRow E t A base w v l) (hb : Below w.heap.size w w') : EnRow E t A base w' v l := by
  obtain ⟨cs, h1, h2, h3⟩ := h.ex
  exact ⟨⟨cs, h1, fun i x c hi hc => E.mono (h2 i x c hi hc) (Same.of_ext hb), owns_ext h3 hb⟩⟩
theorem EnRow.shape (h : EnRow E t A base w v l) : ∃ a c, v = .slice a l.length c := by
  obtain ⟨cs, h1, h2, h3⟩ := h.ex
  exact owns_shape h3
theorem EnRow.sle (h : EnRow E t A base w v l) (hA : ∀ b, b < w.heap.size → A b → A' b) (hb : ∀ b, base ≤ b → A' b) : SlE E A' w v l := by
  obtain ⟨cs, h1, h2, h3⟩ := h.ex
  exact SlE.of_flat h1 (fun i x c hi hc => E.weak (h2 i x c hi hc) fun b hl hb => hA b hl hb) ((SlA.of_owns h3).weak hb)
theorem EnRow.push {x : α} {c : List Value} {cs : List (List Value)} (h1 : cs.length = l.length) (h2 : ∀ (i : Nat) (x : α) (c : List Value), l[i]? = some x → cs[i]? = some c → E.rd A w c x)
    (hs : Same A w w') (hx : E.rd A w c x) (ho : w'.ownsRow base t E.size v' (l.length + 1) (cs.flatten ++ c)) : EnRow E t A base w' v' (l ++ [x]) := by
  refine ⟨⟨cs ++ [c], by simp [h1], fun i y d hi hd => ?_, by simpa using ho⟩⟩
  by_cases hlt : i < l.length
  · rw [List.getElem?_append_left hlt] at hi
    rw [List.getElem?_append_left (by omega)] at hd
    exact E.mono (h2 i y d hi hd) hs
  · have hil := (List.getElem?_eq_some_iff.1 hi).1
    simp only [List.length_append, List.length_singleton] at hil
    have : i = l.length := by omega
    subst this
    rw [List.getElem?_append_right (by omega)] at hi hd
    simp [h1] at hi hd
    subst hi hd
    exact E.mono hx hs
end
section
variable {P : Program} {ops : Array Oper} {rest : List Oper} {o : Oper} {a : Act} {Q : Exit → Act → World → Prop}
/-- 'append(out, x)': out of the call's own, x one datum -/
theorem wpList_push {α : Type} (W : World) (hgd : o.guard = none) (s x : Operand) (t : TypeId) (ho : o.op = .call { callee := .builtin .append, args := #[s, x], argTypes := #[t, t] })
    (E : Enc α) (A : Nat → Prop) (base : Nat) (e : TypeId) (i : TypeInfo) (z : Value) (bytes : Nat) (ht : P.underlying t = some (.slice e)) (hi : P.info? e = some i) (hz : i.zero = some z)
    (hsize : i.size = E.size) (hby : i.bytes = bytes) (hzs : z.cells.size = E.size) (hsz : 0 < E.size) (hbb : bytes ≤ 1000)
    (v : Value) (l : List α) (hs : a.eval s = v) (hown : EnRow E e A base W v l) (c : List Value) (tt : TypeId) (y : α)
    (hx : a.eval x = .slice (some ⟨W.heap.size, 0, none⟩) 1 1) (hrd : E.rd A W c y)
    (hl : l.length ≤ 1000000) (hbase : base ≤ W.heap.size) (hA : ∀ b, A b → b < base)
    (h : ∀ v' w', EnRow E e A base w' v' (l ++ [y]) → Below base W w' → wpList P ops Q rest (a.put o.dst v') w') : wpList P ops Q (o :: rest) a (W.alloc (.cells c.toArray tt)) := by
  obtain ⟨cs, h1, h2, h3⟩ := hown.ex
  have hal : Below W.heap.size W (W.alloc (.cells c.toArray tt)) := (Below.refl _ _).alloc (Nat.le_refl _) _
  refine wpList_append_own _ hgd s x t ho base e i z E.size bytes ht hi hz hsize hby hzs hsz v l.length cs.flatten hs (owns_ext h3 hal) ⟨W.heap.size, 0, none⟩ 1 1 c hx (by rw [Nat.one_mul]; exact E.len hrd) (cells_new W c tt) (E.one hrd) (by unfold maxLen; omega) ?_ (Nat.le_trans hbase hal.size) ?_
  · exact Nat.le_trans (Nat.mul_le_mul (show l.length + 1 ≤ 1000001 by omega) hbb) (by decide)
  · intro v' w' h4 h5 _
    have hb : Below base W w' := ((Below.refl base W).alloc hbase _).grown h5 (by simp; omega) fun j hj => (h3.lt j hj).1
    exact h v' w' (EnRow.push h1 h2 (Same.of_below hb hA) hrd h4) hb
end
end Go.Proofs.YtlgefkaafoidmaaGreatDoor
namespace Go.Proofs.YtlgefkaafoidmaaGreatDoor
open Go.RowKit

def nmI (x : Int) : Bool := decide (x = 46) || (decide (97 ≤ x) && decide (x ≤ 122)) || (decide (48 ≤ x) && decide (x ≤ 57))
theorem signs_nmI (c : UInt8) : nameSigns.contains c = nmI c.toNat := by
  have h : ∀ n : Fin 256, nameSigns.contains (UInt8.ofNat n.1) = nmI (n.1 : Int) := by decide +kernel
  have := h ⟨c.toNat, c.toNat_lt⟩
  simpa using this
theorem dw_nil {α : Type} (p : α → Bool) : ∀ l : List α, l.dropWhile p = [] ↔ ∀ x ∈ l, p x = true
  | [] => by simp
  | a :: l => by
    rw [List.dropWhile_cons]
    cases h : p a with
    | true => simp [h, dw_nil p l]
    | false => simp [h]
theorem trimS_nil (l cs : List UInt8) : Lib.trimS l cs = [] ↔ ∀ x ∈ l, cs.contains x = true := by
  unfold Lib.trimS Lib.trimLeftS Lib.trimRightS
  rw [dw_nil]
  constructor
  · intro h
    have h0 : l.reverse.dropWhile (cs.contains ·) = [] := by
      cases he : l.reverse.dropWhile (cs.contains ·) with
      | nil => rfl
      | cons a t =>
        have h1 := h a (by rw [he]; simp)
        have h2 := tw_stop (cs.contains ·) l.reverse a (by
          have := List.takeWhile_append_dropWhile (p := (cs.contains ·)) (l := l.reverse)
          rw [he] at this
          conv => lhs; arg 1; rw [← this]
          simp)
        rw [h2] at h1
        cases h1
    rw [dw_nil] at h0
    exact fun x hx => h0 x (by simpa using hx)
  · intro h x hx
    have := (List.dropWhile_sublist (cs.contains ·) (l := l.reverse)).subset (List.mem_reverse.1 hx)
    exact h x (by simpa using this)
def nmTo (s : ByteArray) (k : Nat) : Bool := (s.data.toList.take k).all fun c => nmI c.toNat
theorem nmTo_succ (s : ByteArray) (k : Nat) (h : k < s.size) : nmTo s (k + 1) = (nmTo s k && nmI s[k].toNat) := by
  unfold nmTo
  have e : s.data.toList.take (k + 1) = s.data.toList.take k ++ [s[k]] := by
    rw [List.take_succ_eq_append_getElem (by simpa using h)]; rfl
  rw [e, List.all_append]
  simp
theorem nameB_to (s : ByteArray) : nameB s = (decide (1 ≤ s.size) && decide (s.size ≤ 12) && nmTo s s.size) := by
  unfold nameB
  congr 1
  rw [Bool.eq_iff_iff, decide_eq_true_eq, trimS_nil]
  unfold nmTo
  rw [List.take_of_length_le (by show s.data.toList.length ≤ s.data.size; simp), List.all_eq_true]
  constructor
  · intro h x hx
    rw [← signs_nmI]
    exact h x hx
  · intro h x hx
    rw [signs_nmI]
    exact h x hx
theorem nmTo_no {s : ByteArray} {k : Nat} (hk : k < s.size) (h : nmI s[k].toNat = false) : nameB s = false := by
  have h1 : nmTo s (k + 1) = false := by rw [nmTo_succ s k hk, h, Bool.and_false]
  have h2 : nmTo s s.size = false := by
    unfold nmTo at h1 ⊢
    rw [List.all_eq_false] at h1 ⊢
    obtain ⟨x, hx, h3⟩ := h1
    exact ⟨x, by rw [List.take_of_length_le (by show s.data.toList.length ≤ s.data.size; simp)]; exact List.mem_of_mem_take hx, h3⟩
  rw [nameB_to, h2, Bool.and_false]

/-! put, key by key -/
end Go.Proofs.YtlgefkaafoidmaaGreatDoor
