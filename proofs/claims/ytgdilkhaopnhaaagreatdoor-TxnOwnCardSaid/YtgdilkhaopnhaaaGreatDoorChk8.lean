/- The walk of object.Check, at any object. -/
import Derived.Test.YtgdilkhaopnhaaaGreatDoorMB
namespace Go.Proofs.YtgdilkhaopnhaaaGreatDoor
open Go.RowKit Go.WideShapes

/-- an object as a value -/
def ObV (A : Nat → Prop) (w : World) (v : Value) (o : ObD) : Prop := ∃ dv kv, v = .agg #[dv, kv, .int .i64 o.seq] ∧ RB A w dv o.data ∧ SlE Enc.key A w kv o.keys
theorem ObV.ext {A : Nat → Prop} {w w' : World} {v : Value} {o : ObD} (h : ObV A w v o) (hb : Below w.heap.size w w') : ObV A w' v o := by
  obtain ⟨dv, kv, rfl, hd, hk⟩ := h
  exact ⟨dv, kv, rfl, hd.ext hb, hk.ext hb⟩
theorem chkAt_eq {ks : List KyD} {k : Nat} (hlt : k < ks.length) : chkAt ks k = (keyB ks[k] && ordB ks k) := by simp [chkAt, hlt]
theorem ordB_succ {ks : List KyD} {k : Nat} (hlt : k + 1 < ks.length) : ordB ks (k + 1) = ltS (ks[k]'(by omega)).name ks[k + 1].name := by
  have h0 : ks[k]? = some (ks[k]'(by omega)) := List.getElem?_eq_getElem (by omega)
  have h1 : ks[k + 1]? = some ks[k + 1] := List.getElem?_eq_getElem hlt
  simp [ordB, h0, h1]
theorem head_ways (o : ObD) :
    (headB o = true ∧ (o.data.length : Int) ≤ 64 ∧ (o.keys.length : Int) ≤ 120 ∧ 0 ≤ o.seq ∧ o.seq ≤ 1099511627776) ∨
    (headB o = false ∧ ¬ (o.data.length : Int) ≤ 64) ∨
    (headB o = false ∧ (o.data.length : Int) ≤ 64 ∧ ¬ (o.keys.length : Int) ≤ 120) ∨
    (headB o = false ∧ (o.data.length : Int) ≤ 64 ∧ (o.keys.length : Int) ≤ 120 ∧ ¬ 0 ≤ o.seq) ∨
    (headB o = false ∧ (o.data.length : Int) ≤ 64 ∧ (o.keys.length : Int) ≤ 120 ∧ 0 ≤ o.seq ∧ ¬ o.seq ≤ 1099511627776) := by
  unfold headB
  by_cases h1 : (o.data.length : Int) ≤ 64
  · by_cases h2 : (o.keys.length : Int) ≤ 120
    · by_cases h3 : 0 ≤ o.seq
      · by_cases h4 : o.seq ≤ 1099511627776
        · exact .inl ⟨by simp [h1, h2, h3, h4], h1, h2, h3, h4⟩
        · exact .inr (.inr (.inr (.inr ⟨by simp [h4], h1, h2, h3, h4⟩)))
      · exact .inr (.inr (.inr (.inl ⟨by simp [h3], h1, h2, h3⟩)))
    · exact .inr (.inr (.inl ⟨by simp [h2], h1, h2⟩))
  · exact .inr (.inl ⟨by simp [h1], h1⟩)
def ChkR (c : Bool) (w : World) (e : Ending) (w' : World) : Prop := e = .returned (.int .i64 (if c then 0 else 1)) ∧ Below w.heap.size w w'
/-- the first part's outcome -/
inductive HeadC (d k : Nat) (s : Int) : Bool → Prop
  | yes : (d : Int) ≤ 64 → (k : Int) ≤ 120 → 0 ≤ s → s ≤ 1099511627776 → HeadC d k s true
  | no1 : ¬ (d : Int) ≤ 64 → HeadC d k s false
  | no2 : (d : Int) ≤ 64 → ¬ (k : Int) ≤ 120 → HeadC d k s false
  | no3 : (d : Int) ≤ 64 → (k : Int) ≤ 120 → ¬ 0 ≤ s → HeadC d k s false
  | no4 : (d : Int) ≤ 64 → (k : Int) ≤ 120 → 0 ≤ s → ¬ s ≤ 1099511627776 → HeadC d k s false
theorem headC (o : ObD) : HeadC o.data.length o.keys.length o.seq (headB o) := by
  rcases head_ways o with ⟨h, a, b, c, d⟩ | ⟨h, a⟩ | ⟨h, a, b⟩ | ⟨h, a, b, c⟩ | ⟨h, a, b, c, d⟩ <;> rw [h]
  · exact .yes a b c d
  · exact .no1 a
  · exact .no2 a b
  · exact .no3 a b c
  · exact .no4 a b c d
theorem chk_next {c B x : Bool} {ks : List KyD} {k : Nat} (h : (c && chkTo ks k) = B) (hx : (B && chkAt ks k) = x) : (c && chkTo ks (k + 1)) = x := by
  rw [← hx, ← h, chkTo, Bool.and_assoc]
set_option maxRecDepth 100000 in
set_option maxHeartbeats 16000000 in
theorem check_any' (A : Nat → Prop) (od : List UInt8) (ks : List KyD) (os : Int) (da ka : Option Addr) (dc kc : Nat) (c : Bool) (w : World) (hk : SlE Enc.key A w (.slice ka ks.length kc) ks) (hl : ks.length ≤ 100000) (hc : HeadC od.length ks.length os c) :
    Calls Tryz.prog 22 #[.agg #[.slice da od.length dc, .slice ka ks.length kc, .int .i64 os]] w (ChkR (c && chkTo ks ks.length) w) := by
  have HK := Lib.hid hk
  clear hk
  obtain ⟨c', hc'⟩ : ∃ c', c' = c := ⟨_, rfl⟩
  rw [← hc']
  have HCC := Lib.hid hc'
  clear hc'
  rcases hc with ⟨d1, d2, d3, d4⟩ | ⟨d1⟩ | ⟨d1, d2⟩ | ⟨d1, d2, d3⟩ | ⟨d1, d2, d3, d4⟩
  all_goals
    go_enter Tryz.func22, Tryz.ntmps22
    go_wp2
    obtain ⟨w0, hw0⟩ : ∃ w0, w0 = w.alloc (.cells #[.slice da od.length dc, .slice ka ks.length kc, .int .i64 os] 25) := ⟨_, rfl⟩
    rw [← hw0]
    have hw : Below w.heap.size w w0 := by rw [hw0]; ((repeat' (first | exact Below.refl _ _ | refine below_drewN ?_ _ | refine Below.drew ?_ | refine Below.alloc ?_ ?_ _ | refine Below.trans ?_ (Below.mono (by assumption) ?_))); all_goals (first | exact Nat.le_refl _ | exact Below.size (by assumption) | omega | (simp; done) | (simp; omega)))
    have B0 : w0.heap[w.heap.size]? = some (.cells #[.slice da od.length dc, .slice ka ks.length kc, .int .i64 os] 25 (0, 0)) := by rw [hw0]; exact heap_alloc_new _ _
    have HW := Lib.hid hw
    have HK0 := Lib.hid (HK.out.ext hw)
    have HB0 := Lib.hid B0
    clear hw hw0 B0 HK d1
    go_loopw [3, 29] (fun q3 q29 wr => ∃ k : Nat, k ≤ ks.length ∧ q29 = .int .i64 k ∧ (∃ B, (c' && chkTo ks k) = B ∧ q3 = .bool B) ∧ Below w0.heap.size w0 wr) (fun _ q29 _ => ks.length - (intOf q29).toNat)
    case atStart => exact ⟨0, Nat.zero_le _, rfl, ⟨_, by rw [HCC.out]; rfl, rfl⟩, Below.refl _ _⟩
    case round =>
      obtain ⟨k, hk, rfl, ⟨B, hB, rfl⟩, hbr⟩ := hrel
      have HB := Lib.hid hB
      have HBR := Lib.hid hbr
      have hsr := hbr.size
      have hw0 : w.heap.size < w0.heap.size := (Array.getElem?_eq_some_iff.1 HB0.out).1
      have hwl : w.heap.size < wr.heap.size := by omega
      obtain ⟨x1, f1⟩ := blk_cell (i := 1) ((hbr.block _ hw0).trans HB0.out)
      simp at x1
      clear hB hbr hw0
      by_cases hlt : k < ks.length
      · have HKr := Lib.hid (HK0.out.ext HBR.out)
        obtain ⟨b, off, v, rfl, hb, -, c3, c4, hv⟩ := Keys.at HKr.out hlt
        obtain ⟨va, vc, rfl⟩ := hv.shape
        clear hv
        have HCA : Hid (chkAt ks k = (keyB ks[k] && ordB ks k)) := chkAt_eq hlt
        have hord : Hid (∀ j, k = j + 1 → ∃ pn, ordB ks k = ltS pn (ks[k]).name ∧ wr.cell? ⟨b, off + j * 2, none⟩ = some (.string pn)) := by
          intro j hj
          subst hj
          obtain ⟨b', off', v', e', -, -, c3', -, -⟩ := Keys.at HKr.out (i := j) (by omega)
          simp only [Option.some.injEq, Addr.mk.injEq] at e'
          obtain ⟨rfl, rfl, -⟩ := e'
          exact ⟨_, ordB_succ hlt, c3'⟩
        generalize hky : ks[k] = ky at *
        clear hky
        go_upto_region 5 with fail
        obtain ⟨wk, hwk⟩ : ∃ wk, wk = wr.alloc (.cells #[.string ky.name, .slice va ky.value.length vc] 47) := ⟨_, rfl⟩
        rw [← hwk]
        have K := heap_alloc_new wr (.cells #[.string ky.name, .slice va ky.value.length vc] 47)
        rw [← hwk] at K
        have hbk : Below wr.heap.size wr wk := by rw [hwk]; exact (Below.refl _ _).alloc (Nat.le_refl _) _
        have HBK := Lib.hid (HBR.out.trans (hbk.mono hsr))
        have y0 : ∀ n : After wk, n.w.cell? ⟨wr.heap.size, 0, none⟩ = some (.string ky.name) := after_cell (blk_cell (i := 0) K).1
        have y1 : ∀ n : After wk, n.w.cell? ⟨wr.heap.size, 1, none⟩ = some (.slice va ky.value.length vc) := after_cell (blk_cell (i := 1) K).1
        have y2 : ∀ n : After wk, n.w.cell? ⟨w.heap.size, 1, none⟩ = some (.slice (some ⟨b, off, none⟩) ks.length kc) := after_cell (cellExt hbk x1)
        have hord2 : Hid (∀ j, k = j + 1 → ∃ pn, ordB ks k = ltS pn ky.name ∧ ∀ n : After wk, n.w.cell? ⟨b, off + j * 2, none⟩ = some (.string pn)) := fun j hj => by
          obtain ⟨pn, e1, e2⟩ := hord.out j hj
          exact ⟨pn, e1, after_cell (cellExt hbk e2)⟩
        clear hwk K hbk hord x1 c3 c4
        cases B with
        | false =>
          (refine wp_region_after (by kernel_rfl) (by kernel_rfl) ?_
           repeat (first | go_big_quiet_skip | (go_big_quiet_want; go_big_quiet_op; (first | go_big_quiet_on | (apply Exists.intro; refine ⟨fun _ => ?_, ?_⟩; (focus (fail)); go_big_quiet_on))))
           refine wpQuiet_nil ?_
           intro _ hw'
           obtain ⟨nq, hw''⟩ := hw'
           subst hw''
           have hq := nq.h)
          have HQ := Lib.hid hq
          clear hq
          go_wp2
          go_roundw
          case rel => exact ⟨k + 1, by omega, by go_num, ⟨false, chk_next HB.out (rfl), rfl⟩, HBK.out.trans (HQ.out.mono HBK.out.size)⟩
          case measure => simp [intOf]; omega
        | true =>
          by_cases hn : nameB ky.name = true
          · have HR : Hid (∀ W, Calls Tryz.prog 46 #[.string ky.name] W fun e w' => e = .returned (.bool true) ∧ Below W.heap.size W w') := fun W => by rw [← hn]; exact oright_any _ W
            by_cases hv : (ky.value.length : Int) ≤ 2048
            · have HKB : Hid (keyB ky = true) := by show keyB ky = true; simp only [keyB, hn, Bool.true_and, decide_eq_true_eq]; omega
              clear hn
              rcases Nat.eq_zero_or_pos k with h0 | hp
              · have HO : Hid (ordB ks k = true) := by show ordB ks k = true; rw [h0]; rfl
                have hk0 : ((k : Int) == 0) = true := by simp; omega
                have hk1 : decide (k = 0) = true := by simp; omega
                have hk2 : (k == 0) = true := by simp; omega
                clear h0
                (refine wp_region_after (by kernel_rfl) (by kernel_rfl) ?_
                 repeat (first | go_big_quiet_skip | (go_big_quiet_want; go_big_quiet_op; (first | go_big_quiet_on | (apply Exists.intro; refine ⟨fun _ => ?_, ?_⟩; (focus (go_at_call 46; exact calls_after (HR.out _))); go_big_quiet_on))))
                 refine wpQuiet_nil ?_
                 intro _ hw'
                 obtain ⟨nq, hw''⟩ := hw'
                 subst hw''
                 have hq := nq.h)
                have HQ := Lib.hid hq
                clear hq
                go_wp2
                go_roundw
                case rel => exact ⟨k + 1, by omega, by go_num, ⟨true, chk_next HB.out (by rw [HCA.out, HKB.out, HO.out]; rfl), rfl⟩, HBK.out.trans (HQ.out.mono HBK.out.size)⟩
                case measure => simp [intOf]; omega
              · obtain ⟨j, hj⟩ : ∃ j, k = j + 1 := ⟨k - 1, by omega⟩
                obtain ⟨pn, e1, z0⟩ := hord2.out j hj
                have hk0 : ((k : Int) == 0) = false := by simp; omega
                have hk1 : decide (k = 0) = false := by simp; omega
                have hk2 : (k == 0) = false := by simp; omega
                have hw1 : IntKind.i64.wrap ((k : Int) - 1) = (j : Int) := by rw [IntKind.wrap_i64]; omega
                have hjl : (j : Int) < ks.length := by omega
                cases hlt2 : Op.bytesLess pn.toList ky.name.toList with
                | true =>
                  have HO : Hid (ordB ks k = true) := e1.trans hlt2
                  clear e1 hj hp
                  (refine wp_region_after (by kernel_rfl) (by kernel_rfl) ?_
                   repeat (first | go_big_quiet_skip | (go_big_quiet_want; go_big_quiet_op; (first | go_big_quiet_on | (apply Exists.intro; refine ⟨fun _ => ?_, ?_⟩; (focus (go_at_call 46; exact calls_after (HR.out _))); go_big_quiet_on))))
                   refine wpQuiet_nil ?_
                   intro _ hw'
                   obtain ⟨nq, hw''⟩ := hw'
                   subst hw''
                   have hq := nq.h)
                  have HQ := Lib.hid hq
                  clear hq
                  go_wp2
                  go_roundw
                  case rel => exact ⟨k + 1, by omega, by go_num, ⟨true, chk_next HB.out (by rw [HCA.out, HKB.out, HO.out]; rfl), rfl⟩, HBK.out.trans (HQ.out.mono HBK.out.size)⟩
                  case measure => simp [intOf]; omega
                | false =>
                  have HO : Hid (ordB ks k = false) := e1.trans hlt2
                  clear e1 hj hp
                  (refine wp_region_after (by kernel_rfl) (by kernel_rfl) ?_
                   repeat (first | go_big_quiet_skip | (go_big_quiet_want; go_big_quiet_op; (first | go_big_quiet_on | (apply Exists.intro; refine ⟨fun _ => ?_, ?_⟩; (focus (go_at_call 46; exact calls_after (HR.out _))); go_big_quiet_on))))
                   refine wpQuiet_nil ?_
                   intro _ hw'
                   obtain ⟨nq, hw''⟩ := hw'
                   subst hw''
                   have hq := nq.h)
                  have HQ := Lib.hid hq
                  clear hq
                  go_wp2
                  go_roundw
                  case rel => exact ⟨k + 1, by omega, by go_num, ⟨false, chk_next HB.out (by rw [HCA.out, HKB.out, HO.out]; rfl), rfl⟩, HBK.out.trans (HQ.out.mono HBK.out.size)⟩
                  case measure => simp [intOf]; omega
            · have HKB : Hid (keyB ky = false) := by show keyB ky = false; simp only [keyB, hn, Bool.true_and, decide_eq_false_iff_not]; omega
              clear hn
              (refine wp_region_after (by kernel_rfl) (by kernel_rfl) ?_
               repeat (first | go_big_quiet_skip | (go_big_quiet_want; go_big_quiet_op; (first | go_big_quiet_on | (apply Exists.intro; refine ⟨fun _ => ?_, ?_⟩; (focus (go_at_call 46; exact calls_after (HR.out _))); go_big_quiet_on))))
               refine wpQuiet_nil ?_
               intro _ hw'
               obtain ⟨nq, hw''⟩ := hw'
               subst hw''
               have hq := nq.h)
              have HQ := Lib.hid hq
              clear hq
              go_wp2
              go_roundw
              case rel => exact ⟨k + 1, by omega, by go_num, ⟨false, chk_next HB.out (by rw [HCA.out, HKB.out]; rfl), rfl⟩, HBK.out.trans (HQ.out.mono HBK.out.size)⟩
              case measure => simp [intOf]; omega
          · have hn' : nameB ky.name = false := by simpa using hn
            have HR : Hid (∀ W, Calls Tryz.prog 46 #[.string ky.name] W fun e w' => e = .returned (.bool false) ∧ Below W.heap.size W w') := fun W => by rw [← hn']; exact oright_any _ W
            have HKB : Hid (keyB ky = false) := by show keyB ky = false; simp [keyB, hn']
            clear hn hn'
            (refine wp_region_after (by kernel_rfl) (by kernel_rfl) ?_
             repeat (first | go_big_quiet_skip | (go_big_quiet_want; go_big_quiet_op; (first | go_big_quiet_on | (apply Exists.intro; refine ⟨fun _ => ?_, ?_⟩; (focus (go_at_call 46; exact calls_after (HR.out _))); go_big_quiet_on))))
             refine wpQuiet_nil ?_
             intro _ hw'
             obtain ⟨nq, hw''⟩ := hw'
             subst hw''
             have hq := nq.h)
            have HQ := Lib.hid hq
            clear hq
            go_wp2
            go_roundw
            case rel => exact ⟨k + 1, by omega, by go_num, ⟨false, chk_next HB.out (by rw [HCA.out, HKB.out]; rfl), rfl⟩, HBK.out.trans (HQ.out.mono HBK.out.size)⟩
            case measure => simp [intOf]; omega
      · obtain rfl : k = ks.length := by omega
        cases B with
        | false =>
          go_wp2
          go_ret
          exact ⟨by rw [HB.out]; rfl, HW.out.trans (HBR.out.mono HW.out.size)⟩
        | true =>
          go_wp2
          go_ret
          exact ⟨by rw [HB.out]; rfl, HW.out.trans (HBR.out.mono HW.out.size)⟩
theorem check_any (A : Nat → Prop) (v : Value) (o : ObD) (w : World) (hv : ObV A w v o) (hl : o.keys.length ≤ 100000) :
    Calls Tryz.prog 22 #[v] w (ChkR (mayB o) w) := by
  obtain ⟨dv, kv, rfl, hd, hk⟩ := hv
  obtain ⟨da, dc, rfl⟩ := hd.shape
  obtain ⟨ka, kc, rfl⟩ := hk.shape
  exact check_any' A o.data o.keys o.seq da ka dc kc _ w hk hl (headC o)
end Go.Proofs.YtgdilkhaopnhaaaGreatDoor
