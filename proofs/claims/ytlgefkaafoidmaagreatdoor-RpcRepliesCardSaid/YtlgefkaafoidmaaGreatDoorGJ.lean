/- The walks of txn.right and txn.Check. The walk of rpc.mayRequest at any request. -/
import Derived.Test.YtlgefkaafoidmaaGreatDoorGI
import Derived.Test.YtlgefkaafoidmaaGreatDoorGH
namespace Go.Proofs.YtlgefkaafoidmaaGreatDoor
open Go.RowKit Go.WideShapes

def opP (o : OpD) : Prop := 1 ≤ o.kind ∧ o.kind ≤ 14 ∧ 0 ≤ o.off ∧ o.off ≤ 1099511627776 ∧ 0 ≤ o.n ∧ o.n ≤ 1099511627776 ∧ (o.name.size : Int) ≤ 12 ∧ (o.data.length : Int) ≤ 2048
instance (o : OpD) : Decidable (opP o) := by unfold opP; infer_instance
def opB (o : OpD) : Bool := decide (opP o)
set_option maxRecDepth 100000 in
set_option maxHeartbeats 4000000 in
theorem tright_any (o : OpD) (a : Option Addr) (c : Nat) (w : World) : Calls Tryz.prog 85 #[.agg #[.int .i64 o.kind, .int .i64 o.off, .int .i64 o.n, .string o.name, .slice a o.data.length c]] w fun e w' => e = .returned (.bool (opB o)) ∧ Below w.heap.size w w' := by
  obtain ⟨k, f, n, nm, d⟩ := o
  simp only
  by_cases h0 : (1 : Int) ≤ k
  · by_cases h1 : k ≤ (14 : Int)
    · by_cases h2 : (0 : Int) ≤ f
      · by_cases h3 : f ≤ (1099511627776 : Int)
        · by_cases h4 : (0 : Int) ≤ n
          · by_cases h5 : n ≤ (1099511627776 : Int)
            · by_cases h6 : (nm.size : Int) ≤ 12
              · by_cases h7 : (d.length : Int) ≤ 2048
                · have HV : Hid (opB ⟨k, f, n, nm, d⟩ = true) := by show opB _ = _; simp only [opB, opP]; exact decide_eq_true (by omega)
                  go_enter Tryz.func85, Tryz.ntmps85
                  go_wp2
                  go_ret
                  exact ⟨by rw [HV.out]; rfl, by ((repeat' (first | exact Below.refl _ _ | refine below_drewN ?_ _ | refine Below.drew ?_ | refine Below.alloc ?_ ?_ _ | refine Below.trans ?_ (Below.mono (by assumption) ?_))); all_goals (first | exact Nat.le_refl _ | exact Below.size (by assumption) | omega | (simp; done) | (simp; omega)))⟩
                · have HV : Hid (opB ⟨k, f, n, nm, d⟩ = false) := by show opB _ = _; simp only [opB, opP]; exact decide_eq_false (by omega)
                  go_enter Tryz.func85, Tryz.ntmps85
                  go_wp2
                  go_ret
                  exact ⟨by rw [HV.out]; rfl, by ((repeat' (first | exact Below.refl _ _ | refine below_drewN ?_ _ | refine Below.drew ?_ | refine Below.alloc ?_ ?_ _ | refine Below.trans ?_ (Below.mono (by assumption) ?_))); all_goals (first | exact Nat.le_refl _ | exact Below.size (by assumption) | omega | (simp; done) | (simp; omega)))⟩
              · have HV : Hid (opB ⟨k, f, n, nm, d⟩ = false) := by show opB _ = _; simp only [opB, opP]; exact decide_eq_false (by omega)
                go_enter Tryz.func85, Tryz.ntmps85
                go_wp2
                go_ret
                exact ⟨by rw [HV.out]; rfl, by ((repeat' (first | exact Below.refl _ _ | refine below_drewN ?_ _ | refine Below.drew ?_ | refine Below.alloc ?_ ?_ _ | refine Below.trans ?_ (Below.mono (by assumption) ?_))); all_goals (first | exact Nat.le_refl _ | exact Below.size (by assumption) | omega | (simp; done) | (simp; omega)))⟩
            · have HV : Hid (opB ⟨k, f, n, nm, d⟩ = false) := by show opB _ = _; simp only [opB, opP]; exact decide_eq_false (by omega)
              go_enter Tryz.func85, Tryz.ntmps85
              go_wp2
              go_ret
              exact ⟨by rw [HV.out]; rfl, by ((repeat' (first | exact Below.refl _ _ | refine below_drewN ?_ _ | refine Below.drew ?_ | refine Below.alloc ?_ ?_ _ | refine Below.trans ?_ (Below.mono (by assumption) ?_))); all_goals (first | exact Nat.le_refl _ | exact Below.size (by assumption) | omega | (simp; done) | (simp; omega)))⟩
          · have HV : Hid (opB ⟨k, f, n, nm, d⟩ = false) := by show opB _ = _; simp only [opB, opP]; exact decide_eq_false (by omega)
            go_enter Tryz.func85, Tryz.ntmps85
            go_wp2
            go_ret
            exact ⟨by rw [HV.out]; rfl, by ((repeat' (first | exact Below.refl _ _ | refine below_drewN ?_ _ | refine Below.drew ?_ | refine Below.alloc ?_ ?_ _ | refine Below.trans ?_ (Below.mono (by assumption) ?_))); all_goals (first | exact Nat.le_refl _ | exact Below.size (by assumption) | omega | (simp; done) | (simp; omega)))⟩
        · have HV : Hid (opB ⟨k, f, n, nm, d⟩ = false) := by show opB _ = _; simp only [opB, opP]; exact decide_eq_false (by omega)
          go_enter Tryz.func85, Tryz.ntmps85
          go_wp2
          go_ret
          exact ⟨by rw [HV.out]; rfl, by ((repeat' (first | exact Below.refl _ _ | refine below_drewN ?_ _ | refine Below.drew ?_ | refine Below.alloc ?_ ?_ _ | refine Below.trans ?_ (Below.mono (by assumption) ?_))); all_goals (first | exact Nat.le_refl _ | exact Below.size (by assumption) | omega | (simp; done) | (simp; omega)))⟩
      · have HV : Hid (opB ⟨k, f, n, nm, d⟩ = false) := by show opB _ = _; simp only [opB, opP]; exact decide_eq_false (by omega)
        go_enter Tryz.func85, Tryz.ntmps85
        go_wp2
        go_ret
        exact ⟨by rw [HV.out]; rfl, by ((repeat' (first | exact Below.refl _ _ | refine below_drewN ?_ _ | refine Below.drew ?_ | refine Below.alloc ?_ ?_ _ | refine Below.trans ?_ (Below.mono (by assumption) ?_))); all_goals (first | exact Nat.le_refl _ | exact Below.size (by assumption) | omega | (simp; done) | (simp; omega)))⟩
    · have HV : Hid (opB ⟨k, f, n, nm, d⟩ = false) := by show opB _ = _; simp only [opB, opP]; exact decide_eq_false (by omega)
      go_enter Tryz.func85, Tryz.ntmps85
      go_wp2
      go_ret
      exact ⟨by rw [HV.out]; rfl, by ((repeat' (first | exact Below.refl _ _ | refine below_drewN ?_ _ | refine Below.drew ?_ | refine Below.alloc ?_ ?_ _ | refine Below.trans ?_ (Below.mono (by assumption) ?_))); all_goals (first | exact Nat.le_refl _ | exact Below.size (by assumption) | omega | (simp; done) | (simp; omega)))⟩
  · have HV : Hid (opB ⟨k, f, n, nm, d⟩ = false) := by show opB _ = _; simp only [opB, opP]; exact decide_eq_false (by omega)
    go_enter Tryz.func85, Tryz.ntmps85
    go_wp2
    go_ret
    exact ⟨by rw [HV.out]; rfl, by ((repeat' (first | exact Below.refl _ _ | refine below_drewN ?_ _ | refine Below.drew ?_ | refine Below.alloc ?_ ?_ _ | refine Below.trans ?_ (Below.mono (by assumption) ?_))); all_goals (first | exact Nat.le_refl _ | exact Below.size (by assumption) | omega | (simp; done) | (simp; omega)))⟩
/-- what Check tells of a transaction -/
def txE (t : TxD) : Int := if 12 < t.ops.length then 2 else if nameB t.obj && t.ops.all opB then 0 else 1
theorem all_succ (ops : List OpD) (k : Nat) (hk : k < ops.length) : (ops.take (k + 1)).all opB = ((ops.take k).all opB && opB ops[k]) := by
  rw [List.take_succ_eq_append_getElem hk, List.all_append]
  simp
set_option maxRecDepth 100000 in
set_option maxHeartbeats 4000000 in
theorem tcheck_any (A : Nat → Prop) (t : TxD) (va : Value) (w : World) (h : SlE Enc.op A w va t.ops) : Calls Tryz.prog 61 #[.agg #[.string t.obj, va]] w fun e w' => e = .returned (.int .i64 (txE t)) ∧ Below w.heap.size w w' := by
  obtain ⟨a, c, rfl⟩ := h.shape
  obtain ⟨ob, ops⟩ := t
  simp only at *
  have HS := Lib.hid h
  clear h
  by_cases hl : 12 < ops.length
  · have hl' : (12 : Int) < ops.length := by omega
    have HV : Hid (txE ⟨ob, ops⟩ = 2) := if_pos hl
    go_enter Tryz.func61, Tryz.ntmps61
    go_wp2
    go_ret
    exact ⟨by rw [HV.out]; rfl, by ((repeat' (first | exact Below.refl _ _ | refine below_drewN ?_ _ | refine Below.drew ?_ | refine Below.alloc ?_ ?_ _ | refine Below.trans ?_ (Below.mono (by assumption) ?_))); all_goals (first | exact Nat.le_refl _ | exact Below.size (by assumption) | omega | (simp; done) | (simp; omega)))⟩
  · have hl' : ¬ (12 : Int) < ops.length := by omega
    go_enter Tryz.func61, Tryz.ntmps61
    go_wp2_with fail
    refine (named_any ob _).mono ?_
    rintro e w1 ⟨rfl, hb1⟩
    have B1 := Lib.hid ((hb1.block w.heap.size (by simp)).trans (heap_alloc_new w _))
    have HW : Hid (Below w.heap.size w w1) := ((Below.refl _ w).alloc (Nat.le_refl _) _).trans (hb1.mono (by simp))
    have HS1 := Lib.hid (HS.out.ext HW.out)
    obtain ⟨x1, -⟩ := blk_cell (i := 1) B1.out
    simp at x1
    have lx := (Array.getElem?_eq_some_iff.1 B1.out).1
    have HB0 : Hid (nameB ob = (nameB ob && (ops.take 0).all opB)) := by show _ = _; simp
    have HV : Hid (txE ⟨ob, ops⟩ = if (nameB ob && (ops.take ops.length).all opB) then 0 else 1) := by show _ = _; rw [List.take_length]; exact if_neg hl
    clear hb1 HS
    generalize nameB ob = NB at *
    go_wp2
    go_loopw [3, 16] (fun q3 q16 wr => ∃ (k : Nat) (bb : Bool), k ≤ ops.length ∧ q16 = .int .i64 k ∧ q3 = .bool bb ∧ Hid (bb = (NB && (ops.take k).all opB)) ∧ Below w1.heap.size w1 wr) (fun _ q16 _ => ops.length - (intOf q16).toNat)
    case atStart => exact ⟨0, _, Nat.zero_le _, rfl, rfl, HB0, Below.refl _ _⟩
    case round =>
      obtain ⟨k, bb, hk, rfl, rfl, HBB, hbr⟩ := hrel
      have HBR := Lib.hid hbr
      have hsr := hbr.size
      clear hbr HB0
      by_cases hlt : k < ops.length
      · have HAS := Lib.hid (all_succ ops k hlt)
        obtain ⟨b, off, v, rfl, hb, -, c0, c1, c2, c3, c4, hv⟩ := Ops.at (HS1.out.ext HBR.out) hlt
        obtain ⟨va, vc, rfl⟩ := hv.shape
        clear hv
        generalize ops[k] = o at *
        cases bb with
        | false =>
          have HN : Hid (false = (NB && (ops.take (k + 1)).all opB)) := by
            show _ = _
            rw [HAS.out, ← Bool.and_assoc, ← HBB.out]
            rfl
          clear HAS HBB
          go_wp2
          go_roundw
          case rel => exact ⟨k + 1, _, by omega, by go_num, rfl, HN, HBR.out.trans (Below.mono (by ((repeat' (first | exact Below.refl _ _ | refine below_drewN ?_ _ | refine Below.drew ?_ | refine Below.alloc ?_ ?_ _ | refine Below.trans ?_ (Below.mono (by assumption) ?_))); all_goals (first | exact Nat.le_refl _ | exact Below.size (by assumption) | omega | (simp; done) | (simp; omega))) : Below wr.heap.size wr _) hsr)⟩
          case measure => simp [intOf]; omega
        | true =>
          have HN : Hid (opB o = (NB && (ops.take (k + 1)).all opB)) := by
            show _ = _
            rw [HAS.out, ← Bool.and_assoc, ← HBB.out, Bool.true_and]
          clear HAS HBB
          obtain ⟨k1, f1, n1, nm1, d1⟩ := o
          simp only at c0 c1 c2 c3 c4
          go_wp2_with fail
          refine (tright_any ⟨k1, f1, n1, nm1, d1⟩ va vc _).mono ?_
          rintro e w5 ⟨rfl, hb5⟩
          generalize opB ⟨k1, f1, n1, nm1, d1⟩ = OB at *
          have HB5 : Hid (Below w1.heap.size w1 w5) := HBR.out.trans (((Below.refl _ wr).alloc (Nat.le_refl _) _).trans (hb5.mono (by simp)) |>.mono hsr)
          clear hb5
          go_wp2
          go_roundw
          case rel => exact ⟨k + 1, _, by omega, by go_num, rfl, HN, HB5.out⟩
          case measure => simp [intOf]; omega
      · obtain rfl : k = ops.length := by omega
        cases bb with
        | false =>
          go_wp2
          go_ret
          exact ⟨by rw [HV.out, ← HBB.out]; rfl, HW.out.trans (HBR.out.mono HW.out.size)⟩
        | true =>
          go_wp2
          go_ret
          exact ⟨by rw [HV.out, ← HBB.out]; rfl, HW.out.trans (HBR.out.mono HW.out.size)⟩
end Go.Proofs.YtlgefkaafoidmaaGreatDoor
namespace Go.Proofs.YtlgefkaafoidmaaGreatDoor
open Go.RowKit Go.WideShapes

theorem within_no (n lo hi : Int) (h : ¬ (lo ≤ n ∧ n ≤ hi)) (w : World) : Calls Tryz.prog 54 #[.int .i64 n, .int .i64 lo, .int .i64 hi] w fun e w' => e = .returned (.bool false) ∧ w = w' :=
  (within_any n lo hi w).mono fun e w' ⟨he, hw⟩ => ⟨by rw [he, decide_eq_false h], hw⟩
def idP (c l s : Int) : Prop := (0 ≤ c ∧ c ≤ 7) ∧ (0 ≤ l ∧ l ≤ 4294967295) ∧ (0 ≤ s ∧ s ≤ 1099511627776)
set_option maxRecDepth 100000 in
theorem ident_no (c l s : Int) (h : ¬ idP c l s) (w : World) : Calls Tryz.prog 62 #[.int .i64 c, .int .i64 l, .int .i64 s] w fun e w' => e = .returned (.bool false) ∧ w = w' := by
  by_cases hc : 0 ≤ c ∧ c ≤ 7
  · by_cases hl : 0 ≤ l ∧ l ≤ 4294967295
    · have hs : ¬ (0 ≤ s ∧ s ≤ 1099511627776) := fun hs => h ⟨hc, hl, hs⟩
      clear h
      go_enter Tryz.func62, Tryz.ntmps62
      go_wp2_with fail
      refine (within_yes _ _ _ hc _).mono ?_
      rintro e w1 ⟨rfl, rfl⟩
      go_wp2_with fail
      refine (within_yes _ _ _ hl _).mono ?_
      rintro e w1 ⟨rfl, rfl⟩
      go_wp2_with fail
      refine (within_no _ _ _ hs _).mono ?_
      rintro e w1 ⟨rfl, rfl⟩
      go_wp2
      go_ret
      exact ⟨rfl, rfl⟩
    · clear h
      go_enter Tryz.func62, Tryz.ntmps62
      go_wp2_with fail
      refine (within_yes _ _ _ hc _).mono ?_
      rintro e w1 ⟨rfl, rfl⟩
      go_wp2_with fail
      refine (within_no _ _ _ hl _).mono ?_
      rintro e w1 ⟨rfl, rfl⟩
      go_wp2
      go_ret
      exact ⟨rfl, rfl⟩
  · clear h
    go_enter Tryz.func62, Tryz.ntmps62
    go_wp2_with fail
    refine (within_no _ _ _ hc _).mono ?_
    rintro e w1 ⟨rfl, rfl⟩
    go_wp2
    go_ret
    exact ⟨rfl, rfl⟩
/-- what may be of a request's numbers -/
structure MayN (q : RqD) : Prop where
  id : idP q.client q.life q.seq
  k : 1 ≤ q.kind ∧ q.kind ≤ 11
  i : 0 ≤ q.image ∧ q.image ≤ 3
  w : 0 ≤ q.who ∧ q.who ≤ 7
  n : 0 ≤ q.n ∧ q.n ≤ 1099511627776
/-- what a request that may be is known by -/
def MayR (q : RqD) (w : World) (e : Ending) (w' : World) : Prop := ∃ b, e = .returned (.bool b) ∧ (b = true → MayN q ∧ (q.kind = 1 → txE q.txn = 0)) ∧ Below w.heap.size w w'
set_option maxRecDepth 100000 in
set_option maxHeartbeats 4000000 in
theorem mayq_any (A : Nat → Prop) (q : RqD) (ov : Value) (w : World) (h : SlE Enc.op A w ov q.txn.ops) : Calls Tryz.prog 30 #[rqV q ov] w (MayR q w) := by
  obtain ⟨oa, oc, rfl⟩ := h.shape
  obtain ⟨qc, ql, qs, qk, qi, qw, qn, ⟨qo, qops⟩⟩ := q
  simp only at *
  have HS := Lib.hid h
  clear h
  simp only [rqV]
  by_cases hid : idP qc ql qs
  · by_cases hk : 1 ≤ qk ∧ qk ≤ 11
    · by_cases hi : 0 ≤ qi ∧ qi ≤ 3
      · by_cases hw : 0 ≤ qw ∧ qw ≤ 7
        · by_cases hn : 0 ≤ qn ∧ qn ≤ 1099511627776
          · have HNP : Hid (MayN ⟨qc, ql, qs, qk, qi, qw, qn, ⟨qo, qops⟩⟩) := ⟨hid, hk, hi, hw, hn⟩
            by_cases k1 : qk = 1
            · subst k1
              go_enter Tryz.func30, Tryz.ntmps30
              go_wp2_with fail
              refine (ident_yes _ _ _ hid.1 hid.2.1 hid.2.2 _).mono ?_
              rintro e w1 ⟨rfl, rfl⟩
              go_wp2_with fail
              refine (within_yes _ _ _ hk _).mono ?_
              rintro e w1 ⟨rfl, rfl⟩
              go_wp2_with fail
              refine (within_yes _ _ _ hi _).mono ?_
              rintro e w1 ⟨rfl, rfl⟩
              go_wp2_with fail
              refine (within_yes _ _ _ hw _).mono ?_
              rintro e w1 ⟨rfl, rfl⟩
              go_wp2_with fail
              refine (within_yes _ _ _ hn _).mono ?_
              rintro e w1 ⟨rfl, rfl⟩
              clear hid hk hi hw hn
              go_wp2_with fail
              refine (tcheck_any A ⟨qo, qops⟩ _ _ (HS.out.ext ((Below.refl _ _).alloc (Nat.le_refl _) _))).mono ?_
              rintro e w2 ⟨rfl, hb2⟩
              have HB := Lib.hid (((Below.refl _ w).alloc (Nat.le_refl _) _).trans (hb2.mono (by simp)))
              clear hb2
              by_cases ht : txE ⟨qo, qops⟩ = 0
              · have HT := Lib.hid ht
                rw [ht]
                clear ht
                go_wp2
                go_ret
                exact ⟨true, rfl, fun _ => ⟨HNP.out, fun _ => HT.out⟩, HB.out⟩
              · have ht' : (txE ⟨qo, qops⟩ == 0) = false := by simpa using ht
                clear ht
                generalize txE ⟨qo, qops⟩ = E at *
                go_wp2
                go_ret
                exact ⟨false, rfl, (fun h => by cases h), HB.out⟩
            · have HK : Hid (∀ b : Bool, b = true → MayN ⟨qc, ql, qs, qk, qi, qw, qn, ⟨qo, qops⟩⟩ ∧ (qk = 1 → txE ⟨qo, qops⟩ = 0)) := fun _ _ => ⟨HNP.out, fun h => absurd h k1⟩
              have e1 : (qk == 1) = false := by simpa using k1
              clear k1
              by_cases k2 : qk = 2
              · subst k2
                go_enter Tryz.func30, Tryz.ntmps30
                go_wp2_with fail
                refine (ident_yes _ _ _ hid.1 hid.2.1 hid.2.2 _).mono ?_
                rintro e w1 ⟨rfl, rfl⟩
                go_wp2_with fail
                refine (within_yes _ _ _ hk _).mono ?_
                rintro e w1 ⟨rfl, rfl⟩
                go_wp2_with fail
                refine (within_yes _ _ _ hi _).mono ?_
                rintro e w1 ⟨rfl, rfl⟩
                go_wp2_with fail
                refine (within_yes _ _ _ hw _).mono ?_
                rintro e w1 ⟨rfl, rfl⟩
                go_wp2_with fail
                refine (within_yes _ _ _ hn _).mono ?_
                rintro e w1 ⟨rfl, rfl⟩
                clear hid hk hi hw hn
                cases qops with
                | cons o l =>
                  go_wp2
                  go_ret
                  exact ⟨false, rfl, (fun h => by cases h), by ((repeat' (first | exact Below.refl _ _ | refine below_drewN ?_ _ | refine Below.drew ?_ | refine Below.alloc ?_ ?_ _ | refine Below.trans ?_ (Below.mono (by assumption) ?_))); all_goals (first | exact Nat.le_refl _ | exact Below.size (by assumption) | omega | (simp; done) | (simp; omega)))⟩
                | nil =>
                  go_wp2_with fail
                  refine (tcheck_any A ⟨qo, []⟩ _ _ (HS.out.ext ((Below.refl _ _).alloc (Nat.le_refl _) _))).mono ?_
                  rintro e w2 ⟨rfl, hb2⟩
                  have HB := Lib.hid (((Below.refl _ w).alloc (Nat.le_refl _) _).trans (hb2.mono (by simp)))
                  clear hb2
                  generalize txE ⟨qo, []⟩ = E
                  go_wp2
                  go_ret
                  exact ⟨_, rfl, fun _ => ⟨HNP.out, fun h => absurd h (by show ¬ (2 : Int) = 1; decide)⟩, HB.out⟩
              · have e2 : (qk == 2) = false := by simpa using k2
                clear k2
                go_enter Tryz.func30, Tryz.ntmps30
                go_wp2_with fail
                refine (ident_yes _ _ _ hid.1 hid.2.1 hid.2.2 _).mono ?_
                rintro e w1 ⟨rfl, rfl⟩
                go_wp2_with fail
                refine (within_yes _ _ _ hk _).mono ?_
                rintro e w1 ⟨rfl, rfl⟩
                go_wp2_with fail
                refine (within_yes _ _ _ hi _).mono ?_
                rintro e w1 ⟨rfl, rfl⟩
                go_wp2_with fail
                refine (within_yes _ _ _ hw _).mono ?_
                rintro e w1 ⟨rfl, rfl⟩
                go_wp2_with fail
                refine (within_yes _ _ _ hn _).mono ?_
                rintro e w1 ⟨rfl, rfl⟩
                clear hid hk hi hw hn
                go_wp2
                all_goals
                  go_ret
                  exact ⟨_, rfl, HK.out _, by ((repeat' (first | exact Below.refl _ _ | refine below_drewN ?_ _ | refine Below.drew ?_ | refine Below.alloc ?_ ?_ _ | refine Below.trans ?_ (Below.mono (by assumption) ?_))); all_goals (first | exact Nat.le_refl _ | exact Below.size (by assumption) | omega | (simp; done) | (simp; omega)))⟩
          · go_enter Tryz.func30, Tryz.ntmps30
            go_wp2_with fail
            refine (ident_yes _ _ _ hid.1 hid.2.1 hid.2.2 _).mono ?_
            rintro e w1 ⟨rfl, rfl⟩
            go_wp2_with fail
            refine (within_yes _ _ _ hk _).mono ?_
            rintro e w1 ⟨rfl, rfl⟩
            go_wp2_with fail
            refine (within_yes _ _ _ hi _).mono ?_
            rintro e w1 ⟨rfl, rfl⟩
            go_wp2_with fail
            refine (within_yes _ _ _ hw _).mono ?_
            rintro e w1 ⟨rfl, rfl⟩
            go_wp2_with fail
            refine (within_no _ _ _ hn _).mono ?_
            rintro e w1 ⟨rfl, rfl⟩
            go_wp2
            go_ret
            exact ⟨false, rfl, (fun h => by cases h), by ((repeat' (first | exact Below.refl _ _ | refine below_drewN ?_ _ | refine Below.drew ?_ | refine Below.alloc ?_ ?_ _ | refine Below.trans ?_ (Below.mono (by assumption) ?_))); all_goals (first | exact Nat.le_refl _ | exact Below.size (by assumption) | omega | (simp; done) | (simp; omega)))⟩
        · go_enter Tryz.func30, Tryz.ntmps30
          go_wp2_with fail
          refine (ident_yes _ _ _ hid.1 hid.2.1 hid.2.2 _).mono ?_
          rintro e w1 ⟨rfl, rfl⟩
          go_wp2_with fail
          refine (within_yes _ _ _ hk _).mono ?_
          rintro e w1 ⟨rfl, rfl⟩
          go_wp2_with fail
          refine (within_yes _ _ _ hi _).mono ?_
          rintro e w1 ⟨rfl, rfl⟩
          go_wp2_with fail
          refine (within_no _ _ _ hw _).mono ?_
          rintro e w1 ⟨rfl, rfl⟩
          go_wp2
          go_ret
          exact ⟨false, rfl, (fun h => by cases h), by ((repeat' (first | exact Below.refl _ _ | refine below_drewN ?_ _ | refine Below.drew ?_ | refine Below.alloc ?_ ?_ _ | refine Below.trans ?_ (Below.mono (by assumption) ?_))); all_goals (first | exact Nat.le_refl _ | exact Below.size (by assumption) | omega | (simp; done) | (simp; omega)))⟩
      · go_enter Tryz.func30, Tryz.ntmps30
        go_wp2_with fail
        refine (ident_yes _ _ _ hid.1 hid.2.1 hid.2.2 _).mono ?_
        rintro e w1 ⟨rfl, rfl⟩
        go_wp2_with fail
        refine (within_yes _ _ _ hk _).mono ?_
        rintro e w1 ⟨rfl, rfl⟩
        go_wp2_with fail
        refine (within_no _ _ _ hi _).mono ?_
        rintro e w1 ⟨rfl, rfl⟩
        go_wp2
        go_ret
        exact ⟨false, rfl, (fun h => by cases h), by ((repeat' (first | exact Below.refl _ _ | refine below_drewN ?_ _ | refine Below.drew ?_ | refine Below.alloc ?_ ?_ _ | refine Below.trans ?_ (Below.mono (by assumption) ?_))); all_goals (first | exact Nat.le_refl _ | exact Below.size (by assumption) | omega | (simp; done) | (simp; omega)))⟩
    · go_enter Tryz.func30, Tryz.ntmps30
      go_wp2_with fail
      refine (ident_yes _ _ _ hid.1 hid.2.1 hid.2.2 _).mono ?_
      rintro e w1 ⟨rfl, rfl⟩
      go_wp2_with fail
      refine (within_no _ _ _ hk _).mono ?_
      rintro e w1 ⟨rfl, rfl⟩
      go_wp2
      go_ret
      exact ⟨false, rfl, (fun h => by cases h), by ((repeat' (first | exact Below.refl _ _ | refine below_drewN ?_ _ | refine Below.drew ?_ | refine Below.alloc ?_ ?_ _ | refine Below.trans ?_ (Below.mono (by assumption) ?_))); all_goals (first | exact Nat.le_refl _ | exact Below.size (by assumption) | omega | (simp; done) | (simp; omega)))⟩
  · go_enter Tryz.func30, Tryz.ntmps30
    go_wp2_with fail
    refine (ident_no _ _ _ hid _).mono ?_
    rintro e w1 ⟨rfl, rfl⟩
    go_wp2
    go_ret
    exact ⟨false, rfl, (fun h => by cases h), by ((repeat' (first | exact Below.refl _ _ | refine below_drewN ?_ _ | refine Below.drew ?_ | refine Below.alloc ?_ ?_ _ | refine Below.trans ?_ (Below.mono (by assumption) ?_))); all_goals (first | exact Nat.le_refl _ | exact Below.size (by assumption) | omega | (simp; done) | (simp; omega)))⟩
end Go.Proofs.YtlgefkaafoidmaaGreatDoor
