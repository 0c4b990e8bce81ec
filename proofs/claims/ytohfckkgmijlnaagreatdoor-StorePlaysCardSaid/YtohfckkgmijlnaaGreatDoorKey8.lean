/- The walks of object.refuse, object.limit, object.key. -/
import Derived.Test.YtohfckkgmijlnaaGreatDoorPD
import Derived.Test.YtohfckkgmijlnaaGreatDoorPE
namespace Go.Proofs.YtohfckkgmijlnaaGreatDoor
open Go.RowKit Go.WideShapes

/-- an object in a box of its own, its parts the call's own -/
structure IsO (base pb : Nat) (w : World) (dv kv : Value) (o : ObD) : Prop where
  lt : pb < base
  le : base ≤ w.heap.size
  blk : w.heap[pb]? = some (.cells #[dv, kv, .int .i64 o.seq] 41 (0, 0))
  own : Own8 base w dv kv o
theorem IsO.ext {base pb : Nat} {w w' : World} {dv kv : Value} {o : ObD} (h : IsO base pb w dv kv o) (hb : Below w.heap.size w w') : IsO base pb w' dv kv o :=
  ⟨h.lt, Nat.le_trans h.le hb.size, (hb.block _ (by have := h.lt; have := h.le; omega)).trans h.blk, h.own.keep (Same.of_ext hb)⟩
/-- what stands in blocks below base, but for the box, stays -/
def Chg (base pb : Nat) : Nat → Prop := fun k => k = pb ∨ base ≤ k
/-- an op as a value -/
def opV (k off n : Int) (nm : ByteArray) (a : Option Addr) (l c : Nat) : Value := .agg #[.int .i64 k, .int .i64 off, .int .i64 n, .string nm, .slice a l c]
set_option maxHeartbeats 800000 in
theorem refuse_any (k off n : Int) (nm : ByteArray) (a : Option Addr) (l c : Nat) (e : Int) (w : World) :
    Calls Tryz.prog 80 #[opV k off n nm a l c, .int .i64 e] w fun r w' => r = .returned (refE k e) ∧ Below w.heap.size w w' := by
  unfold opV
  go_enter Tryz.func80, Tryz.ntmps80
  go_wp2
  go_ret
  exact ⟨rfl, by ((repeat' (first | exact Below.refl _ _ | refine below_drewN ?_ _ | refine Below.drew ?_ | refine Below.alloc ?_ ?_ _ | refine Below.trans ?_ (Below.mono (by assumption) ?_))); all_goals (first | exact Nat.le_refl _ | exact Below.size (by assumption) | omega | (simp; done) | (simp; omega)))⟩
/-- no error, or a limit -/
def LimR (k : Int) (ok : Bool) (w : World) (r : Ending) (w' : World) : Prop := r = .returned (if ok then .nilIface else refE k 2) ∧ Below w.heap.size w w'
set_option maxHeartbeats 800000 in
theorem limit_any (k off n : Int) (nm : ByteArray) (a : Option Addr) (l c : Nat) (ok : Bool) (w : World) :
    Calls Tryz.prog 84 #[opV k off n nm a l c, .bool ok] w (LimR k ok w) := by
  have hr := fun W => refuse_any k off n nm a l c 2 W
  unfold opV at hr ⊢
  cases ok with
  | true =>
    go_enter Tryz.func84, Tryz.ntmps84
    go_wp2
    go_ret
    exact ⟨rfl, by ((repeat' (first | exact Below.refl _ _ | refine below_drewN ?_ _ | refine Below.drew ?_ | refine Below.alloc ?_ ?_ _ | refine Below.trans ?_ (Below.mono (by assumption) ?_))); all_goals (first | exact Nat.le_refl _ | exact Below.size (by assumption) | omega | (simp; done) | (simp; omega)))⟩
  | false =>
    go_enter Tryz.func84, Tryz.ntmps84
    go_wp2_with fail
    refine (hr _).mono ?_
    rintro e w1 ⟨rfl, hb1⟩
    have HB : Hid (Below w.heap.size w w1) := Lib.hid (Below.trans (by ((repeat' (first | exact Below.refl _ _ | refine below_drewN ?_ _ | refine Below.drew ?_ | refine Below.alloc ?_ ?_ _ | refine Below.trans ?_ (Below.mono (by assumption) ?_))); all_goals (first | exact Nat.le_refl _ | exact Below.size (by assumption) | omega | (simp; done) | (simp; omega)))) (hb1.mono (by simp)))
    clear hb1
    go_wp2
    go_ret
    exact ⟨rfl, HB.out⟩
/-- what a change of an object leaves -/
def ChR (base pb : Nat) (k : Int) (x : Option ObD) (w : World) (r : Ending) (w' : World) : Prop :=
  (match x with
    | none => r = .returned (refE k 2)
    | some o' => r = .returned .nilIface ∧ ∃ dv kv, IsO base pb w' dv kv o') ∧ Fr (Chg base pb) w w'
theorem ChR.no {base pb : Nat} {k : Int} {x : Option ObD} {w w' : World} (hx : x = none) (h : Fr (Chg base pb) w w') : ChR base pb k x w (.returned (refE k 2)) w' := by
  subst hx; exact ⟨rfl, h⟩
theorem ChR.yes {base pb : Nat} {k : Int} {x : Option ObD} {o' : ObD} {w w' : World} (hx : x = some o') {dv kv : Value} (hi : IsO base pb w' dv kv o') (h : Fr (Chg base pb) w w') : ChR base pb k x w (.returned .nilIface) w' := by
  subst hx; exact ⟨⟨rfl, dv, kv, hi⟩, h⟩
theorem fr_ext {S : Nat → Prop} {w w' : World} (h : Below w.heap.size w w') : Fr S w w' := Fr.ext h
theorem mid_get {α : Type} (A B : List α) (s u : α) {p : Nat} (hA : A.length = p) : (A ++ [s, u] ++ B)[p + 1]? = some u := by
  subst hA
  rw [List.append_assoc, List.getElem?_append_right (by omega), show A.length + 1 - A.length = 1 by omega]
  rfl
theorem key_end {base pb g N c p q : Nat} {dv kv v5 : Value} {o : ObD} {nm : ByteArray} {l : List UInt8} {cs : List (List Value)} {ys : List Value} {w w4 w5 : World}
    (hO : IsO base pb w dv kv o) (hc : CI Fb.key (fun _ b => base ≤ b ∧ kv.ownBlock ≠ some b ∧ dv.ownBlock ≠ some b ∧ U8 w b) w cs o.keys)
    (hP4 : w4.heap[pb]? = some (.cells #[dv, .slice (some ⟨g, 0, none⟩) N c, .int .i64 o.seq] 41 (0, 0)))
    (hR4 : w4.ownsRow base 62 2 (.slice (some ⟨g, 0, none⟩) N c) N ys) (hD4 : OB base w4 dv o.data)
    (hS4 : Same (fun b => (base ≤ b ∧ kv.ownBlock ≠ some b ∧ dv.ownBlock ≠ some b) ∧ b < w.heap.size) w w4) (hgo : ∀ b, b < w.heap.size → kv.ownBlock ≠ some b → b ≠ g)
    (hb5 : Below w4.heap.size w4 w5) (hv5 : OB w4.heap.size w5 v5 l) (hp : p ≤ o.keys.length) (hN : N = p + 1 + (o.keys.length - q))
    (hys : ∀ u, ys.set (p * 2 + 1) u = cs.flatten.take (p * 2) ++ [.string nm, u] ++ cs.flatten.drop (q * 2)) :
    IsO base pb (w5.setCell ⟨g, p * 2 + 1, none⟩ v5) dv (.slice (some ⟨g, 0, none⟩) N c) ⟨o.data, o.keys.take p ++ ⟨nm, l⟩ :: o.keys.drop q, o.seq⟩ := by
  obtain ⟨hg1, hg2⟩ := hR4.lt g rfl
  have h5 := hb5.size
  have hpb := hO.lt
  have hle := hO.le
  have hw4 := hS4.size
  have hset : ∀ k, k ≠ g → (w5.setCell ⟨g, p * 2 + 1, none⟩ v5).heap[k]? = w5.heap[k]? := fun k hk => Below.heap_setCell _ ⟨g, _, none⟩ _ _ hk
  have hdg : ∀ b, dv.ownBlock = some b → b ≠ g ∧ b < w4.heap.size := by
    intro b hb
    refine ⟨?_, (hD4.lt b hb).2⟩
    rcases own_ne hD4 hR4 (by decide) with e | e
    · rw [e] at hb; cases hb
    · intro e2; rw [hb, e2] at e; exact e rfl
  refine ⟨hpb, ?_, ?_, ?_, cs.take p ++ (Fb.key.front ⟨nm, l⟩ ++ [v5]) :: cs.drop q, ?_, ?_⟩
  · simp only [World.setCell, Array.size_modify]; omega
  · rw [hset pb (by omega), hb5.block pb (by omega)]; exact hP4
  · exact (hD4.ext hb5).keep fun b hb => hset b (hdg b hb).1
  · have h1 := owns_set (owns_ext hR4 hb5) (p * 2 + 1) v5
    rw [hys v5] at h1
    have hl := hc.lens
    have e : (cs.take p ++ (Fb.key.front ⟨nm, l⟩ ++ [v5]) :: cs.drop q).flatten = cs.flatten.take (p * 2) ++ [.string nm, v5] ++ cs.flatten.drop (q * 2) := by
      rw [List.flatten_append, List.flatten_cons, flat_take cs p hl, flat_drop cs q hl, ← List.append_assoc]
      rfl
    have e2 : (o.keys.take p ++ (⟨nm, l⟩ : KyD) :: o.keys.drop q).length = N := by simp; omega
    show World.ownsRow _ base _ 2 _ (o.keys.take p ++ (⟨nm, l⟩ : KyD) :: o.keys.drop q).length _
    rw [e, e2]
    exact h1
  · have hc3 : CI Fb.key (fun _ b => base ≤ b ∧ (Value.slice (some ⟨g, 0, none⟩) N c).ownBlock ≠ some b ∧ dv.ownBlock ≠ some b ∧ U8 (w5.setCell ⟨g, p * 2 + 1, none⟩ v5) b) (w5.setCell ⟨g, p * 2 + 1, none⟩ v5) cs o.keys := by
      refine hc.sameU (fun i b h hl => (hset b (hgo b hl h.2.1)).trans ((hb5.block b (by omega)).trans (hS4.block b ⟨⟨h.1, h.2.1, h.2.2.1⟩, hl⟩ hl))) (by simp only [World.setCell, Array.size_modify]; omega) fun i b _ hl h e => ⟨h.1, ?_, h.2.2.1, h.2.2.2.of_eq e⟩
      simp only [Value.ownBlock, ne_eq, Option.some.injEq]
      exact fun e => hgo b hl h.2.1 e.symm
    have hv6 : RB (fun b => base ≤ b ∧ (Value.slice (some ⟨g, 0, none⟩) N c).ownBlock ≠ some b ∧ dv.ownBlock ≠ some b ∧ U8 (w5.setCell ⟨g, p * 2 + 1, none⟩ v5) b) (w5.setCell ⟨g, p * 2 + 1, none⟩ v5) v5 l := by
      refine (hv5.rbU.mono (w' := w5.setCell ⟨g, p * 2 + 1, none⟩ v5) ⟨by simp [World.setCell], fun b hb _ => hset b (by have := hb.1; omega)⟩).weak fun b _ h => ⟨by have := h.1; omega, ?_, ?_, h.2.of_eq (hset b (by have := h.1; omega))⟩
      · have := h.1
        simp only [Value.ownBlock, ne_eq, Option.some.injEq]
        omega
      · intro e
        have := (hdg b e).2
        have := h.1
        omega
    exact hc3.cut (p := p) (q := q) hp (x := ⟨nm, l⟩) hv6
set_option maxRecDepth 100000 in
set_option maxHeartbeats 8000000 in
theorem key_any (base pb : Nat) (dv kv : Value) (o : ObD) (k off n : Int) (nm : ByteArray) (oa : Option Addr) (ol oc : Nat) (A : Nat → Prop) (v : Value) (l : List UInt8) (w : World)
    (hO : IsO base pb w dv kv o) (hf : Fine o.keys) (hk : o.keys.length ≤ 120) (hv : RB A w v l) (hl : l.length ≤ 100000) (hA : ∀ b, A b → b ≠ pb ∧ kv.ownBlock ≠ some b) :
    Calls Tryz.prog 85 #[.pointer (some ⟨pb, 0, none⟩), opV k off n nm oa ol oc, v] w (ChR base pb k (keyOp o nm l) w) := by
  obtain ⟨va, vc, rfl⟩ := hv.shape
  have hr := fun W => refuse_any k off n nm oa ol oc 2 W
  unfold opV at hr ⊢
  have hlt := hO.lt
  have hle := hO.le
  obtain ⟨hd, cs, ho, hc⟩ := hO.own
  obtain ⟨da, dn, dc, rfl⟩ : ∃ da dn dc, dv = .slice da dn dc := by
    obtain ⟨a, c, e⟩ := hd.rb.shape
    exact ⟨_, _, _, e⟩
  obtain ⟨ka, kc, rfl⟩ := owns_shape ho
  have HO := Lib.hid hO
  have HOW := Lib.hid ho
  have HC := Lib.hid hc
  have HD := Lib.hid hd
  have HV := Lib.hid hv
  have HF := Lib.hid hf
  have HA := Lib.hid hA
  have hpl : pb < w.heap.size := by omega
  have hl6 : l.length ≤ 1000000 := by omega
  have hobv : Hid (∀ W, Below w.heap.size w W → ObV (fun b => base ≤ b) W (.agg #[.slice da dn dc, .slice ka o.keys.length kc, .int .i64 o.seq]) o) := fun W hW => (HO.out.ext hW).own.obv
  obtain ⟨x0, f0⟩ := blk_cell (i := 0) hO.blk
  obtain ⟨x1, f1⟩ := blk_cell (i := 1) hO.blk
  obtain ⟨x2, f2⟩ := blk_cell (i := 2) hO.blk
  simp at x0 x1 x2
  clear hO ho hc hd hv hf hA
  go_enter Tryz.func85, Tryz.ntmps85
  go_upto_region 1 with fail
  obtain ⟨w0, hw0⟩ : ∃ w0, w0 = w.alloc (.cells #[.int .i64 k, .int .i64 off, .int .i64 n, .string nm, .slice oa ol oc] 57) := ⟨_, rfl⟩
  rw [← hw0]
  have hw : Below w.heap.size w w0 := by rw [hw0]; ((repeat' (first | exact Below.refl _ _ | refine below_drewN ?_ _ | refine Below.drew ?_ | refine Below.alloc ?_ ?_ _ | refine Below.trans ?_ (Below.mono (by assumption) ?_))); all_goals (first | exact Nat.le_refl _ | exact Below.size (by assumption) | omega | (simp; done) | (simp; omega)))
  have K := heap_alloc_new w (.cells #[.int .i64 k, .int .i64 off, .int .i64 n, .string nm, .slice oa ol oc] 57)
  rw [← hw0] at K
  have HW := Lib.hid hw
  have HKB := Lib.hid K
  have y0 : ∀ n : After w0, n.w.cell? ⟨pb, 0, none⟩ = some _ := after_cell (cellExt hw x0)
  have y1 : ∀ n : After w0, n.w.cell? ⟨pb, 1, none⟩ = some _ := after_cell (cellExt hw x1)
  have y2 : ∀ n : After w0, n.w.cell? ⟨pb, 2, none⟩ = some _ := after_cell (cellExt hw x2)
  have y3 : ∀ n : After w0, n.w.cell? ⟨w.heap.size, 3, none⟩ = some (.string nm) := after_cell (blk_cell (i := 3) K).1
  have HFN : Hid (∀ m : After w0, Calls Tryz.prog 86 #[.agg #[.slice da dn dc, .slice ka o.keys.length kc, .int .i64 o.seq], .string nm] m.w (FindR o.keys nm m.w)) := fun m => find_any _ _ o nm _ (hobv.out _ (HW.out.trans (m.h.mono HW.out.size))) HF.out (by omega)
  clear hw0 hw K x0 x1 x2 f0 f1 f2
  (refine wp_region_after (by kernel_rfl) (by kernel_rfl) ?_
   repeat (first | go_big_quiet_skip | (go_big_quiet_want; go_big_quiet_op; (first | go_big_quiet_on | (apply Exists.intro; refine ⟨fun _ => ?_, ?_⟩; (focus ((go_at_call 86; exact calls_after (HFN.out _)))); go_big_quiet_on))))
   refine wpQuiet_nil ?_
   intro _ hw'
   obtain ⟨nq, hw''⟩ := hw'
   subst hw''
   have hq := nq.h)
  obtain ⟨w1, hw1⟩ : ∃ w1, w1 = nq.w := ⟨_, rfl⟩
  rw [← hw1] at hq ⊢
  have hB1 : Below w.heap.size w w1 := HW.out.trans (hq.mono HW.out.size)
  have K1 : w1.heap[w.heap.size]? = _ := (hq.block _ ((Array.getElem?_eq_some_iff.1 HKB.out).1)).trans HKB.out
  have hO1 : IsO base pb w1 (.slice da dn dc) (.slice ka o.keys.length kc) o := HO.out.ext hB1
  have HB1 := Lib.hid hB1
  have HO1 := Lib.hid hO1
  have HV1 := Lib.hid (HV.out.ext hB1)
  have hs1 : w.heap.size < w1.heap.size := (Array.getElem?_eq_some_iff.1 K1).1
  obtain ⟨x0, f0⟩ := blk_cell (i := 0) hO1.blk
  obtain ⟨x1, f1⟩ := blk_cell (i := 1) hO1.blk
  obtain ⟨z0, g0⟩ := blk_cell (i := 0) K1
  obtain ⟨z1, g1⟩ := blk_cell (i := 1) K1
  obtain ⟨z2, g2⟩ := blk_cell (i := 2) K1
  obtain ⟨z3, g3⟩ := blk_cell (i := 3) K1
  obtain ⟨z4, g4⟩ := blk_cell (i := 4) K1
  simp at x0 x1 z0 z1 z2 z3 z4
  have HFR : Hid (Fr (Chg base pb) w w1) := Lib.hid (Fr.ext hB1)
  have hpl1 : pb < w1.heap.size := by omega
  clear hw1 hq hB1 K1 hO1 HW HKB y0 y1 y2 y3 HFN
  cases h1 : nameB nm with
  | false =>
    have HX : Hid (keyOp o nm l = none) := by show keyOp _ _ _ = none; simp [keyOp, h1]
    go_wp2_with fail
    refine (oright_any nm _).mono ?_
    rintro e w2 ⟨rfl, hb2⟩
    rw [h1]
    clear h1
    obtain ⟨hc2, hfz2⟩ := bcell hb2
    have HB2 := Lib.hid hb2
    clear hb2
    go_wp2_with fail
    refine (hr _).mono ?_
    rintro e w3 ⟨rfl, hb3⟩
    have HB3 := Lib.hid hb3
    clear hb3
    go_wp2
    go_ret
    exact ChR.no HX.out (Fr.trans (S := Chg base pb) (T := Chg base pb) HFR.out (Fr.ext (HB2.out.trans (HB3.out.mono HB2.out.size))) (fun _ _ h => h))
  | true =>
    by_cases h2 : (2048 : Int) < l.length
    · have HX : Hid (keyOp o nm l = none) := by
        show keyOp _ _ _ = none
        have : ¬ l.length ≤ 2048 := by omega
        simp [keyOp, this]
      go_wp2_with fail
      refine (oright_any nm _).mono ?_
      rintro e w2 ⟨rfl, hb2⟩
      rw [h1]
      clear h1
      obtain ⟨hc2, hfz2⟩ := bcell hb2
      have HB2 := Lib.hid hb2
      clear hb2
      go_wp2_with fail
      refine (hr _).mono ?_
      rintro e w3 ⟨rfl, hb3⟩
      have HB3 := Lib.hid hb3
      clear hb3
      go_wp2
      go_ret
      exact ChR.no HX.out (Fr.trans (S := Chg base pb) (T := Chg base pb) HFR.out (Fr.ext (HB2.out.trans (HB3.out.mono HB2.out.size))) (fun _ _ h => h))
    · cases hh : hasK o.keys nm with
      | true =>
        obtain ⟨hp, hn, hput, -⟩ := putK_old (v := l) HF.out hh
        have HPK : Hid (keyOp o nm l = some ⟨o.data, o.keys.take (posK o.keys nm) ++ ⟨nm, l⟩ :: o.keys.drop (posK o.keys nm + 1), o.seq⟩) := by
          show keyOp _ _ _ = _
          have h2' : l.length ≤ 2048 := by omega
          simp [keyOp, h1, hh, h2', hput]
        obtain ⟨g, rfl⟩ : ∃ g, ka = some ⟨g, 0, none⟩ := by
          rcases HOW.out.2 with ⟨-, h⟩ | ⟨g, cap, cur, e, -⟩
          · omega
          · simp only [Value.slice.injEq] at e
            exact ⟨g, e.1⟩
        obtain ⟨u, hu, hu2⟩ := HC.out.last hp
        have hci : cs[posK o.keys nm]? = some (cs[posK o.keys nm]'(by rw [HC.out.len]; exact hp)) := List.getElem?_eq_getElem _
        obtain ⟨u', hcu, -⟩ := HC.out.at_ _ o.keys[posK o.keys nm] _ (List.getElem?_eq_getElem hp) hci
        have hcs0 : cs.flatten[posK o.keys nm * 2]? = some (.string nm) := by
          have := flat_get cs (posK o.keys nm) (by rw [HC.out.len]; exact hp) HC.out.lens 0 (by decide)
          rw [Nat.add_zero] at this
          rw [show posK o.keys nm * 2 = posK o.keys nm * Fb.key.E.size from rfl, this, hcu]
          exact congrArg (fun s => some (Value.string s)) hn
        have hys : ∀ u, cs.flatten.set (posK o.keys nm * 2 + 1) u = cs.flatten.take (posK o.keys nm * 2) ++ [.string nm, u] ++ cs.flatten.drop ((posK o.keys nm + 1) * 2) := by
          intro u
          have hl2 := HC.out.flat_len
          have hl2 : cs.flatten.length = o.keys.length * 2 := hl2
          have e1 : cs.flatten = cs.flatten.take (posK o.keys nm * 2) ++ [.string nm, cs.flatten[posK o.keys nm * 2 + 1]'(by omega)] ++ cs.flatten.drop ((posK o.keys nm + 1) * 2) := by
            conv => lhs; rw [← List.take_append_drop (posK o.keys nm * 2) cs.flatten]
            rw [List.append_assoc]
            congr 1
            rw [List.drop_eq_getElem_cons (by omega), List.drop_eq_getElem_cons (by omega)]
            have e2 : cs.flatten[posK o.keys nm * 2]'(by omega) = .string nm := by
              have := hcs0
              rw [List.getElem?_eq_getElem (by omega)] at this
              exact Option.some.inj this
            rw [e2, Nat.add_mul]
            rfl
          conv => lhs; rw [e1]
          exact set_mid _ _ _ _ _ (by rw [List.length_take]; omega)
        have hul : w.cell? ⟨g, posK o.keys nm * 2 + 1, none⟩ = some u := (HOW.out.cellAt (posK o.keys nm * 2 + 1) (by omega)).trans hu
        have huf : w.frozen? ⟨g, posK o.keys nm * 2 + 1, none⟩ = false := HOW.out.frozenAt _
        have hgl0 : g < w.heap.size := (HOW.out.lt g rfl).2
        have HYS := Lib.hid hys
        have hpl2 := hp
        clear hput hn hci hcu hu hu2 hcs0 hys
        generalize hpk : posK o.keys nm = p at *
        have HPP := Lib.hid hpk
        clear hpk
        go_wp2_with fail
        refine (oright_any nm _).mono ?_
        rintro e w4 ⟨rfl, hb2⟩
        rw [h1]
        clear h1 hh
        have hb4 : Below w.heap.size w w4 := HB1.out.trans (hb2.mono HB1.out.size)
        have hO4 := HO.out.ext hb4
        obtain ⟨xk, fk⟩ := blk_cell (i := 1) hO4.blk
        simp at xk
        have yk := cellExt hb4 hul
        have gk : w4.frozen? ⟨g, p * 2 + 1, none⟩ = false := (hb4.frozen (p := ⟨g, p * 2 + 1, none⟩) hgl0).trans huf
        have HV4 := Lib.hid (HV.out.ext hb4)
        have hgl : g < w4.heap.size := by have := hb4.size; omega
        have HEND : Hid (∀ w5 v5, Below w4.heap.size w4 w5 → OB w4.heap.size w5 v5 l → IsO base pb (w5.setCell ⟨g, p * 2 + 1, none⟩ v5) (.slice da dn dc) (.slice (some ⟨g, 0, none⟩) o.keys.length kc) ⟨o.data, o.keys.take p ++ ⟨nm, l⟩ :: o.keys.drop (p + 1), o.seq⟩ ∧ Fr (Chg base pb) w (w5.setCell ⟨g, p * 2 + 1, none⟩ v5)) := fun w5 v5 hb5 hv5 =>
          ⟨key_end HO.out HC.out hO4.blk (owns_ext HOW.out hb4) (HD.out.ext hb4) (Same.of_ext hb4) (fun b _ h e => h (by rw [e]; rfl)) hb5 hv5 (by omega) (by omega) HYS.out,
           (Fr.ext (hb4.trans (hb5.mono hb4.size))).setCell (fun _ => .inr (HOW.out.lt g rfl).1) _⟩
        clear hb2 hb4 hO4 hul huf hgl0 x0 x1 f0 f1 z0 z1 z2 z3 z4 g0 g1 g2 g3 g4
        go_wp2
        go_region_with (go_at_call 39; refine (bclone_any A _ l _ hl6 (RB.ext HV4.out (Below.refl _ _).drew)).mono ?_; rintro e w5 ⟨v5, rfl, ho5, hb5⟩; obtain ⟨a5, c5, rfl⟩ := ho5.rb.shape; have e1 := cellExt hb5 xk; have g3 : w5.frozen? ⟨g, p * 2 + 1, none⟩ = false := (hb5.frozen (p := ⟨g, p * 2 + 1, none⟩) hgl).trans gk; have e2 := cellExt hb5 yk; have HO5 : Hid (OB w4.heap.size w5 _ _) := Lib.hid ho5; have HB5 : Hid (Below w4.heap.size w4 w5) := Lib.hid (((Below.refl _ w4).drew).trans hb5); clear ho5 hb5)
        all_goals
          go_wp2
          go_ret
          have hfin := HEND.out _ _ HB5.out HO5.out
          exact ChR.yes HPK.out hfin.1 hfin.2
      | false =>
        by_cases h3 : (120 : Int) ≤ o.keys.length
        · have HX : Hid (keyOp o nm l = none) := by
            show keyOp _ _ _ = none
            have h3' : ¬ o.keys.length < 120 := by omega
            simp [keyOp, hh, h3']
          go_wp2_with fail
          refine (oright_any nm _).mono ?_
          rintro e w2 ⟨rfl, hb2⟩
          rw [h1]
          clear h1 hh
          obtain ⟨hc2, hfz2⟩ := bcell hb2
          have HB2 := Lib.hid hb2
          clear hb2
          go_wp2_with fail
          refine (hr _).mono ?_
          rintro e w3 ⟨rfl, hb3⟩
          have HB3 := Lib.hid hb3
          clear hb3
          go_wp2
          go_ret
          exact ChR.no HX.out (Fr.trans (S := Chg base pb) (T := Chg base pb) HFR.out (Fr.ext (HB2.out.trans (HB3.out.mono HB2.out.size))) (fun _ _ h => h))
        · have HPK : Hid (keyOp o nm l = some ⟨o.data, o.keys.take (posK o.keys nm) ++ ⟨nm, l⟩ :: o.keys.drop (posK o.keys nm), o.seq⟩) := by
            show keyOp _ _ _ = _
            have h2' : l.length ≤ 2048 := by omega
            have h3' : o.keys.length < 120 := by omega
            simp [keyOp, h1, hh, h2', h3', putK_new hh]
          have hp := posK_le o.keys nm
          have hxl : cs.flatten.length = o.keys.length * 2 := HOW.out.1
          have hys : ∀ u : Value, (cs.flatten.take (posK o.keys nm * 2) ++ [Value.string nm, Value.slice none 0 0] ++ cs.flatten.drop (posK o.keys nm * 2)).set (posK o.keys nm * 2 + 1) u = cs.flatten.take (posK o.keys nm * 2) ++ [.string nm, u] ++ cs.flatten.drop (posK o.keys nm * 2) :=
            fun u => set_mid _ _ _ _ _ (by rw [List.length_take]; omega)
          have HYS := Lib.hid hys
          clear hys hxl
          generalize hpk : posK o.keys nm = p at *
          have HPP := Lib.hid hpk
          clear hpk
          go_wp2_with fail
          refine (oright_any nm _).mono ?_
          rintro e w2 ⟨rfl, hb2⟩
          rw [h1]
          clear h1 hh
          have hb4 : Below w.heap.size w w2 := HB1.out.trans (hb2.mono HB1.out.size)
          have hO2 := HO.out.ext hb4
          have hrow2 := owns_ext HOW.out hb4
          obtain ⟨xk, fk⟩ := blk_cell (i := 1) hO2.blk
          simp at xk
          have hpl3 : pb < w2.heap.size := by have := hb4.size; omega
          have hwl3 : w.heap.size < w2.heap.size := by have := hb2.size; omega
          have zk3 := cellExt hb2 z3
          have HIN : Hid (∀ W, Below w2.heap.size w2 W → W.heap[w2.heap.size]? = some (.cells #[.string nm, .slice none 0 0] 62 (0, 0)) →
              Calls Tryz.prog 108 #[.slice ka o.keys.length kc, .int .i64 p, .slice (some ⟨w2.heap.size, 0, none⟩) 1 1] W fun e w3 => ∃ g c, e = .returned (.slice (some ⟨g, 0, none⟩) (o.keys.length + 1) c) ∧ w3.cell? ⟨pb, 1, none⟩ = some (.slice ka o.keys.length kc) ∧ w3.frozen? ⟨pb, 1, none⟩ = false ∧ g < w3.heap.size ∧ pb ≠ g ∧
                Hid (w3.ownsRow base 62 2 (.slice (some ⟨g, 0, none⟩) (o.keys.length + 1) c) (o.keys.length + 1) (cs.flatten.take (p * 2) ++ [.string nm, .slice none 0 0] ++ cs.flatten.drop (p * 2))) ∧
                Hid (Fr (fun k => some k = (Value.slice ka o.keys.length kc).ownBlock) w2 w3) ∧ Hid ((Value.slice ka o.keys.length kc).ownBlock = some g ∨ w2.heap.size ≤ g)) := by
            show ∀ W, _
            intro W hW hWv
            refine (insert_any base o.keys.length p w2.heap.size (.slice ka o.keys.length kc) cs.flatten (.string nm) (.slice none 0 0) W (owns_ext hrow2 hW) (by have := hO2.le; have := hW.size; omega) (by omega) hp HC.out.one hWv ?_ rfl rfl).mono ?_
            · intro e
              have := (hrow2.lt _ e).2
              omega
            rintro e w3 ⟨v3, rfl, h3, hf3, hat⟩
            obtain ⟨g, c, rfl⟩ : ∃ g c, v3 = .slice (some ⟨g, 0, none⟩) (o.keys.length + 1) c := by
              rcases h3.2 with ⟨-, h⟩ | ⟨g, cap, cur, e, -⟩
              · omega
              · exact ⟨g, cap, e⟩
            have hnb : ¬ some pb = (Value.slice ka o.keys.length kc).ownBlock := fun e => by
              have := (hrow2.lt _ e.symm).1
              omega
            have hb3 : w3.heap[pb]? = _ := (hf3.block pb (by have := hW.size; omega) hnb).trans ((hW.block pb hpl3).trans hO2.blk)
            obtain ⟨xx, ff⟩ := blk_cell (i := 1) hb3
            simp at xx
            have hg := h3.lt g rfl
            refine ⟨g, c, rfl, xx, ff, hg.2, by omega, h3, Fr.trans (S := fun k => some k = (Value.slice ka o.keys.length kc).ownBlock) (Fr.ext hW) hf3 (fun _ _ h => h), ?_⟩
            rcases hat with h | ⟨g', h, h'⟩
            · exact .inl h.symm
            · simp only [Value.ownBlock, Option.some.injEq] at h
              subst h
              exact .inr (by have := hW.size; omega)
          have HB24 := Lib.hid hb4
          have HO2 := Lib.hid hO2
          clear hb2 hb4 hO2 hrow2 x0 x1 f0 f1 z0 z1 z2 z3 z4 g0 g1 g2 g3 g4
          go_wp2
          go_region_with (go_at_call 108; refine (HIN.out _ (by ((repeat' (first | exact Below.refl _ _ | refine below_drewN ?_ _ | refine Below.drew ?_ | refine Below.alloc ?_ ?_ _ | refine Below.trans ?_ (Below.mono (by assumption) ?_))); all_goals (first | exact Nat.le_refl _ | exact Below.size (by assumption) | omega | (simp; done) | (simp; omega)))) (by first | exact heap_alloc_new w2 _ | exact heap_alloc_new w2.drew _)).mono ?_; rintro e w3 ⟨g, c, rfl, xx, ff, gl, gn, hR3, hF3, hA3⟩)
          all_goals
            obtain ⟨w4, hw4⟩ : ∃ w4, w4 = w3.setCell ⟨pb, 1, none⟩ (.slice (some ⟨g, 0, none⟩) (o.keys.length + 1) c) := ⟨_, rfl⟩
            rw [← hw4]
            obtain ⟨yk, gk⟩ : w4.cell? ⟨g, p * 2 + 1, none⟩ = (cs.flatten.take (p * 2) ++ [Value.string nm, Value.slice none 0 0] ++ cs.flatten.drop (p * 2))[p * 2 + 1]? ∧ w4.frozen? ⟨g, p * 2 + 1, none⟩ = false := by
              rw [hw4]
              have hr4 : (w3.setCell ⟨pb, 1, none⟩ (.slice (some ⟨g, 0, none⟩) (o.keys.length + 1) c)).ownsRow base 62 2 _ _ _ := ownsRow_setCell_below hR3.out (a := ⟨pb, 1, none⟩) (by show pb < base; omega) _
              exact ⟨hr4.cellAt _ (by omega), hr4.frozenAt _⟩
            rw [mid_get _ _ _ _ (show (cs.flatten.take (p * 2)).length = p * 2 by rw [List.length_take, HOW.out.1]; omega)] at yk
            have hR4 : Hid (w4.ownsRow base 62 2 (.slice (some ⟨g, 0, none⟩) (o.keys.length + 1) c) (o.keys.length + 1) (cs.flatten.take (p * 2) ++ [Value.string nm, Value.slice none 0 0] ++ cs.flatten.drop (p * 2))) := by
              show World.ownsRow _ _ _ _ _ _ _
              rw [hw4]
              exact ownsRow_setCell_below hR3.out (a := ⟨pb, 1, none⟩) (by show pb < base; omega) _
            have hP3 : w3.heap[pb]? = some (.cells #[.slice da dn dc, .slice ka o.keys.length kc, .int .i64 o.seq] 41 (0, 0)) :=
              (hF3.out.block pb hpl3 (fun e => by have := ((owns_ext HOW.out HB24.out).lt _ e.symm).1; omega)).trans HO2.out.blk
            have hP4 : w4.heap[pb]? = some (.cells #[.slice da dn dc, .slice (some ⟨g, 0, none⟩) (o.keys.length + 1) c, .int .i64 o.seq] 41 (0, 0)) := by
              rw [hw4]
              have := set_blk3 (j := 1) (v := .slice (some ⟨g, 0, none⟩) (o.keys.length + 1) c) hP3
              simpa using this
            have hFr4 : Hid (Fr (fun k => k = pb ∨ some k = (Value.slice ka o.keys.length kc).ownBlock) w w4) := by
              show Fr _ _ _
              rw [hw4]
              exact ((Fr.trans (S := fun k => some k = (Value.slice ka o.keys.length kc).ownBlock) (Fr.ext HB24.out) hF3.out (fun _ _ h => h)).weaken (T := fun k => k = pb ∨ some k = (Value.slice ka o.keys.length kc).ownBlock) fun _ _ h => .inr h).setCell (a := ⟨pb, 1, none⟩) (fun _ => .inl rfl) _
            have hwl4 : w.heap.size ≤ w4.heap.size := hFr4.out.size
            obtain ⟨xk4, fk4⟩ := blk_cell (i := 1) hP4
            simp at xk4
            have HEND : Hid (∀ w5 v5, Below w4.heap.size w4 w5 → OB w4.heap.size w5 v5 l → IsO base pb (w5.setCell ⟨g, p * 2 + 1, none⟩ v5) (.slice da dn dc) (.slice (some ⟨g, 0, none⟩) (o.keys.length + 1) c) ⟨o.data, o.keys.take p ++ ⟨nm, l⟩ :: o.keys.drop p, o.seq⟩ ∧ Fr (Chg base pb) w (w5.setCell ⟨g, p * 2 + 1, none⟩ v5)) := fun w5 v5 hb5 hv5 =>
              ⟨key_end HO.out HC.out hP4 hR4.out (HD.out.keep fun b hb => hFr4.out.block b (HD.out.lt b hb).2 (fun h => by
                  rcases h with h | h
                  · have := (HD.out.lt b hb).1; omega
                  · rcases own_ne HD.out HOW.out (by decide) with e | e
                    · rw [e] at hb; cases hb
                    · exact e (hb.trans h)))
                (Same.of_fr hFr4.out fun b hb hl h => by
                  rcases h with h | h
                  · have := hb.1.1; omega
                  · exact hb.1.2.1 h.symm)
                (fun b hb hne e => by
                  rcases hA3.out with h | h
                  · exact hne (by rw [h, e])
                  · have := HB24.out.size; omega) hb5 hv5 hp (by omega) HYS.out,
               ((hFr4.out.weaken (T := Chg base pb) fun b hb h => by
                  rcases h with h | h
                  · exact .inl h
                  · exact .inr (HOW.out.lt b h.symm).1).trans (S := Chg base pb) (T := Chg base pb) (Fr.ext hb5) (fun _ _ h => h)).setCell (a := ⟨g, p * 2 + 1, none⟩) (fun _ => .inr (hR4.out.lt g rfl).1) _⟩
            have hgl : g < w4.heap.size := (hR4.out.lt g rfl).2
            have HV4 : Hid (RB A w4 (.slice va l.length vc) l) := Lib.hid (HV.out.mono (Same.of_fr hFr4.out fun b hb hl h => by
              rcases h with h | h
              · exact (HA.out b hb).1 h
              · exact (HA.out b hb).2 h.symm))
            have xk := xk4
            clear xk4 hP3 hP4 hw4 xx ff gn gl
            go_wp2
            go_region_with (go_at_call 39; refine (bclone_any A _ l _ hl6 (RB.ext HV4.out (Below.refl _ _).drew)).mono ?_; rintro e w5 ⟨v5, rfl, ho5, hb5⟩; obtain ⟨a5, c5, rfl⟩ := ho5.rb.shape; have e1 := cellExt hb5 xk; have g3 : w5.frozen? ⟨g, p * 2 + 1, none⟩ = false := (hb5.frozen (p := ⟨g, p * 2 + 1, none⟩) hgl).trans gk; have e2 := cellExt hb5 yk; have HO5 : Hid (OB w4.heap.size w5 _ _) := Lib.hid ho5; have HB5 : Hid (Below w4.heap.size w4 w5) := Lib.hid (((Below.refl _ w4).drew).trans hb5); clear ho5 hb5)
            all_goals
              go_wp2
              go_ret
              have hfin := HEND.out _ _ HB5.out HO5.out
              exact ChR.yes HPK.out hfin.1 hfin.2
end Go.Proofs.YtohfckkgmijlnaaGreatDoor
