/- The walk of rpc's Cache.Keep. -/
import Derived.Test.YtidikciankcopaaDoorCachB
namespace Go.Proofs.YtidikciankcopaaDoor
open Go.RowKit Go.WideShapes

/-- what Look answers -/
def lookD (o : Option RpD) (life seq : Int) : RpD := if lookN o life seq = 1 then o.getD RpD.none else RpD.none
theorem rp0_is (A : Nat → Prop) (w : World) : RpV A w rp0 RpD.none := ⟨_, _, rfl, RB.nil _ _, SlE.nil _ _ _⟩
theorem look_any (lo : Nat) (w : World) (p i : Nat) (f : Nat → Option RpD) (q : RqD) (ov : Value) (hov : ov.oneCell' = true) (h : IsC lo w p f) (hi : i < 8) (hq : q.client = i) (hok : ∀ r, f i = some r → r.obj.okl) :
    Calls Tryd.prog 25 #[.pointer (some ⟨p, 0, none⟩), rqV q ov] w fun e w' => ∃ v', e = .returned (.tuple #[.int .i64 (lookN (f i) q.life q.seq : Nat), v']) ∧ RpV (fun b => w.heap.size ≤ b) w' v' (lookD (f i) q.life q.seq) ∧ Below w.heap.size w w' := by
  cases hf : f i with
  | none =>
    refine (look_none lo w p i f q ov hov h hi hq hf).mono ?_
    rintro e w' ⟨rfl, hb⟩
    exact ⟨_, rfl, rp0_is _ _, hb⟩
  | some r =>
    by_cases h1 : r.life < q.life ∨ (r.life = q.life ∧ r.seq < q.seq)
    · have e1 : lookN (some r) q.life q.seq = 0 := if_pos h1
      refine (look_old lo w p i f q r ov hov h hi hq hf h1).mono ?_
      rintro e w' ⟨rfl, hb⟩
      rw [e1]
      refine ⟨_, rfl, ?_, hb⟩
      unfold lookD
      rw [e1]
      exact rp0_is _ _
    · by_cases h2 : r.life = q.life ∧ r.seq = q.seq
      · have e1 : lookN (some r) q.life q.seq = 1 := (if_neg h1).trans (if_pos h2)
        refine (look_same lo w p i f q r ov hov h hi hq hf h2 (hok r hf)).mono ?_
        rintro e w' ⟨v', rfl, hv, hb⟩
        rw [e1]
        refine ⟨_, rfl, ?_, hb⟩
        unfold lookD
        rw [e1]
        exact hv
      · have e1 : lookN (some r) q.life q.seq = 2 := (if_neg h1).trans (if_neg h2)
        refine (look_new lo w p i f q r ov hov h hi hq hf (by omega)).mono ?_
        rintro e w' ⟨rfl, hb⟩
        rw [e1]
        refine ⟨_, rfl, ?_, hb⟩
        unfold lookD
        rw [e1]
        exact rp0_is _ _
theorem CV.cut {A : Nat → Prop} {w : World} {o : Option RpD} {v : Value} (h : CV A w o v) : CV (fun b => A b ∧ b < w.heap.size) w o v := h.weak fun b hb hA => ⟨hA, hb⟩
/-- where nothing that was there has turned -/
theorem IsC.keep {lo : Nat} {w w' : World} {p : Nat} {f : Nat → Option RpD} (h : IsC lo w p f) (hs : Same (fun b => b < w.heap.size) w w') : IsC lo w' p f := by
  obtain ⟨cs, h1, h2, h3⟩ := h.ex
  refine ⟨⟨cs, h1, (hs.block _ h.lt h.lt).trans h2, fun i hi => ?_⟩, h.lo⟩
  obtain ⟨v, e, hv⟩ := h3 i hi
  exact ⟨v, e, (hv.cut.mono (hs.weak fun b hb => hb.2)).weak fun b _ hb => hb.1⟩
theorem IsC.put {lo : Nat} {w : World} {p i : Nat} {f : Nat → Option RpD} {r : RpD} {dv kv : Value} (h : IsC lo w p f) (hi : i < 8) (hd : RB (fun b => lo ≤ b ∧ b ≠ p) w dv r.obj.data) (hk : SlE Enc.key (fun b => lo ≤ b ∧ b ≠ p) w kv r.obj.keys) :
    IsC lo (w.setCell ⟨p, i, none⟩ (.iface 39 (rpV r dv kv))) p (fun j => if j = i then some r else f j) := by
  obtain ⟨cs, h1, h2, h3⟩ := h.ex
  have hsm : Same (fun b => lo ≤ b ∧ b ≠ p) w (w.setCell ⟨p, i, none⟩ (.iface 39 (rpV r dv kv))) := Same.setCell (a := ⟨p, i, none⟩) (Same.refl _ _) (fun h => h.2 rfl) _
  refine ⟨⟨cs.setIfInBounds i (.iface 39 (rpV r dv kv)), by simpa using h1, set_blk3 h2, fun j hj => ?_⟩, h.lo⟩
  by_cases hji : j = i
  · subst hji
    refine ⟨.iface 39 (rpV r dv kv), by simp [h1, hi], ?_⟩
    rw [if_pos rfl]
    exact ⟨dv, kv, rfl, hd.mono hsm, hk.mono hsm⟩
  · obtain ⟨v, e, hv⟩ := h3 j hj
    refine ⟨v, ?_, ?_⟩
    · rw [Array.getElem?_setIfInBounds_ne (fun e => hji e.symm)]
      exact e
    · rw [if_neg hji]
      exact hv.mono hsm
/-- the request that Keep asks about -/
def rqK (r : RpD) : RqD := ⟨r.client, r.life, r.seq, 0, 0, 0, 0, TxD.none⟩
set_option maxRecDepth 100000 in
set_option maxHeartbeats 4000000 in
theorem keep_out (w : World) (p : Option Addr) (r : RpD) (dv kv : Value) (hdv : dv.oneCell' = true) (hkv : kv.oneCell' = true) (hq : p = none ∨ ¬ (0 ≤ r.client ∧ r.client ≤ 7)) :
    Calls Tryd.prog 23 #[.pointer p, rpV r dv kv] w fun e w' => e = .returned (.bool false) ∧ Below w.heap.size w w' := by
  obtain ⟨rc, rl, rs, re, rn, rx, rt, ⟨od, ok, os⟩⟩ := r
  simp only [rpV] at *
  go_enter Tryd.func23, Tryd.ntmps23
  go_wp2_with fail
  refine (look_out _ p (rqK ⟨rc, rl, rs, re, rn, rx, rt, ⟨od, ok, os⟩⟩) (.slice none 0 0) rfl hq).mono ?_
  rintro e w1 ⟨rfl, hb1⟩
  have hbw : Below w.heap.size w w1 := by ((repeat' (first | exact Below.refl _ _ | refine below_drewN ?_ _ | refine Below.drew ?_ | refine Below.alloc ?_ ?_ _ | refine Below.trans ?_ (Below.mono (by assumption) ?_))); all_goals (first | exact Nat.le_refl _ | exact Below.size (by assumption) | omega | (simp; done) | (simp; omega)))
  clear hb1
  simp only [rp0, rpV, RpD.none, ObD.none]
  go_wp2
  go_ret
  exact ⟨rfl, by ((repeat' (first | exact Below.refl _ _ | refine below_drewN ?_ _ | refine Below.drew ?_ | refine Below.alloc ?_ ?_ _ | refine Below.trans ?_ (Below.mono (by assumption) ?_))); all_goals (first | exact Nat.le_refl _ | exact Below.size (by assumption) | omega | (simp; done) | (simp; omega)))⟩
set_option maxRecDepth 100000 in
set_option maxHeartbeats 4000000 in
theorem keep_no (lo : Nat) (w : World) (p i : Nat) (f : Nat → Option RpD) (r : RpD) (dv kv : Value) (hdv : dv.oneCell' = true) (hkv : kv.oneCell' = true) (h : IsC lo w p f) (hi : i < 8) (hq : r.client = i) (hok : ∀ r, f i = some r → r.obj.okl) (hn : lookN (f i) r.life r.seq ≠ 0) :
    Calls Tryd.prog 23 #[.pointer (some ⟨p, 0, none⟩), rpV r dv kv] w fun e w' => e = .returned (.bool false) ∧ Below w.heap.size w w' := by
  obtain ⟨rc, rl, rs, re, rn, rx, rt, ⟨od, ok, os⟩⟩ := r
  simp only [rpV] at *
  have HH := Lib.hid h
  have HOK := Lib.hid hok
  have HN := Lib.hid hn
  have HQ : Hid (rc = i) := hq
  clear h hok hn hq
  go_enter Tryd.func23, Tryd.ntmps23
  go_wp2_with fail
  refine (look_any lo _ p i f (rqK ⟨rc, rl, rs, re, rn, rx, rt, ⟨od, ok, os⟩⟩) (.slice none 0 0) rfl (HH.out.ext (by ((repeat' (first | exact Below.refl _ _ | refine below_drewN ?_ _ | refine Below.drew ?_ | refine Below.alloc ?_ ?_ _ | refine Below.trans ?_ (Below.mono (by assumption) ?_))); all_goals (first | exact Nat.le_refl _ | exact Below.size (by assumption) | omega | (simp; done) | (simp; omega))))) hi HQ.out HOK.out).mono ?_
  rintro e w1 ⟨v1, rfl, ⟨dv1, kv1, rfl, hd1, hk1⟩, hb1⟩
  have hbw : Below w.heap.size w w1 := by ((repeat' (first | exact Below.refl _ _ | refine below_drewN ?_ _ | refine Below.drew ?_ | refine Below.alloc ?_ ?_ _ | refine Below.trans ?_ (Below.mono (by assumption) ?_))); all_goals (first | exact Nat.le_refl _ | exact Below.size (by assumption) | omega | (simp; done) | (simp; omega)))
  obtain ⟨da1, dc1, rfl⟩ := hd1.shape
  obtain ⟨ka1, kc1, rfl⟩ := hk1.shape
  clear hb1 hd1 hk1
  obtain ⟨N, hN, hN0⟩ : ∃ N : Nat, lookN (f i) (rqK ⟨rc, rl, rs, re, rn, rx, rt, ⟨od, ok, os⟩⟩).life (rqK ⟨rc, rl, rs, re, rn, rx, rt, ⟨od, ok, os⟩⟩).seq = N ∧ N ≠ 0 := ⟨_, rfl, HN.out⟩
  rw [hN]
  have hne : ((N : Int) != 0) = true := by simp; omega
  obtain ⟨D, hD⟩ : ∃ D, D = lookD (f i) (rqK ⟨rc, rl, rs, re, rn, rx, rt, ⟨od, ok, os⟩⟩).life (rqK ⟨rc, rl, rs, re, rn, rx, rt, ⟨od, ok, os⟩⟩).seq := ⟨_, rfl⟩
  rw [← hD]
  clear hD
  obtain ⟨rc', rl', rs', re', rn', rx', rt', ⟨od', ok', os'⟩⟩ := D
  clear hN
  simp only [rpV]
  clear HH HOK HN HQ hi
  go_wp2
  go_ret
  exact ⟨rfl, by ((repeat' (first | exact Below.refl _ _ | refine below_drewN ?_ _ | refine Below.drew ?_ | refine Below.alloc ?_ ?_ _ | refine Below.trans ?_ (Below.mono (by assumption) ?_))); all_goals (first | exact Nat.le_refl _ | exact Below.size (by assumption) | omega | (simp; done) | (simp; omega)))⟩
set_option maxRecDepth 100000 in
set_option maxHeartbeats 4000000 in
theorem keep_yes (A : Nat → Prop) (lo : Nat) (w : World) (p i : Nat) (f : Nat → Option RpD) (r : RpD) (v : Value) (hv : RpV A w v r) (hro : r.obj.okl) (h : IsC lo w p f) (hi : i < 8) (hq : r.client = i) (hok : ∀ r, f i = some r → r.obj.okl) (hn : lookN (f i) r.life r.seq = 0) :
    Calls Tryd.prog 23 #[.pointer (some ⟨p, 0, none⟩), v] w fun e w' => e = .returned (.bool true) ∧ IsC lo w' p (fun j => if j = i then some r else f j) ∧ Fr (fun k => k = p) w w' := by
  obtain ⟨rc, rl, rs, re, rn, rx, rt, ⟨od, ok, os⟩⟩ := r
  obtain ⟨dv, kv, rfl, hd, hk⟩ := hv
  obtain ⟨da, dc, rfl⟩ := hd.shape
  obtain ⟨ka, kc, rfl⟩ := hk.shape
  have HD := Lib.hid hd
  have HK := Lib.hid hk
  have HRO : Hid (ObD.okl ⟨od, ok, os⟩) := hro
  (try simp only [rpV] at *)
  have hpl := h.lt
  have HH := Lib.hid h
  have HOK := Lib.hid hok
  have HN := Lib.hid hn
  have HQ : Hid (rc = i) := hq
  clear h hok hn hq hd hk hro
  go_enter Tryd.func23, Tryd.ntmps23
  go_wp2_with fail
  refine (look_any lo _ p i f (rqK ⟨rc, rl, rs, re, rn, rx, rt, ⟨od, ok, os⟩⟩) (.slice none 0 0) rfl (HH.out.ext (by ((repeat' (first | exact Below.refl _ _ | refine below_drewN ?_ _ | refine Below.drew ?_ | refine Below.alloc ?_ ?_ _ | refine Below.trans ?_ (Below.mono (by assumption) ?_))); all_goals (first | exact Nat.le_refl _ | exact Below.size (by assumption) | omega | (simp; done) | (simp; omega))))) hi HQ.out HOK.out).mono ?_
  rintro e w1 ⟨v1, rfl, ⟨dv1, kv1, rfl, hd1, hk1⟩, hb1⟩
  have hbw : Below w.heap.size w w1 := by ((repeat' (first | exact Below.refl _ _ | refine below_drewN ?_ _ | refine Below.drew ?_ | refine Below.alloc ?_ ?_ _ | refine Below.trans ?_ (Below.mono (by assumption) ?_))); all_goals (first | exact Nat.le_refl _ | exact Below.size (by assumption) | omega | (simp; done) | (simp; omega)))
  have B0 : w1.heap[w.heap.size]? = some (.cells #[.int .i64 rc, .int .i64 rl, .int .i64 rs, .int .i64 re, .int .i64 rn, .int .i64 rx, .bool rt, .slice da od.length dc, .slice ka ok.length kc, .int .i64 os] 39 (0, 0)) := (hb1.block _ (by simp)).trans (heap_alloc_new _ _)
  have hs1 := hb1.size
  simp only [World.size_alloc] at hs1
  have hlt1 : w.heap.size < w1.heap.size := by omega
  obtain ⟨da1, dc1, rfl⟩ := hd1.shape
  obtain ⟨ka1, kc1, rfl⟩ := hk1.shape
  have hN : lookN (f i) (rqK ⟨rc, rl, rs, re, rn, rx, rt, ⟨od, ok, os⟩⟩).life (rqK ⟨rc, rl, rs, re, rn, rx, rt, ⟨od, ok, os⟩⟩).seq = 0 := HN.out
  rw [hN]
  obtain ⟨D, hD⟩ : ∃ D, D = lookD (f i) (rqK ⟨rc, rl, rs, re, rn, rx, rt, ⟨od, ok, os⟩⟩).life (rqK ⟨rc, rl, rs, re, rn, rx, rt, ⟨od, ok, os⟩⟩).seq := ⟨_, rfl⟩
  rw [← hD]
  clear hD hN hb1 hd1 hk1
  obtain ⟨rc', rl', rs', re', rn', rx', rt', ⟨od', ok', os'⟩⟩ := D
  obtain ⟨x0, f0⟩ := blk_cell (i := 0) B0
  obtain ⟨x1, f1⟩ := blk_cell (i := 1) B0
  obtain ⟨x2, f2⟩ := blk_cell (i := 2) B0
  obtain ⟨x3, f3⟩ := blk_cell (i := 3) B0
  obtain ⟨x4, f4⟩ := blk_cell (i := 4) B0
  obtain ⟨x5, f5⟩ := blk_cell (i := 5) B0
  obtain ⟨x6, f6⟩ := blk_cell (i := 6) B0
  obtain ⟨x7, f7⟩ := blk_cell (i := 7) B0
  obtain ⟨x8, f8⟩ := blk_cell (i := 8) B0
  obtain ⟨x9, f9⟩ := blk_cell (i := 9) B0
  simp at x0 x1 x2 x3 x4 x5 x6 x7 x8 x9
  have HB0 := Lib.hid B0
  have HBW := Lib.hid hbw
  clear B0 hbw
  simp only [rpV]
  go_wp2_with fail
  refine (objclone_any (fun b => A b ∧ b < w.heap.size) (.agg #[.slice da od.length dc, .slice ka ok.length kc, .int .i64 os]) ⟨od, ok, os⟩ _ ⟨_, _, rfl, (SlA.cut HD.out).mono ?_, (SlE.cut HK.out).mono ?_⟩ HRO.out).mono ?_
  · exact (Same.of_below HBW.out fun b h => h.2).alloc _
  · exact (Same.of_below HBW.out fun b h => h.2).alloc _
  rintro e w2 ⟨v2, rfl, ⟨dv2, kv2, rfl, hd2, hk2⟩, hb2⟩
  obtain ⟨da2, dc2, rfl⟩ := hd2.shape
  obtain ⟨ka2, kc2, rfl⟩ := hk2.shape
  simp only [World.size_alloc] at hb2 hd2 hk2
  have B2 := (hb2.block w.heap.size (by omega)).trans ((Below.heap_alloc _ _ _ (by omega)).trans HB0.out)
  have hs2 := hb2.size
  simp only [World.size_alloc] at hs2
  have hlt2 : w.heap.size < w2.heap.size := by omega
  have hpl2 : p < w2.heap.size := by omega
  have hbw2 : Below w.heap.size w w2 := (HBW.out.alloc (by omega) _).trans (hb2.mono (by omega))
  have HD2 := Lib.hid hd2
  have HK2 := Lib.hid hk2
  have HBW2 := Lib.hid hbw2
  clear hb2 hd2 hk2 hbw2 x0 x1 x2 x3 x4 x5 x6 x7 x8 x9 f0 f1 f2 f3 f4 f5 f6 f7 f8 f9
  obtain ⟨x0, f0⟩ := blk_cell (i := 0) B2
  obtain ⟨x1, f1⟩ := blk_cell (i := 1) B2
  obtain ⟨x2, f2⟩ := blk_cell (i := 2) B2
  obtain ⟨x3, f3⟩ := blk_cell (i := 3) B2
  obtain ⟨x4, f4⟩ := blk_cell (i := 4) B2
  obtain ⟨x5, f5⟩ := blk_cell (i := 5) B2
  obtain ⟨x6, f6⟩ := blk_cell (i := 6) B2
  obtain ⟨x7, f7⟩ := blk_cell (i := 7) B2
  obtain ⟨x8, f8⟩ := blk_cell (i := 8) B2
  obtain ⟨x9, f9⟩ := blk_cell (i := 9) B2
  simp at x0 x1 x2 x3 x4 x5 x6 x7 x8 x9
  have HC2 := Lib.hid (HH.out.ext (HBW2.out.mono (Nat.le_refl _)))
  obtain ⟨cs, hcs, hc1, hc2⟩ := HC2.out.ex
  obtain ⟨u, hu, -⟩ := hc2 i hi
  have c0 := (blk_cell (i := i) hc1).1.trans hu
  have g0 := (blk_cell (i := i) hc1).2
  have hi8 : (i : Int) < 8 := by omega
  have hi0 : (0 : Int) ≤ i := by omega
  have hrc : rc = i := HQ.out
  subst hrc
  have HCS := Lib.hid (And.intro hcs (And.intro hc1 hc2))
  clear hcs hc1 hc2 hu
  go_wp2
  go_region
  go_wp2
  go_ret
  have h3 : ∀ A' : Nat → Prop, ¬ A' w.heap.size → ∀ x y z, Same A' w2 (((w2.setCell ⟨w.heap.size, 7, none⟩ x).setCell ⟨w.heap.size, 8, none⟩ y).setCell ⟨w.heap.size, 9, none⟩ z) := fun A' h x y z =>
    Same.setCell (a := ⟨w.heap.size, 9, none⟩) (Same.setCell (a := ⟨w.heap.size, 8, none⟩) (Same.setCell (a := ⟨w.heap.size, 7, none⟩) (Same.refl _ _) h x) h y) h z
  have hlo := HH.out.lo
  refine ⟨rfl, ?_, ?_⟩
  · refine IsC.same ?_ (Same.drew (Same.refl _ _))
    refine IsC.put (r := ⟨(i : Int), rl, rs, re, rn, rx, rt, ⟨od, ok, os⟩⟩) (HH.out.keep (((Same.of_below HBW2.out fun b h => h)).trans (h3 (fun b => b < w.heap.size) (fun h => Nat.lt_irrefl _ h) _ _ _))) hi ?_ ?_
    · exact (HD2.out.mono (h3 _ (fun h => by have h : w1.heap.size + 1 ≤ w.heap.size := h; omega) _ _ _)).weak fun b _ h => ⟨by omega, by omega⟩
    · exact (HK2.out.mono (h3 _ (fun h => by have h : w1.heap.size + 1 ≤ w.heap.size := h; omega) _ _ _)).weak fun b _ h => ⟨by omega, by omega⟩
  · refine Fr.drew (Fr.setCell (S := fun k => k = p) (a := ⟨p, i, none⟩) ?_ (fun _ => rfl) _)
    refine Fr.ext ?_
    exact Below.setCell (p := ⟨w.heap.size, 9, none⟩) (Below.setCell (p := ⟨w.heap.size, 8, none⟩) (Below.setCell (p := ⟨w.heap.size, 7, none⟩) HBW2.out (Nat.le_refl _) _) (Nat.le_refl _) _) (Nat.le_refl _) _
end Go.Proofs.YtidikciankcopaaDoor
