/- The walk of terrazzoref16.Keep. -/
import Derived.Test.YtidikciankcopaaDoorRCch
namespace Go.Proofs.YtidikciankcopaaDoor
open Go.RowKit Go.WideShapes

def bad (p r : RpD) : Prop := r.client = p.client ∧ (p.life < r.life ∨ (r.life = p.life ∧ p.seq ≤ r.seq))
def others (p : RpD) (l : List RpD) : List RpD := l.filter fun r => decide (r.client ≠ p.client)
def KeepP (A : Nat → Prop) (l : List RpD) (v0 : Value) (p : RpD) (w : World) (e : Ending) (w' : World) : Prop := ∃ (b : Bool) (v : Value), e = .returned (.tuple #[v, .bool b]) ∧ Below w.heap.size w w' ∧
  ((b = false ∧ v = v0 ∧ ∃ r ∈ l, bad p r) ∨ (b = true ∧ (∀ r ∈ l, ¬ bad p r) ∧ SlE Enc.rp A w' v (others p l ++ [p])))
theorem infoReply : (Tryd.prog.info? 39).map (fun i => (i.zero, i.size, i.bytes)) = some (some (.agg #[.int .i64 0, .int .i64 0, .int .i64 0, .int .i64 0, .int .i64 0, .int .i64 0, .bool false, .slice none 0 0, .slice none 0 0, .int .i64 0]), 10, 112) := by kernel_rfl
theorem others_succ (p : RpD) (l : List RpD) (k : Nat) (hk : k < l.length) : others p (l.take (k + 1)) = if l[k].client = p.client then others p (l.take k) else others p (l.take k) ++ [l[k]] := by
  unfold others
  rw [List.take_succ_eq_append_getElem hk, List.filter_append]
  by_cases h : l[k].client = p.client
  · simp [h]
  · simp [h]
/-- a row of the call's own that holds replies -/
structure RpRow (A : Nat → Prop) (base : Nat) (w : World) (v : Value) (l : List RpD) : Prop where
  mk ::
  ex : ∃ cs : List (List Value), cs.length = l.length ∧ (∀ (i : Nat) (x : RpD) (c : List Value), l[i]? = some x → cs[i]? = some c → Enc.rp.rd A w c x) ∧ w.ownsRow base 39 10 v l.length cs.flatten
theorem RpRow.nil (A : Nat → Prop) (base : Nat) (w : World) : RpRow A base w (.slice none 0 0) [] := ⟨⟨[], rfl, fun i x c h => by simp at h, World.ownsRow_nil _ _ _ _⟩⟩
theorem RpRow.push {A : Nat → Prop} {base : Nat} {w w' : World} {v' : Value} {l : List RpD} {x : RpD} {c : List Value} {cs : List (List Value)} (h1 : cs.length = l.length) (h2 : ∀ (i : Nat) (x : RpD) (c : List Value), l[i]? = some x → cs[i]? = some c → Enc.rp.rd A w c x)
    (hs : Same A w w') (hx : Enc.rp.rd A w c x) (ho : w'.ownsRow base 39 10 v' (l.length + 1) (cs.flatten ++ c)) : RpRow A base w' v' (l ++ [x]) := by
  refine ⟨⟨cs ++ [c], by simp [h1], fun i y d hi hd => ?_, by simpa using ho⟩⟩
  by_cases hlt : i < l.length
  · rw [List.getElem?_append_left hlt] at hi
    rw [List.getElem?_append_left (by omega)] at hd
    exact Enc.rp.mono (h2 i y d hi hd) hs
  · have hil := (List.getElem?_eq_some_iff.1 hi).1
    simp only [List.length_append, List.length_singleton] at hil
    have : i = l.length := by omega
    subst this
    rw [List.getElem?_append_right (by omega)] at hi hd
    simp [h1] at hi hd
    subst hi hd
    exact Enc.rp.mono hx hs
theorem RpRow.sle {A A' : Nat → Prop} {base : Nat} {w : World} {v : Value} {l : List RpD} (h : RpRow A base w v l) (hA : ∀ b, A b → A' b) (hb : ∀ b, base ≤ b → A' b) : SlE Enc.rp A' w v l := by
  obtain ⟨cs, h1, h2, h3⟩ := h.ex
  exact SlE.of_flat h1 (fun i x c hi hc => Enc.rp.weak (h2 i x c hi hc) fun b _ hb => hA b hb) ((SlA.of_owns h3).weak hb)
theorem RpRow.drewN {A : Nat → Prop} {base : Nat} {w : World} {v : Value} {l : List RpD} (h : RpRow A base w v l) (n : Nat) : RpRow A base (w.drewN n) v l := by
  obtain ⟨cs, h1, h2, h3⟩ := h.ex
  exact ⟨⟨cs, h1, fun i x c hi hc => Enc.rp.mono (h2 i x c hi hc) (Same.of_ext (below_drewN (Below.refl _ _) _)), ownsRow_drewN h3 n⟩⟩
set_option maxRecDepth 100000 in
set_option maxHeartbeats 1600000 in
theorem rkeep_out (a : Option Addr) (n c : Nat) (p : RpD) (da : Option Addr) (dn dc : Nat) (ka : Option Addr) (kn kc : Nat) (w : World) (hq : ¬ (0 ≤ p.client ∧ p.client ≤ 7)) :
    Calls Tryd.prog 24 #[.slice a n c, rpV p (.slice da dn dc) (.slice ka kn kc)] w fun e w' => e = .returned (.tuple #[.slice a n c, .bool false]) ∧ Below w.heap.size w w' := by
  obtain ⟨pc, pl, ps, pe, pn, px, pt, ⟨pd, pk, po⟩⟩ := p
  simp only at hq
  simp only [rpV]
  by_cases h1 : pc < 0
  · clear hq
    go_enter Tryd.func24, Tryd.ntmps24
    go_wp2
    go_ret2
    exact ⟨rfl, by ((repeat' (first | exact Below.refl _ _ | refine below_drewN ?_ _ | refine Below.drew ?_ | refine Below.alloc ?_ ?_ _ | refine Below.trans ?_ (Below.mono (by assumption) ?_))); all_goals (first | exact Nat.le_refl _ | exact Below.size (by assumption) | omega | (simp; done) | (simp; omega)))⟩
  · have h2 : 7 < pc := by omega
    clear hq
    go_enter Tryd.func24, Tryd.ntmps24
    go_wp2
    go_ret2
    exact ⟨rfl, by ((repeat' (first | exact Below.refl _ _ | refine below_drewN ?_ _ | refine Below.drew ?_ | refine Below.alloc ?_ ?_ _ | refine Below.trans ?_ (Below.mono (by assumption) ?_))); all_goals (first | exact Nat.le_refl _ | exact Below.size (by assumption) | omega | (simp; done) | (simp; omega)))⟩
set_option maxRecDepth 100000 in
set_option maxHeartbeats 8000000 in
theorem rkeep_any (A : Nat → Prop) (l : List RpD) (a : Option Addr) (n c : Nat) (p : RpD) (da : Option Addr) (dn dc : Nat) (ka : Option Addr) (kn kc : Nat) (w : World) (hq : 0 ≤ p.client ∧ p.client ≤ 7) (h : SlE Enc.rp A w (.slice a n c) l) (hl : l.length ≤ 1000)
    (hd : RB A w (.slice da dn dc) p.obj.data) (hk : SlE Enc.key A w (.slice ka kn kc) p.obj.keys) (hA : ∀ b, w.heap.size ≤ b → A b) :
    Calls Tryd.prog 24 #[.slice a n c, rpV p (.slice da dn dc) (.slice ka kn kc)] w (KeepP A l (.slice a n c) p w) := by
  obtain ⟨rfl, hcp⟩ := h.len_le
  obtain ⟨i0, hi, hz0, hz1, hz2⟩ := info_parts infoReply
  have HS := Lib.hid h.cut
  have HP : Hid (Enc.rp.rd (fun b => A b ∧ b < w.heap.size) w [.int .i64 p.client, .int .i64 p.life, .int .i64 p.seq, .int .i64 p.e, .int .i64 p.n, .int .i64 p.index, .bool p.there, .slice da dn dc, .slice ka kn kc, .int .i64 p.obj.seq] p) := ⟨_, _, rfl, hd.weak fun b hb h => ⟨h, hb⟩, hk.cut⟩
  have HA := Lib.hid hA
  clear h hd hk hA
  obtain ⟨pc, pl, ps, pe, pn, px, pt, ⟨pd, pk, po⟩⟩ := p
  simp only at hq
  simp only at HP
  obtain ⟨hq0, hq7⟩ := hq
  simp only [rpV]
  have HE := fun (b : Bool) v W (h1 : Below w.heap.size w W) (h2 : (b = false ∧ v = .slice a l.length c ∧ ∃ r ∈ l, bad ⟨pc, pl, ps, pe, pn, px, pt, ⟨pd, pk, po⟩⟩ r) ∨ (b = true ∧ (∀ r ∈ l, ¬ bad ⟨pc, pl, ps, pe, pn, px, pt, ⟨pd, pk, po⟩⟩ r) ∧ SlE Enc.rp A W v (others ⟨pc, pl, ps, pe, pn, px, pt, ⟨pd, pk, po⟩⟩ l ++ [⟨pc, pl, ps, pe, pn, px, pt, ⟨pd, pk, po⟩⟩]))) => (⟨b, v, rfl, h1, h2⟩ : KeepP A l (.slice a l.length c) ⟨pc, pl, ps, pe, pn, px, pt, ⟨pd, pk, po⟩⟩ w (.returned (.tuple #[v, .bool b])) W)
  have HE := Lib.hid HE
  go_enter Tryd.func24, Tryd.ntmps24
  go_wp2
  obtain ⟨w0, hw0⟩ : ∃ w0, w0 = w.alloc (.cells #[.int .i64 pc, .int .i64 pl, .int .i64 ps, .int .i64 pe, .int .i64 pn, .int .i64 px, .bool pt, .slice da dn dc, .slice ka kn kc, .int .i64 po] 39) := ⟨_, rfl⟩
  rw [← hw0]
  have B0 : w0.heap[w.heap.size]? = some (.cells (rpC ⟨pc, pl, ps, pe, pn, px, pt, ⟨pd, pk, po⟩⟩ (.slice da dn dc) (.slice ka kn kc)) 39 (0, 0)) := by rw [hw0]; exact heap_alloc_new _ _
  have hw : Below w.heap.size w w0 := by rw [hw0]; ((repeat' (first | exact Below.refl _ _ | refine below_drewN ?_ _ | refine Below.drew ?_ | refine Below.alloc ?_ ?_ _ | refine Below.trans ?_ (Below.mono (by assumption) ?_))); all_goals (first | exact Nat.le_refl _ | exact Below.size (by assumption) | omega | (simp; done) | (simp; omega)))
  have hs0 : w0.heap.size = w.heap.size + 1 := by rw [hw0]; simp
  have HB0 := Lib.hid B0
  have HW := Lib.hid hw
  have HS0 := Lib.hid (HS.out.ext hw)
  have HP0 := Lib.hid (Enc.rp.mono HP.out (Same.of_ext hw))
  have HZ0 := Lib.hid hs0
  have hsl : w.heap.size < w0.heap.size := by omega
  clear hw0 B0 hw HS HP hs0
  go_loopw [6, 7] (fun q6 q7 wr => ∃ k : Nat, k ≤ l.length ∧ q7 = .int .i64 k ∧ Below w0.heap.size w0 wr ∧ RpRow (fun b => A b ∧ b < w.heap.size) w0.heap.size wr q6 (others ⟨pc, pl, ps, pe, pn, px, pt, ⟨pd, pk, po⟩⟩ (l.take k)) ∧ Hid (∀ r ∈ l.take k, ¬ bad ⟨pc, pl, ps, pe, pn, px, pt, ⟨pd, pk, po⟩⟩ r)) (fun _ q7 _ => l.length - (intOf q7).toNat)
  case atStart => exact ⟨0, Nat.zero_le _, rfl, Below.refl _ _, RpRow.nil _ _ _, fun r hr => by simp at hr⟩
  case round =>
    obtain ⟨k, hk, rfl, hbr, hrow, HN⟩ := hrel
    have HBR := Lib.hid hbr
    have HROW := Lib.hid hrow
    have C0 := Lib.hid (blkk hbr HB0.out)
    have hsr := hbr.size
    clear hbr hrow
    obtain ⟨x0, x1, x2, x3, x4, x5, x6, x7, x8, x9, lx⟩ := rp_cells C0.out
    simp only at x0 x1 x2 x3 x4 x5 x6 x7 x8 x9
    by_cases hlt : k < l.length
    · have hat := Rps.at (HS0.out.ext HBR.out) hlt
      have HOS := Lib.hid (others_succ ⟨pc, pl, ps, pe, pn, px, pt, ⟨pd, pk, po⟩⟩ l k hlt)
      have HMEM : Hid (l[k] ∈ l) := List.getElem_mem hlt
      have HTK : Hid (l.take (k + 1) = l.take k ++ [l[k]]) := List.take_succ_eq_append_getElem hlt
      generalize l[k] = r at *
      obtain ⟨rc, rlf, rs, re, rn, rx, rt, ⟨rd, rk, ro⟩⟩ := r
      obtain ⟨b, off, ea, ec, ga, gc, rfl, hb, hed, hek, z0, z1, z2, z3, z4, z5, z6, z7, z8, z9⟩ := hat
      simp only at hed hek z0 z1 z2 z3 z4 z5 z6 z7 z8 z9
      have HRD : Hid (Enc.rp.rd (fun b => A b ∧ b < w.heap.size) wr [.int .i64 rc, .int .i64 rlf, .int .i64 rs, .int .i64 re, .int .i64 rn, .int .i64 rx, .bool rt, .slice ea rd.length ec, .slice ga rk.length gc, .int .i64 ro] ⟨rc, rlf, rs, re, rn, rx, rt, ⟨rd, rk, ro⟩⟩) := ⟨_, _, rfl, hed, hek⟩
      clear hed hek
      by_cases e1 : rc = pc
      · subst e1
        have HOS' : Hid (others ⟨rc, pl, ps, pe, pn, px, pt, ⟨pd, pk, po⟩⟩ (l.take (k + 1)) = others ⟨rc, pl, ps, pe, pn, px, pt, ⟨pd, pk, po⟩⟩ (l.take k)) := HOS.out.trans (if_pos rfl)
        clear HOS
        by_cases e2 : pl < rlf
        · have HBAD : Hid (bad ⟨rc, pl, ps, pe, pn, px, pt, ⟨pd, pk, po⟩⟩ ⟨rc, rlf, rs, re, rn, rx, rt, ⟨rd, rk, ro⟩⟩) := ⟨rfl, .inl e2⟩
          go_wp2
          go_quiet (fail)
          go_wp2
          go_quiet (fail)
          go_wp2
          go_ret2
          exact HE.out _ _ _ (by repeat (first | exact below_call HW.out HBR.out | refine below_drewN ?_ _)) (.inl ⟨rfl, rfl, _, HMEM.out, HBAD.out⟩)
        · by_cases e3 : rlf = pl
          · subst e3
            by_cases e4 : ps ≤ rs
            · have HBAD : Hid (bad ⟨rc, rlf, ps, pe, pn, px, pt, ⟨pd, pk, po⟩⟩ ⟨rc, rlf, rs, re, rn, rx, rt, ⟨rd, rk, ro⟩⟩) := ⟨rfl, .inr ⟨rfl, e4⟩⟩
              go_wp2
              go_quiet (fail)
              go_wp2
              go_quiet (fail)
              go_wp2
              go_ret2
              exact HE.out _ _ _ (by repeat (first | exact below_call HW.out HBR.out | refine below_drewN ?_ _)) (.inl ⟨rfl, rfl, _, HMEM.out, HBAD.out⟩)
            · have HN' : Hid (∀ r ∈ l.take (k + 1), ¬ bad ⟨rc, rlf, ps, pe, pn, px, pt, ⟨pd, pk, po⟩⟩ r) := by
                intro r hr
                rw [HTK.out] at hr
                rcases List.mem_append.1 hr with hr | hr
                · exact HN.out r hr
                · simp at hr
                  subst hr
                  rintro ⟨-, h | ⟨-, h⟩⟩
                  · exact e2 h
                  · exact e4 h
              clear HN HTK
              go_wp2
              go_quiet (fail)
              go_wp2
              go_quiet (fail)
              go_wp2
              go_roundw
              case rel => exact ⟨k + 1, by omega, by go_num, by repeat (first | exact HBR.out | refine below_drewN ?_ _), by rw [HOS'.out]; first | exact HROW.out.drewN _ | exact (HROW.out.drewN _).drewN _, HN'⟩
              case measure => simp [intOf]; omega
          · have HN' : Hid (∀ r ∈ l.take (k + 1), ¬ bad ⟨rc, pl, ps, pe, pn, px, pt, ⟨pd, pk, po⟩⟩ r) := by
              intro r hr
              rw [HTK.out] at hr
              rcases List.mem_append.1 hr with hr | hr
              · exact HN.out r hr
              · simp at hr
                subst hr
                rintro ⟨-, h | ⟨h, -⟩⟩
                · exact e2 h
                · exact e3 h
            have e5 : (rlf == pl) = false := by simpa using e3
            have e6 : decide (rlf = pl) = false := by simpa using e3
            have e9 : decide (pl < rlf) = false := by simpa using e2
            clear HN HTK e3
            go_wp2
            go_quiet (fail)
            go_wp2
            go_quiet (fail)
            go_wp2
            go_roundw
            case rel => exact ⟨k + 1, by omega, by go_num, by repeat (first | exact HBR.out | refine below_drewN ?_ _), by rw [HOS'.out]; first | exact HROW.out.drewN _ | exact (HROW.out.drewN _).drewN _, HN'⟩
            case measure => simp [intOf]; omega
      · have HN' : Hid (∀ r ∈ l.take (k + 1), ¬ bad ⟨pc, pl, ps, pe, pn, px, pt, ⟨pd, pk, po⟩⟩ r) := by
          intro r hr
          rw [HTK.out] at hr
          rcases List.mem_append.1 hr with hr | hr
          · exact HN.out r hr
          · simp at hr
            subst hr
            rintro ⟨h, -⟩
            exact e1 h
        have HOS' : Hid (others ⟨pc, pl, ps, pe, pn, px, pt, ⟨pd, pk, po⟩⟩ (l.take (k + 1)) = others ⟨pc, pl, ps, pe, pn, px, pt, ⟨pd, pk, po⟩⟩ (l.take k) ++ [⟨rc, rlf, rs, re, rn, rx, rt, ⟨rd, rk, ro⟩⟩]) := HOS.out.trans (if_neg e1)
        have e7 : (rc != pc) = true := by simpa using e1
        clear HN HTK HOS
        go_wp2
        go_quiet (fail)
        obtain ⟨wx, hwx⟩ : ∃ wx, wx = wr.drewN nq := ⟨_, rfl⟩
        rw [← hwx]
        have hbx : Below wr.heap.size wr wx := by rw [hwx]; exact below_drewN (Below.refl _ _) _
        have HROW' : Hid (RpRow (fun b => A b ∧ b < w.heap.size) w0.heap.size wx u6 (others ⟨pc, pl, ps, pe, pn, px, pt, ⟨pd, pk, po⟩⟩ (l.take k))) := by show RpRow _ _ wx _ _; rw [hwx]; exact HROW.out.drewN _
        have HBX : Hid (Below w0.heap.size w0 wx) := HBR.out.trans (hbx.mono hsr)
        have HRX := Lib.hid (Enc.rp.mono HRD.out (Same.of_ext hbx))
        replace z0 := cellExt hbx z0
        replace z1 := cellExt hbx z1
        replace z2 := cellExt hbx z2
        replace z3 := cellExt hbx z3
        replace z4 := cellExt hbx z4
        replace z5 := cellExt hbx z5
        replace z6 := cellExt hbx z6
        replace z7 := cellExt hbx z7
        replace z8 := cellExt hbx z8
        replace z9 := cellExt hbx z9
        have hsx := HBX.out.size
        have hlo : (others ⟨pc, pl, ps, pe, pn, px, pt, ⟨pd, pk, po⟩⟩ (l.take k)).length ≤ 1000 := Nat.le_trans (Nat.le_trans (List.length_filter_le _ _) (by rw [List.length_take]; exact Nat.min_le_right _ _)) hl
        have HLO := Lib.hid hlo
        obtain ⟨cs, hc1, hc2, hc3⟩ := HROW'.out.ex
        have HC1 := Lib.hid hc1
        have HC2 := Lib.hid hc2
        have HC3 := Lib.hid hc3
        clear hwx hbx HROW HBR HRD x0 x1 x2 x3 x4 x5 x6 x7 x8 x9 hlo hc1 hc2 hc3 HROW'
        go_wp2_with (first | (at_builtin; refine wpList_append_own _ rfl _ _ 60 rfl w0.heap.size 39 i0 (.agg #[.int .i64 0, .int .i64 0, .int .i64 0, .int .i64 0, .int .i64 0, .int .i64 0, .bool false, .slice none 0 0, .slice none 0 0, .int .i64 0]) 10 112 Tryd.underlying60 hi hz0 hz1 hz2 rfl (by decide) _ _ _ rfl (HC3.out.alloc _) ⟨wx.heap.size, 0, none⟩ 1 1 [.int .i64 rc, .int .i64 rlf, .int .i64 rs, .int .i64 re, .int .i64 rn, .int .i64 rx, .bool rt, .slice ea rd.length ec, .slice ga rk.length gc, .int .i64 ro] rfl rfl (cells_new wx [.int .i64 rc, .int .i64 rlf, .int .i64 rs, .int .i64 re, .int .i64 rn, .int .i64 rx, .bool rt, .slice ea rd.length ec, .slice ga rk.length gc, .int .i64 ro] _) ?c1 ?c2 ?c3 ?c4 ?_) | go_in)
        case c1 =>
          intro u hu
          simp at hu
          rcases hu with rfl | rfl | rfl | rfl | rfl | rfl | rfl | rfl | rfl | rfl <;> rfl
        case c2 => have := HLO.out; unfold maxLen; omega
        case c3 => have := HLO.out; omega
        case c4 => simp; omega
        intro v3 w3 ho hg hn
        have HRN := Lib.hid (RpRow.push (A := fun b => A b ∧ b < w.heap.size) HC1.out HC2.out (Same.of_below (((Below.refl w0.heap.size wx).alloc hsx _).grown hg (by simp; omega) fun j hj => (HC3.out.lt j hj).1) fun b hb => by have := hb.2; omega) HRX.out ho)
        have HB3 : Hid (Below w0.heap.size w0 w3) := HBX.out.trans (((Below.refl w0.heap.size wx).alloc hsx _).grown hg (by simp; omega) fun j hj => (HC3.out.lt j hj).1)
        clear ho hg hn HC1 HC2 HC3 HRX HBX
        go_wp2
        go_roundw
        case rel => exact ⟨k + 1, by omega, by go_num, HB3.out, by rw [HOS'.out]; exact HRN.out, HN'⟩
        case measure => simp [intOf]; omega
    · have hfin : l.take k = l := List.take_of_length_le (by omega)
      rw [hfin] at HN HROW
      clear hfin
      have hlo : (others ⟨pc, pl, ps, pe, pn, px, pt, ⟨pd, pk, po⟩⟩ l).length ≤ 1000 := Nat.le_trans (List.length_filter_le _ _) hl
      have HLO := Lib.hid hlo
      obtain ⟨cs, hc1, hc2, hc3⟩ := HROW.out.ex
      have HC1 := Lib.hid hc1
      have HC2 := Lib.hid hc2
      have HC3 := Lib.hid hc3
      have HPR := Lib.hid (Enc.rp.mono HP0.out (Same.of_ext HBR.out))
      clear hlo hc1 hc2 hc3 HROW
      go_wp2_with (first | (at_builtin; refine wpList_append_own _ rfl _ _ 60 rfl w0.heap.size 39 i0 (.agg #[.int .i64 0, .int .i64 0, .int .i64 0, .int .i64 0, .int .i64 0, .int .i64 0, .bool false, .slice none 0 0, .slice none 0 0, .int .i64 0]) 10 112 Tryd.underlying60 hi hz0 hz1 hz2 rfl (by decide) _ _ _ rfl (HC3.out.alloc _) ⟨wr.heap.size, 0, none⟩ 1 1 [.int .i64 pc, .int .i64 pl, .int .i64 ps, .int .i64 pe, .int .i64 pn, .int .i64 px, .bool pt, .slice da dn dc, .slice ka kn kc, .int .i64 po] rfl rfl (cells_new wr [.int .i64 pc, .int .i64 pl, .int .i64 ps, .int .i64 pe, .int .i64 pn, .int .i64 px, .bool pt, .slice da dn dc, .slice ka kn kc, .int .i64 po] _) ?f1 ?f2 ?f3 ?f4 ?_) | go_in)
      case f1 =>
        intro u hu
        simp at hu
        rcases hu with rfl | rfl | rfl | rfl | rfl | rfl | rfl | rfl | rfl | rfl <;> rfl
      case f2 => have := HLO.out; unfold maxLen; omega
      case f3 => have := HLO.out; omega
      case f4 => simp; omega
      intro v3 w3 ho hg hn
      have HRN := Lib.hid (RpRow.push (A := fun b => A b ∧ b < w.heap.size) HC1.out HC2.out (Same.of_below (((Below.refl w0.heap.size wr).alloc hsr _).grown hg (by simp; omega) fun j hj => (HC3.out.lt j hj).1) fun b hb => by have := hb.2; omega) HPR.out ho)
      have HB3 : Hid (Below w0.heap.size w0 w3) := HBR.out.trans (((Below.refl w0.heap.size wr).alloc hsr _).grown hg (by simp; omega) fun j hj => (HC3.out.lt j hj).1)
      clear ho hg hn HC1 HC2 HC3 HPR
      go_wp2
      go_ret2
      exact HE.out true v3 w3 (below_call HW.out HB3.out) (.inr ⟨rfl, HN.out, HRN.out.sle (fun b hb => hb.1) (fun b hb => HA.out b (by omega))⟩)
end Go.Proofs.YtidikciankcopaaDoor
