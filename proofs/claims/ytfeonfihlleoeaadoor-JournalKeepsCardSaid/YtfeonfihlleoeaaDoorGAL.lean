/- The walks of terrazzoref08.May and At. Rows of bytes of the call's own: append of one byte, append of a row, a byte written. No function is named. The walk of terrazzoref08.data: a write. -/
import Derived.Test.YtfeonfihlleoeaaDoorGAJ
import Derived.Test.YtfeonfihlleoeaaDoorGAK
import Derived.Test.YtfeonfihlleoeaaDoorGAC
import Derived.Test.YtfeonfihlleoeaaDoorGAI
namespace Go.Proofs.YtfeonfihlleoeaaDoor
open Go.RowKit Go.WideShapes

theorem may_no {o : ObD} {k : Nat} (hlt : k < o.keys.length) (h : chkAt o.keys k = false) : mayB o = false := by
  cases hm : mayB o with
  | false => rfl
  | true =>
    unfold mayB at hm
    rw [Bool.and_eq_true] at hm
    rw [chkTo_at hm.2 k hlt] at h
    cases h
set_option maxRecDepth 100000 in
set_option maxHeartbeats 4000000 in
theorem rmay8_any (A : Nat → Prop) (v : Value) (o : ObD) (w : World) (hv : ObV A w v o) (hl : o.keys.length ≤ 100000) :
    Calls Tryd.prog 40 #[v] w (Says (mayB o) w) := by
  obtain ⟨dv, kv, rfl, hd, hk⟩ := hv
  obtain ⟨da, dc, rfl⟩ := hd.shape
  obtain ⟨ka, kc, rfl⟩ := hk.shape
  have HM : Hid (∀ k, k < o.keys.length → chkAt o.keys k = false → mayB o = false) := Lib.hid fun k => may_no
  have HMY : Hid (headB o = true → chkTo o.keys o.keys.length = true → mayB o = true) := Lib.hid fun h1 h2 => by unfold mayB; rw [h1, h2]; rfl
  have HMN : Hid (headB o = false → mayB o = false) := Lib.hid fun h => by unfold mayB; rw [h]; rfl
  have hc := headC o
  generalize mayB o = M at *
  generalize hhb : headB o = hb at *
  have HH := Lib.hid hhb
  clear hhb
  obtain ⟨od, ks, os⟩ := o
  simp only at *
  have HK := Lib.hid hk
  clear hd hk
  rcases hc with ⟨d1, d2, d3, d4⟩ | ⟨d1⟩ | ⟨d1, d2⟩ | ⟨d1, d2, d3⟩ | ⟨d1, d2, d3, d4⟩
  case no1 | no2 | no3 | no4 =>
    go_enter Tryd.func40, Tryd.ntmps40
    go_wp2
    go_ret
    exact ⟨ret_bool (HMN.out (by trivial)).symm, by ((repeat' (first | exact Below.refl _ _ | refine below_drewN ?_ _ | refine Below.drew ?_ | refine Below.alloc ?_ ?_ _ | refine Below.trans ?_ (Below.mono (by assumption) ?_))); all_goals (first | exact Nat.le_refl _ | exact Below.size (by assumption) | omega | (simp; done) | (simp; omega)))⟩
  go_enter Tryd.func40, Tryd.ntmps40
  go_wp2
  obtain ⟨w0, hw0⟩ : ∃ w0, w0 = w.alloc (.cells #[.slice da od.length dc, .slice ka ks.length kc, .int .i64 os] 39) := ⟨_, rfl⟩
  rw [← hw0]
  have hw : Below w.heap.size w w0 := by rw [hw0]; ((repeat' (first | exact Below.refl _ _ | refine below_drewN ?_ _ | refine Below.drew ?_ | refine Below.alloc ?_ ?_ _ | refine Below.trans ?_ (Below.mono (by assumption) ?_))); all_goals (first | exact Nat.le_refl _ | exact Below.size (by assumption) | omega | (simp; done) | (simp; omega)))
  have B0 : w0.heap[w.heap.size]? = some (.cells #[.slice da od.length dc, .slice ka ks.length kc, .int .i64 os] 39 (0, 0)) := by rw [hw0]; exact heap_alloc_new _ _
  have HW := Lib.hid hw
  have HK0 := Lib.hid (HK.out.ext hw)
  obtain ⟨x1, f1⟩ := blk_cell (i := 1) B0
  simp at x1
  clear hw hw0 B0 HK
  go_loopw [3] (fun q wr => ∃ k : Nat, k ≤ ks.length ∧ q = .int .i64 k ∧ chkTo ks k = true ∧ ∃ n, wr = w0.drewN n) (fun q _ => ks.length - (intOf q).toNat)
  case atStart => exact ⟨0, Nat.zero_le _, rfl, rfl, 0, rfl⟩
  case round =>
    obtain ⟨k, hk, rfl, hto, nq, rfl⟩ := hrel
    have HTO := Lib.hid hto
    clear hto
    by_cases hlt : k < ks.length
    · obtain ⟨b, off, v, rfl, hb, -, c3, c4, hv⟩ := Keys.at HK0.out hlt
      obtain ⟨va, vc, rfl⟩ := hv.shape
      clear hv
      have HCA : Hid (chkAt ks k = (keyB ks[k] && ordB ks k)) := chkAt_eq hlt
      have HNO : Hid (chkAt ks k = false → M = false) := Lib.hid fun h => HM.out k hlt h
      have HYE : Hid (chkAt ks k = true → chkTo ks (k + 1) = true) := Lib.hid fun h => by simp [chkTo, HTO.out, h]
      have hord : Hid (∀ j, k = j + 1 → ∃ pn, ordB ks k = ltS pn (ks[k]).name ∧ w0.cell? ⟨b, off + j * 2, none⟩ = some (.string pn)) := by
        intro j hj
        subst hj
        obtain ⟨b', off', v', e', -, -, c3', -, -⟩ := Keys.at HK0.out (i := j) (by omega)
        simp only [Option.some.injEq, Addr.mk.injEq] at e'
        obtain ⟨rfl, rfl, -⟩ := e'
        exact ⟨_, ordB_succ hlt, c3'⟩
      generalize hky : ks[k] = ky at *
      clear hky
      go_wp2_with fail
      refine (rname_any _ _).mono ?_
      rintro e w' ⟨rfl, rfl⟩
      cases hn : nameB ky.name with
      | false =>
        have HX : Hid (M = false) := Lib.hid (HNO.out (by rw [HCA.out]; simp [keyB, hn]))
        clear hn
        go_wp2
        go_big_quiet (fail)
        go_wp2
        go_ret
        exact ⟨ret_bool HX.out.symm, below_drewN (below_drewN HW.out _) _⟩
      | true =>
        by_cases hv : (ky.value.length : Int) ≤ 2048
        · have HKB : Hid (keyB ky = true) := by show keyB ky = true; simp only [keyB, hn, Bool.true_and, decide_eq_true_eq]; omega
          have hvd : decide ((2048 : Int) < ky.value.length) = false := by simp; omega
          clear hn
          rcases Nat.eq_zero_or_pos k with h0 | hp
          · have HO : Hid (ordB ks k = true) := by show ordB ks k = true; rw [h0]; rfl
            have HX : Hid (chkTo ks (k + 1) = true) := Lib.hid (HYE.out (by rw [HCA.out, HKB.out, HO.out]; rfl))
            subst h0
            simp only [Nat.zero_mul, Nat.add_zero, Int.ofNat_zero] at *
            go_wp2
            go_big_quiet (fail)
            go_wp2
            go_roundw
            case rel => exact ⟨1, by omega, by go_num, HX.out, _, rfl⟩
            case measure => simp [intOf]; omega
          · obtain ⟨j, hj⟩ : ∃ j, k = j + 1 := ⟨k - 1, by omega⟩
            obtain ⟨pn, e1, z0⟩ := hord.out j hj
            have hk0 : decide ((0 : Int) < k) = true := by simp; omega
            have hk1 : decide (0 < k) = true := by simp; omega
            have hw1 : IntKind.i64.wrap ((k : Int) - 1) = (j : Int) := by rw [IntKind.wrap_i64]; omega
            have hjl : (j : Int) < ks.length := by omega
            cases hlt2 : Op.bytesLess pn.toList ky.name.toList with
            | true =>
              have HO : Hid (ordB ks k = true) := e1.trans hlt2
              have HX : Hid (chkTo ks (k + 1) = true) := Lib.hid (HYE.out (by rw [HCA.out, HKB.out, HO.out]; rfl))
              clear e1 hj
              go_wp2
              go_big_quiet (fail)
              go_wp2
              go_roundw
              case rel => exact ⟨k + 1, by omega, by go_num, HX.out, _, rfl⟩
              case measure => simp [intOf]; omega
            | false =>
              have HO : Hid (ordB ks k = false) := e1.trans hlt2
              have HX : Hid (M = false) := Lib.hid (HNO.out (by rw [HCA.out, HKB.out, HO.out]; rfl))
              clear e1 hj
              go_wp2
              go_big_quiet (fail)
              go_wp2
              go_ret
              exact ⟨ret_bool HX.out.symm, below_drewN (below_drewN HW.out _) _⟩
        · have HKB : Hid (keyB ky = false) := by show keyB ky = false; simp only [keyB, hn, Bool.true_and, decide_eq_false_iff_not]; omega
          have HX : Hid (M = false) := Lib.hid (HNO.out (by rw [HCA.out, HKB.out]; rfl))
          have hvd : decide ((2048 : Int) < ky.value.length) = true := by simp; omega
          clear hn
          go_wp2
          go_big_quiet (fail)
          go_wp2
          go_ret
          exact ⟨ret_bool HX.out.symm, below_drewN (below_drewN HW.out _) _⟩
    · obtain rfl : k = ks.length := by omega
      go_wp2
      go_ret
      exact ⟨ret_bool (HMY.out (by trivial) HTO.out).symm, below_drewN HW.out _⟩
end Go.Proofs.YtfeonfihlleoeaaDoor
namespace Go.Proofs.YtfeonfihlleoeaaDoor
open Go.RowKit Go.WideShapes

section
variable {ops : Array Oper} {rest : List Oper} {o : Oper} {a : Act} {Q : Exit → Act → World → Prop}
/-- 'append(out, b)' -/
theorem wpList_pushB (W : World) (hgd : o.guard = none) (s x : Operand) (ho : o.op = .call { callee := .builtin .append, args := #[s, x], argTypes := #[22, 22] })
    (base : Nat) (v : Value) (l : List UInt8) (hs : a.eval s = v) (hown : OB base W v l) (c : List Value) (tt : TypeId) (y : UInt8) (hc : c = [bv y])
    (hx : a.eval x = .slice (some ⟨W.heap.size, 0, none⟩) 1 1) (hl : l.length ≤ 1000000) (hbase : base ≤ W.heap.size)
    (h : ∀ v' w', OB base w' v' (l ++ [y]) → Below base W w' → wpList Tryd.prog ops Q rest (a.put o.dst v') w') : wpList Tryd.prog ops Q (o :: rest) a (W.alloc (.cells c.toArray tt)) := by
  obtain ⟨i0, hi, hz0, hz1, hz2⟩ := info_parts infoByte
  subst hc
  have hal : Below W.heap.size W (W.alloc (.cells [bv y].toArray tt)) := (Below.refl _ _).alloc (Nat.le_refl _) _
  refine wpList_append_own _ hgd s x 22 ho base 5 i0 (.int .u8 0) 1 1 Tryd.underlying22 hi hz0 hz1 hz2 rfl (by decide) v l.length (l.map bv) hs (owns_ext hown hal) ⟨W.heap.size, 0, none⟩ 1 1 [bv y] hx rfl (cells_new W [bv y] tt) (one_bytes [y]) (by unfold maxLen; omega) (by omega) (Nat.le_trans hbase hal.size) ?_
  intro v' w' h4 h5 _
  exact h v' w' (OB.cast h4 (by simp) (by simp)) (((Below.refl base W).alloc hbase _).grown h5 (by simp; omega) fun j hj => (hown.lt j hj).1)
/-- 'append(out, src...)' -/
theorem wpList_appB (w : World) (hgd : o.guard = none) (s x : Operand) (ho : o.op = .call { callee := .builtin .append, args := #[s, x], argTypes := #[22, 22] })
    (base : Nat) (v : Value) (l : List UInt8) (hs : a.eval s = v) (hown : OB base w v l) (A : Nat → Prop) (sv : Value) (m : List UInt8)
    (hx : a.eval x = sv) (hsl : RB A w sv m) (hl : l.length + m.length ≤ 1000000) (hbase : base ≤ w.heap.size)
    (h : ∀ v' w', OB base w' v' (l ++ m) → Below base w w' → wpList Tryd.prog ops Q rest (a.put o.dst v') w') : wpList Tryd.prog ops Q (o :: rest) a w := by
  obtain ⟨i0, hi, hz0, hz1, hz2⟩ := info_parts infoByte
  refine wpList_append_sl hgd s x 22 ho base 5 i0 (.int .u8 0) 1 1 Tryd.underlying22 hi hz0 hz1 hz2 rfl (by decide) v l.length (l.map bv) hs hown A sv m.length (m.map bv) hx hsl (one_bytes m) (by unfold maxLen; omega) (by omega) hbase ?_
  intro v' w' h4 h5
  exact h v' w' (OB.cast h4 (by simp) (by simp)) ((Below.refl base w).grown h5 hbase fun j hj => (hown.lt j hj).1)
end
/-- a byte of a row of the call's own is written -/
theorem OB.set {base g n c : Nat} {w : World} {l : List UInt8} (h : OB base w (.slice (some ⟨g, 0, none⟩) n c) l) (j : Nat) (b : UInt8) : OB base (w.setCell ⟨g, j, none⟩ (bv b)) (.slice (some ⟨g, 0, none⟩) n c) (l.set j b) := by
  have hn : n = l.length := by
    rcases h.2 with ⟨e, -⟩ | ⟨g', c', u', e, -⟩
    · simp at e
    · simp only [Value.slice.injEq] at e; exact e.2.1
  subst hn
  exact OB.cast (owns_set h j (bv b)) (by simp) (by rw [List.map_set])
/-- where a row of the call's own that has bytes lies -/
theorem OB.lies {base : Nat} {w : World} {v : Value} {l : List UInt8} (h : OB base w v l) (h0 : 0 < l.length) : ∃ g c, v = .slice (some ⟨g, 0, none⟩) l.length c ∧ base ≤ g ∧ g < w.heap.size ∧ l.length ≤ c ∧ (∀ k, k < l.length → w.cell? ⟨g, k, none⟩ = (l.map bv)[k]?) ∧ ∀ k, w.frozen? ⟨g, k, none⟩ = false := by
  have h' := h
  rcases h.2 with ⟨_, e⟩ | ⟨g, c, cur, rfl, hb, hg, hn, -⟩
  · omega
  · refine ⟨g, c, rfl, hb, (Array.getElem?_eq_some_iff.1 hg).1, hn, fun k hk => ?_, fun k => (blk_cell hg).2⟩
    have := World.ownsRow.cellAt h' k (by omega)
    simpa using this
end Go.Proofs.YtfeonfihlleoeaaDoor
namespace Go.Proofs.YtfeonfihlleoeaaDoor
open Go.RowKit Go.WideShapes

def vlen : Value → Nat
  | .slice _ n _ => n
  | _ => 0
/-- whether a place may be: the ways -/
theorem spot_ways (off n : Int) :
    (spotB off n = true ∧ 0 ≤ off ∧ off ≤ 64 ∧ 0 ≤ n ∧ n ≤ 64 ∧ off + n ≤ 64) ∨ (spotB off n = false ∧ off < 0) ∨ (spotB off n = false ∧ 0 ≤ off ∧ 64 < off) ∨ (spotB off n = false ∧ 0 ≤ off ∧ off ≤ 64 ∧ n < 0) ∨
    (spotB off n = false ∧ 0 ≤ off ∧ off ≤ 64 ∧ 0 ≤ n ∧ 64 < n) ∨ (spotB off n = false ∧ 0 ≤ off ∧ off ≤ 64 ∧ 0 ≤ n ∧ n ≤ 64 ∧ 64 < off + n) := by
  cases h : spotB off n with
  | true =>
    simp only [spotB, Bool.and_eq_true, decide_eq_true_eq] at h
    exact .inl ⟨rfl, by omega, by omega, by omega, by omega, by omega⟩
  | false =>
    by_cases h1 : off < 0
    · exact .inr (.inl ⟨rfl, h1⟩)
    · by_cases h2 : 64 < off
      · exact .inr (.inr (.inl ⟨rfl, by omega, h2⟩))
      · by_cases h3 : n < 0
        · exact .inr (.inr (.inr (.inl ⟨rfl, by omega, by omega, h3⟩)))
        · by_cases h4 : 64 < n
          · exact .inr (.inr (.inr (.inr (.inl ⟨rfl, by omega, by omega, by omega, h4⟩))))
          · refine .inr (.inr (.inr (.inr (.inr ⟨rfl, by omega, by omega, by omega, by omega, ?_⟩))))
            by_cases h5 : 64 < off + n
            · exact h5
            · exfalso
              have : spotB off n = true := by
                simp only [spotB, Bool.and_eq_true, decide_eq_true_eq]
                omega
              rw [this] at h
              cases h
theorem GetRR.ok {A : Nat → Prop} {base n c : Nat} {a : Option Addr} {l : List UInt8} {w w' : World} (hle : w.heap.size ≤ base) (h : OB base w' (.slice a n c) l) (hb : Below w.heap.size w w') : GetRR A (some l) w (.returned (.tuple #[.slice a n c, .bool true])) w' := by
  refine ⟨_, _, _, rfl, h.rb.weak fun _ _ h => .inr (Nat.le_trans hle h), ?_, hb⟩
  obtain ⟨a', c', e⟩ := h.rb.shape
  simp only [Value.slice.injEq] at e
  exact e.2.1
theorem five_cells {w : World} {p : Nat} {a b c d e : Value} {t : TypeId} (h : w.heap[p]? = some (.cells #[a, b, c, d, e] t (0, 0))) :
    w.cell? ⟨p, 0, none⟩ = some a ∧ w.cell? ⟨p, 1, none⟩ = some b ∧ w.cell? ⟨p, 2, none⟩ = some c ∧ w.cell? ⟨p, 3, none⟩ = some d ∧ w.cell? ⟨p, 4, none⟩ = some e :=
  ⟨(blk_cell h).1, (blk_cell h).1, (blk_cell h).1, (blk_cell h).1, (blk_cell h).1⟩
theorem GetRR.no {A : Nat → Prop} {w w' : World} (hb : Below w.heap.size w w') : GetRR A none w (.returned (.tuple #[.slice none 0 0, .bool false])) w' := ⟨_, _, _, rfl, RB.nil _ _, rfl, hb⟩
theorem mixW_set (D x : List UInt8) (f k : Nat) (hk : k < x.length) (hD : f + x.length ≤ D.length) : (D.take f ++ x.take k ++ D.drop (f + k)).set (f + k) x[k] = D.take f ++ x.take (k + 1) ++ D.drop (f + (k + 1)) := by
  have h1 : (D.take f ++ x.take k).length = f + k := by simp; omega
  rw [List.set_append_right _ _ (by omega), h1, Nat.sub_self, List.drop_eq_getElem_cons (by omega : f + k < D.length), List.set_cons_zero, List.take_succ_eq_append_getElem hk, Nat.add_assoc]
  simp only [List.append_assoc, List.singleton_append]
set_option maxRecDepth 100000 in
set_option maxHeartbeats 8000000 in
theorem rdata_write (A B : Nat → Prop) (da : Option Addr) (dc : Nat) (d : List UInt8) (off n : Int) (nm : ByteArray) (oa : Option Addr) (oc : Nat) (x : List UInt8) (w : World)
    (hd : RB A w (.slice da d.length dc) d) (hx : RB B w (.slice oa x.length oc) x) (hl : d.length ≤ 1000) (hxl : x.length ≤ 50000) :
    Calls Tryd.prog 61 #[.slice da d.length dc, opV 5 off n nm oa x.length oc] w (GetRR A (if spotB off x.length then some (writeD d off.toNat x) else none) w) := by
  have HD := Lib.hid hd
  have HX := Lib.hid hx
  unfold opV
  clear hd hx
  rcases spot_ways off x.length with ⟨hs, h1, h2, h3, h4, h5⟩ | ⟨hs, h1⟩ | ⟨hs, h1, h2⟩ | ⟨hs, h1, h2, h3⟩ | ⟨hs, h1, h2, h3, h4⟩ | ⟨hs, h1, h2, h3, h4, h5⟩
  case inr.inr.inr.inl => omega
  case inr.inl | inr.inr.inl | inr.inr.inr.inr.inl | inr.inr.inr.inr.inr =>
    rw [hs]
    clear hs
    go_enter Tryd.func61, Tryd.ntmps61
    go_wp2_with (first | (at_builtin; refine wpList_appB _ rfl _ _ rfl (w.heap.size + 1) _ [] (by rfl) (OB.nil _ _) A _ d (by rfl) (RB.ext HD.out ((Below.refl _ _).alloc (Nat.le_refl _) _)) (by simp; omega) (by simp) ?_; intro v1 w1 ho1 hb1; rw [List.nil_append] at ho1; obtain ⟨va1, vc1, rfl⟩ := ho1.rb.shape; have hcap1 := RB.capl ho1.rb; skip; have K1 := (hb1.block _ (Nat.lt_succ_self _)).trans (heap_alloc_new w _); obtain ⟨z0, z1, z2, z3, z4⟩ := five_cells K1; have HK1 := Lib.hid K1; have HO1 := Lib.hid ho1; have HW1 := Lib.hid (((Below.refl _ w).alloc (Nat.le_refl _) _).trans (hb1.mono (by simp))); have HB1 := Lib.hid hb1; clear ho1 hb1 K1) | go_in)
    go_wp2
    go_ret2
    exact GetRR.no HW1.out
  obtain ⟨f, rfl⟩ : ∃ f : Nat, off = f := ⟨off.toNat, by omega⟩
  rw [hs, if_pos rfl]
  have HR : Hid (writeD d (f : Int).toNat x = ((d ++ List.replicate (f + x.length - d.length) 0).take f ++ x ++ (d ++ List.replicate (f + x.length - d.length) (0 : UInt8)).drop (f + x.length))) := Lib.hid (write_eq d x f).symm
  generalize writeD d (f : Int).toNat x = R at *
  clear hs
  go_enter Tryd.func61, Tryd.ntmps61
  go_wp2_with (first | (at_builtin; refine wpList_appB _ rfl _ _ rfl (w.heap.size + 1) _ [] (by rfl) (OB.nil _ _) A _ d (by rfl) (RB.ext HD.out ((Below.refl _ _).alloc (Nat.le_refl _) _)) (by simp; omega) (by simp) ?_; intro v1 w1 ho1 hb1; rw [List.nil_append] at ho1; obtain ⟨va1, vc1, rfl⟩ := ho1.rb.shape; have hcap1 := RB.capl ho1.rb; skip; have K1 := (hb1.block _ (Nat.lt_succ_self _)).trans (heap_alloc_new w _); obtain ⟨z0, z1, z2, z3, z4⟩ := five_cells K1; have HK1 := Lib.hid K1; have HO1 := Lib.hid ho1; have HW1 := Lib.hid (((Below.refl _ w).alloc (Nat.le_refl _) _).trans (hb1.mono (by simp))); have HB1 := Lib.hid hb1; clear ho1 hb1 K1) | go_in)
  go_wp2
  obtain ⟨b1, hb1e⟩ : ∃ b1, b1 = w.heap.size + 1 := ⟨_, rfl⟩
  have HBE := Lib.hid hb1e
  rw [← hb1e] at HO1
  have hb1s : b1 ≤ w1.heap.size := by have := (Array.getElem?_eq_some_iff.1 HK1.out).1; omega
  clear hb1e HB1 z0 z1 z2 z3 z4
  go_loopw [6] (fun q wr => ∃ t, t ≤ f + x.length - d.length ∧ OB b1 wr q (d ++ List.replicate t 0) ∧ Below b1 w1 wr) (fun q _ => (f + x.length) - vlen q)
  case atStart => exact ⟨0, Nat.zero_le _, by simpa using HO1.out, Below.refl _ _⟩
  case round =>
    obtain ⟨t, ht, hor, hbr⟩ := hrel
    have HOR := Lib.hid hor
    have HBR := Lib.hid hbr
    have hbs : b1 ≤ wr.heap.size := Nat.le_trans hb1s hbr.size
    have K2 := (hbr.block w.heap.size (by have := HBE.out; omega)).trans HK1.out
    have HK2 := Lib.hid K2
    obtain ⟨z0, z1, z2, z3, z4⟩ := five_cells K2
    obtain ⟨ga, gc, e⟩ := hor.rb.shape
    rw [List.length_append, List.length_replicate] at e
    subst e
    clear hor hbr K2
    by_cases hlt : d.length + t < f + x.length
    · have hlt' : ((d.length : Int) + t) < f + x.length := by omega
      go_wp2_with (first | (at_builtin; refine wpList_pushB _ rfl _ _ rfl b1 _ (d ++ List.replicate t 0) (by rfl) HOR.out [.int .u8 0] _ 0 rfl (by rfl) (by simp; omega) hbs ?_; intro v2 w2 ho2 hb2) | go_in)
      have HO2 := Lib.hid ho2
      have HB2 := Lib.hid (HBR.out.trans hb2)
      obtain ⟨ga2, gc2, e2⟩ := ho2.rb.shape
      clear ho2 hb2
      go_roundw
      case rel => exact ⟨t + 1, by omega, by have h := HO2.out; rw [List.append_assoc] at h; rw [List.replicate_succ']; exact h, HB2.out⟩
      case measure => rw [e2]; simp [vlen]; omega
    · obtain ⟨D, hD⟩ : ∃ D, D = d ++ List.replicate t (0 : UInt8) := ⟨_, rfl⟩
      obtain ⟨L, hL⟩ : ∃ L, L = d.length + t := ⟨_, rfl⟩
      have HDL : Hid (D.length = L) := Lib.hid (by rw [hD, hL]; simp)
      have HRD : Hid (R = D.take f ++ x ++ D.drop (f + x.length)) := Lib.hid (by rw [HR.out, hD, show f + x.length - d.length = t by omega])
      have hfx : f + x.length ≤ L := by omega
      rw [← hD, ← hL] at HOR
      rw [← hL]
      obtain ⟨w2, hw2⟩ : ∃ w2, w2 = wr := ⟨_, rfl⟩
      subst hw2
      have hLs : L ≤ 2000 := by omega
      clear ht hlt hD hL HR HO1
      have hnl : ¬ (L : Int) < (f : Int) + x.length := by omega
      go_wp2
      go_loopw [9] (fun q wr => ∃ k : Nat, k ≤ x.length ∧ q = .int .i64 k ∧ OB b1 wr (.slice ga L gc) (D.take f ++ x.take k ++ D.drop (f + k)) ∧ Below b1 w2 wr) (fun q _ => x.length - (intOf q).toNat)
      case atStart => exact ⟨0, Nat.zero_le _, rfl, by simpa using HOR.out, Below.refl _ _⟩
      case round =>
        obtain ⟨k, hk, rfl, hor3, hbr3⟩ := hrel
        have HO3 := Lib.hid hor3
        have HB3 := Lib.hid hbr3
        have hbs3 : b1 ≤ wr.heap.size := Nat.le_trans hbs hbr3.size
        have K3 := (hbr3.block w.heap.size (by have := HBE.out; omega)).trans HK2.out
        have HK3 := Lib.hid K3
        clear z0 z1 z2 z3 z4
        obtain ⟨z0, z1, z2, z3, z4⟩ := five_cells K3
        clear hor3 hbr3 K3
        by_cases hlt : k < x.length
        · have hll : 0 < (D.take f ++ x.take k ++ D.drop (f + k)).length := by have := HDL.out; simp; omega
          obtain ⟨g, c', e, hg1, hg2, -, hcc, hff⟩ := HO3.out.lies hll
          simp only [Value.slice.injEq] at e
          obtain ⟨rfl, -, -⟩ := e
          have hwb : w.heap.size ≤ b1 := by have := HBE.out; omega
          have HXR := Lib.hid (RB.ext HX.out ((HW1.out.trans (HBR.out.mono hwb)).trans (HB3.out.mono hwb)))
          obtain ⟨bx, ofs, rfl, hbx, -, hxc, hxx⟩ := HXR.out.lie (by omega)
          have xk : wr.cell? ⟨bx, ofs + k, none⟩ = some (.int .u8 x[k].toNat) := (hxx k hlt).trans (bv_at hlt)
          have yk : wr.cell? ⟨g, f + k, none⟩ = some (.int .u8 ((D.take f ++ x.take k ++ D.drop (f + k))[f + k]'(by have := HDL.out; simp; omega)).toNat) := (hcc (f + k) (by have := HDL.out; simp; omega)).trans (bv_at _)
          have fk := hff (f + k)
          have HS3 := Lib.hid (HO3.out.set (f + k) x[k])
          rw [mixW_set D x f k hlt (by have := HDL.out; omega)] at HS3
          have HB4 : Hid (Below b1 w2 (wr.setCell ⟨g, f + k, none⟩ (bv x[k]))) := Lib.hid (HB3.out.setCell (show b1 ≤ g from hg1) _)
          have hfk : (f : Int) + k < L := by omega
          generalize (D.take f ++ x.take k ++ D.drop (f + k))[f + k]'(by have := HDL.out; simp; omega) = y at *
          simp only [bv] at HS3 HB4
          clear hcc hff hxx hll HO3
          go_wp2
          go_roundw
          case rel => exact ⟨k + 1, by omega, by go_num, HS3.out, HB4.out⟩
          case measure => simp [intOf]; omega
        · obtain rfl : k = x.length := by omega
          have HO4 : Hid (OB b1 wr (.slice ga L gc) R) := Lib.hid (by have h := HO3.out; rw [List.take_length, ← HRD.out] at h; exact h)
          have hwb : w.heap.size ≤ b1 := by have := HBE.out; omega
          have HW4 := Lib.hid ((HW1.out.trans (HBR.out.mono hwb)).trans (HB3.out.mono hwb))
          obtain ⟨w4, hw4⟩ : ∃ w4, w4 = wr := ⟨_, rfl⟩
          subst hw4
          clear HO3 HB3 hbs3 hlt hk HK3
          rcases Nat.eq_zero_or_pos x.length with h0 | hp
          · have hq0 : ((x.length : Int) == 0) = true := beq_iff_eq.2 (by omega)
            have hq1 : (x.length == 0) = true := beq_iff_eq.2 (by omega)
            have hq2 : decide (x.length = 0) = true := decide_eq_true (by omega)
            have hfl : ¬ (L : Int) < f := by omega
            clear h0
            go_wp2
            go_loopw [6] (fun q wr => q = .slice ga L gc ∧ wr = w4) (fun _ _ => 0)
            case atStart => exact ⟨rfl, rfl⟩
            case round =>
              obtain ⟨rfl, rfl⟩ := hrel
              go_wp2
              go_ret2
              exact GetRR.ok hwb HO4.out HW4.out
          · have hq0 : ((x.length : Int) == 0) = false := beq_eq_false_iff_ne.2 (by omega)
            have hq1 : (x.length == 0) = false := beq_eq_false_iff_ne.2 (by omega)
            have hq2 : decide (x.length = 0) = false := decide_eq_false (by omega)
            clear hp
            go_wp2
            go_ret2
            exact GetRR.ok hwb HO4.out HW4.out
end Go.Proofs.YtfeonfihlleoeaaDoor
