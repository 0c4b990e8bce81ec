/- The walk of terrazzoref08.key. -/
import Derived.Test.YtfeonfihlleoeaaDoorGAM
import Derived.Test.YtfeonfihlleoeaaDoorGAI
namespace Go.Proofs.YtfeonfihlleoeaaDoor
open Go.RowKit Go.WideShapes

set_option maxRecDepth 100000 in
set_option maxHeartbeats 8000000 in
theorem rkey_key (A : Nat → Prop) (v : Value) (o : ObD) (off n : Int) (nm : ByteArray) (oa : Option Addr) (oc : Nat) (d : List UInt8) (w : World) (hv : ObV A w v o) (ho : o.okl) (hd : RB A w (.slice oa d.length oc) d) (hl : d.length ≤ 50000) :
    Calls Tryd.prog 63 #[v, opV 9 off n nm oa d.length oc] w (RKeyR A o (keyOp o nm d) w) := by
  obtain ⟨dv, kv, rfl, hdd, hkk⟩ := hv
  obtain ⟨da, dc, rfl⟩ := hdd.shape
  obtain ⟨ka, kc, rfl⟩ := hkk.shape
  have HOV : Hid (ObV A w _ o) := Lib.hid ⟨_, _, rfl, hdd, hkk⟩
  have HD := Lib.hid hd
  have hkl := ho.keys
  unfold opV
  clear hdd hkk hd ho
  have HKO : Hid (keyOp o nm d = if nameB nm && decide (d.length ≤ 2048) && (hasK o.keys nm || decide (o.keys.length < 120)) then some { o with keys := putK o.keys nm d } else none) := rfl
  generalize keyOp o nm d = KO at *
  go_enter Tryd.func63, Tryd.ntmps63
  go_wp2_with fail
  obtain ⟨w0, hw0⟩ : ∃ w0, w0 = ((w.alloc (.cells #[.slice da o.data.length dc, .slice ka o.keys.length kc, .int .i64 o.seq] 39)).alloc (.cells #[.int .i64 9, .int .i64 off, .int .i64 n, .string nm, .slice oa d.length oc] 48)).alloc (.cells #[.slice none 0 0, .slice none 0 0, .int .i64 0] 39) := ⟨_, rfl⟩
  rw [← hw0]
  have b0 : w0.heap[w.heap.size]? = some (.cells #[.slice da o.data.length dc, .slice ka o.keys.length kc, .int .i64 o.seq] 39 (0, 0)) := by rw [hw0]; exact dnew (dnew (heap_alloc_new _ _) _) _
  have b1 : w0.heap[w.heap.size + 1]? = some (.cells #[.int .i64 9, .int .i64 off, .int .i64 n, .string nm, .slice oa d.length oc] 48 (0, 0)) := by rw [hw0]; exact dnew (heap_alloc2_new _ _ _) _
  have b2 : w0.heap[w.heap.size + 2]? = some (.cells #[.slice none 0 0, .slice none 0 0, .int .i64 0] 39 (0, 0)) := by rw [hw0]; have h := fun (W : World) o' => heap_alloc_new W o'; have := h ((w.alloc (.cells #[.slice da o.data.length dc, .slice ka o.keys.length kc, .int .i64 o.seq] 39)).alloc (.cells #[.int .i64 9, .int .i64 off, .int .i64 n, .string nm, .slice oa d.length oc] 48)) (.cells #[.slice none 0 0, .slice none 0 0, .int .i64 0] 39); simpa using this
  have hw : Below w.heap.size w w0 := by rw [hw0]; ((repeat' (first | exact Below.refl _ _ | refine below_drewN ?_ _ | refine Below.drew ?_ | refine Below.alloc ?_ ?_ _ | refine Below.trans ?_ (Below.mono (by assumption) ?_))); all_goals (first | exact Nat.le_refl _ | exact Below.size (by assumption) | omega | (simp; done) | (simp; omega)))
  clear hw0
  refine (rget_any A _ o nm _ (HOV.out.ext hw) (by omega)).mono ?_
  rintro e w1 ⟨a1, n1, c1, rfl, -, -, hb1⟩
  rw [getD_has]
  have HP1 := Lib.hid (dblk hb1 b0)
  have HC1 := Lib.hid (dblk hb1 b1)
  have HR1 := Lib.hid (dblk hb1 b2)
  have HW1 := Lib.hid (dcall hw hb1)
  generalize hasK o.keys nm = HS at *
  clear hb1 b0 b1 b2 hw
  obtain ⟨y0, e0⟩ := blk_cell (i := 0) (HP1.out)
  obtain ⟨y1, e1⟩ := blk_cell (i := 1) (HP1.out)
  obtain ⟨y2, e2⟩ := blk_cell (i := 2) (HP1.out)
  simp at y0 y1 y2
  obtain ⟨x0, f0⟩ := blk_cell (i := 0) (HR1.out)
  obtain ⟨x1, f1⟩ := blk_cell (i := 1) (HR1.out)
  obtain ⟨x2, f2⟩ := blk_cell (i := 2) (HR1.out)
  simp at x0 x1 x2
  obtain ⟨z0, z1, z2, z3, z4⟩ := five_cells HC1.out
  go_wp2_with fail
  refine (rname_any _ _).mono ?_
  rintro e w' ⟨rfl, rfl⟩
  cases hn : nameB nm with
  | false =>
    have HX : Hid (KO = none) := by show KO = none; rw [HKO.out, hn]; rfl
    clear hn
    go_wp2
    refine bodyPost_ret (results_cell2 rfl _ _ (w.heap.size + 2) 39 _ (0, 0) _ rfl (set3_blk HR1.out) Tryd.underlying39 rfl (by kernel_rfl)) rfl ?_
    exact RKeyR.no HX.out ((HOV.out.ext (below3 HW1.out (by omega) _ _ _)).weak fun _ _ h => .inl h) (below3 HW1.out (by omega) _ _ _)
  | true =>
    rw [hn] at HKO
    clear hn
    by_cases hv : 2048 < (d).length
    · have HX : Hid (KO = none) := by show KO = none; rw [HKO.out, if_neg]; simp; omega
      have hvd : decide ((2048 : Int) < (d).length) = true := decide_eq_true (by omega)
      clear hv
      go_wp2
      refine bodyPost_ret (results_cell2 rfl _ _ (w.heap.size + 2) 39 _ (0, 0) _ rfl (set3_blk HR1.out) Tryd.underlying39 rfl (by kernel_rfl)) rfl ?_
      exact RKeyR.no HX.out ((HOV.out.ext (below3 HW1.out (by omega) _ _ _)).weak fun _ _ h => .inl h) (below3 HW1.out (by omega) _ _ _)
    · have hvd : decide ((2048 : Int) < (d).length) = false := decide_eq_false (by omega)
      have hv' : decide ((d).length ≤ 2048) = true := decide_eq_true (by omega)
      rw [hv'] at HKO
      clear hv hv'
      by_cases hk : 120 ≤ o.keys.length
      · have hkd : decide ((120 : Int) ≤ o.keys.length) = true := decide_eq_true (by omega)
        have hk' : decide (o.keys.length < 120) = false := decide_eq_false (by omega)
        rw [hk'] at HKO
        clear hk hk'
        cases HS with
        | true =>
          have HX : Hid (KO = some { o with keys := putK o.keys nm (d) }) := HKO.out
          obtain ⟨O', hO'⟩ : ∃ O', O' = ({ o with keys := putK o.keys nm (d) } : ObD) := ⟨_, rfl⟩
          have hput := fun W h1 h2 => rput_any (fun b => A b ∧ b < w.heap.size) (.agg #[.slice da o.data.length dc, .slice ka o.keys.length kc, .int .i64 o.seq]) o nm (oa) (oc) (d) W h1 h2 (by omega)
          rw [← hO'] at HX hput
          have HPUT := Lib.hid hput
          clear hO' hput
          go_wp2_with fail
          refine (HPUT.out _ (HOV.out.cut.ext HW1.out) (RB.ext (SlA.cut HD.out) HW1.out)).mono ?_
          rintro e w2 ⟨dv2, kv2, rfl, hv2, hb2⟩
          obtain ⟨⟨a2, c2, rfl⟩, ⟨u2, q2, rfl⟩⟩ := obv_shape hv2
          have HR2 := Lib.hid (dblk hb2 HR1.out)
          have HW2 := Lib.hid (dcall HW1.out hb2)
          have HV2 := Lib.hid hv2
          have hsz1 : w.heap.size + 2 < w1.heap.size := (Array.getElem?_eq_some_iff.1 HR1.out).1
          clear hb2 hv2 x0 x1 x2 f0 f1 f2 y0 y1 y2 e0 e1 e2 z0 z1 z2 z3 z4
          obtain ⟨x0, f0⟩ := blk_cell (i := 0) (HR2.out)
          obtain ⟨x1, f1⟩ := blk_cell (i := 1) (HR2.out)
          obtain ⟨x2, f2⟩ := blk_cell (i := 2) (HR2.out)
          simp at x0 x1 x2
          go_wp2
          refine bodyPost_ret (results_cell2 rfl _ _ (w.heap.size + 2) 39 _ (0, 0) _ rfl (set3_blk HR2.out) Tryd.underlying39 rfl (by kernel_rfl)) rfl ?_
          exact RKeyR.ok HX.out (ob_keep HV2.out (by omega) (by omega) _ _ _) (below3 HW2.out (by omega) _ _ _)
        | false =>
          have HX : Hid (KO = none) := HKO.out
          go_wp2
          refine bodyPost_ret (results_cell2 rfl _ _ (w.heap.size + 2) 39 _ (0, 0) _ rfl (set3_blk HR1.out) Tryd.underlying39 rfl (by kernel_rfl)) rfl ?_
          exact RKeyR.no HX.out ((HOV.out.ext (below3 HW1.out (by omega) _ _ _)).weak fun _ _ h => .inl h) (below3 HW1.out (by omega) _ _ _)
      · have hkd : decide ((120 : Int) ≤ o.keys.length) = false := decide_eq_false (by omega)
        have hk' : decide (o.keys.length < 120) = true := decide_eq_true (by omega)
        rw [hk'] at HKO
        have HX : Hid (KO = some { o with keys := putK o.keys nm (d) }) := by show KO = _; rw [HKO.out]; simp
        clear hk hk'
        obtain ⟨O', hO'⟩ : ∃ O', O' = ({ o with keys := putK o.keys nm (d) } : ObD) := ⟨_, rfl⟩
        have hput := fun W h1 h2 => rput_any (fun b => A b ∧ b < w.heap.size) (.agg #[.slice da o.data.length dc, .slice ka o.keys.length kc, .int .i64 o.seq]) o nm (oa) (oc) (d) W h1 h2 (by omega)
        rw [← hO'] at HX hput
        have HPUT := Lib.hid hput
        clear hO' hput
        go_wp2_with fail
        refine (HPUT.out _ (HOV.out.cut.ext HW1.out) (RB.ext (SlA.cut HD.out) HW1.out)).mono ?_
        rintro e w2 ⟨dv2, kv2, rfl, hv2, hb2⟩
        obtain ⟨⟨a2, c2, rfl⟩, ⟨u2, q2, rfl⟩⟩ := obv_shape hv2
        have HR2 := Lib.hid (dblk hb2 HR1.out)
        have HW2 := Lib.hid (dcall HW1.out hb2)
        have HV2 := Lib.hid hv2
        have hsz1 : w.heap.size + 2 < w1.heap.size := (Array.getElem?_eq_some_iff.1 HR1.out).1
        clear hb2 hv2 x0 x1 x2 f0 f1 f2 y0 y1 y2 e0 e1 e2 z0 z1 z2 z3 z4
        obtain ⟨x0, f0⟩ := blk_cell (i := 0) (HR2.out)
        obtain ⟨x1, f1⟩ := blk_cell (i := 1) (HR2.out)
        obtain ⟨x2, f2⟩ := blk_cell (i := 2) (HR2.out)
        simp at x0 x1 x2
        go_wp2
        refine bodyPost_ret (results_cell2 rfl _ _ (w.heap.size + 2) 39 _ (0, 0) _ rfl (set3_blk HR2.out) Tryd.underlying39 rfl (by kernel_rfl)) rfl ?_
        exact RKeyR.ok HX.out (ob_keep HV2.out (by omega) (by omega) _ _ _) (below3 HW2.out (by omega) _ _ _)
/-- the key that matches, found -/
theorem any_hit {p : KyD → Bool} {ks : List KyD} {k : Nat} (hlt : k < ks.length) (h : p ks[k] = true) : ks.any p = true := List.any_eq_true.2 ⟨_, List.getElem_mem hlt, h⟩
theorem any_miss {p : KyD → Bool} {ks : List KyD} (h : ks.length ≤ ixN p ks) : ks.any p = false := by
  rcases ix_ways p ks with ⟨e1, e2⟩ | ⟨j, hj, e1, e2⟩
  · exact any_find.1 e2
  · rw [ixR_none h] at e1; omega
set_option maxRecDepth 100000 in
set_option maxHeartbeats 8000000 in
theorem rkey_clone (A : Nat → Prop) (v : Value) (o : ObD) (off n : Int) (nm : ByteArray) (oa : Option Addr) (oc : Nat) (d : List UInt8) (w : World) (hv : ObV A w v o) (ho : o.okl) :
    Calls Tryd.prog 63 #[v, opV 11 off n nm oa d.length oc] w (RKeyR A o (if o.keys.any (fromB nm) then some o else keyOp o nm o.data) w) := by
  obtain ⟨dv, kv, rfl, hdd, hkk⟩ := hv
  obtain ⟨da, dc, rfl⟩ := hdd.shape
  obtain ⟨ka, kc, rfl⟩ := hkk.shape
  have HOV : Hid (ObV A w _ o) := Lib.hid ⟨_, _, rfl, hdd, hkk⟩
  have HD := Lib.hid hdd
  have HK := Lib.hid hkk
  have hkl := ho.keys
  have hdl := ho.data
  unfold opV
  clear hdd hkk ho
  have HKO0 : Hid (keyOp o nm o.data = if nameB nm && decide (o.data.length ≤ 2048) && (hasK o.keys nm || decide (o.keys.length < 120)) then some { o with keys := putK o.keys nm o.data } else none) := rfl
  have HHIT : Hid (∀ k, (hlt : k < o.keys.length) → fromB nm o.keys[k] = true → (if o.keys.any (fromB nm) then some o else keyOp o nm o.data) = some o) := Lib.hid fun k hlt h => by rw [any_hit hlt h]; rfl
  have HMIS : Hid (o.keys.length ≤ ixN (fromB nm) o.keys → (if o.keys.any (fromB nm) then some o else keyOp o nm o.data) = keyOp o nm o.data) := Lib.hid fun h => by rw [any_miss h]; rfl
  generalize (if o.keys.any (fromB nm) then some o else keyOp o nm o.data) = KO at *
  generalize keyOp o nm o.data = KP at *
  go_enter Tryd.func63, Tryd.ntmps63
  go_wp2_with fail
  obtain ⟨w0, hw0⟩ : ∃ w0, w0 = ((w.alloc (.cells #[.slice da o.data.length dc, .slice ka o.keys.length kc, .int .i64 o.seq] 39)).alloc (.cells #[.int .i64 11, .int .i64 off, .int .i64 n, .string nm, .slice oa d.length oc] 48)).alloc (.cells #[.slice none 0 0, .slice none 0 0, .int .i64 0] 39) := ⟨_, rfl⟩
  rw [← hw0]
  have b0 : w0.heap[w.heap.size]? = some (.cells #[.slice da o.data.length dc, .slice ka o.keys.length kc, .int .i64 o.seq] 39 (0, 0)) := by rw [hw0]; exact dnew (dnew (heap_alloc_new _ _) _) _
  have b1 : w0.heap[w.heap.size + 1]? = some (.cells #[.int .i64 11, .int .i64 off, .int .i64 n, .string nm, .slice oa d.length oc] 48 (0, 0)) := by rw [hw0]; exact dnew (heap_alloc2_new _ _ _) _
  have b2 : w0.heap[w.heap.size + 2]? = some (.cells #[.slice none 0 0, .slice none 0 0, .int .i64 0] 39 (0, 0)) := by rw [hw0]; have h := fun (W : World) o' => heap_alloc_new W o'; have := h ((w.alloc (.cells #[.slice da o.data.length dc, .slice ka o.keys.length kc, .int .i64 o.seq] 39)).alloc (.cells #[.int .i64 11, .int .i64 off, .int .i64 n, .string nm, .slice oa d.length oc] 48)) (.cells #[.slice none 0 0, .slice none 0 0, .int .i64 0] 39); simpa using this
  have hw : Below w.heap.size w w0 := by rw [hw0]; ((repeat' (first | exact Below.refl _ _ | refine below_drewN ?_ _ | refine Below.drew ?_ | refine Below.alloc ?_ ?_ _ | refine Below.trans ?_ (Below.mono (by assumption) ?_))); all_goals (first | exact Nat.le_refl _ | exact Below.size (by assumption) | omega | (simp; done) | (simp; omega)))
  clear hw0
  refine (rget_any A _ o nm _ (HOV.out.ext hw) (by omega)).mono ?_
  rintro e w1 ⟨a1, n1, c1, rfl, -, -, hb1⟩
  rw [getD_has]
  have HP1 := Lib.hid (dblk hb1 b0)
  have HC1 := Lib.hid (dblk hb1 b1)
  have HR1 := Lib.hid (dblk hb1 b2)
  have HW1 := Lib.hid (dcall hw hb1)
  generalize hasK o.keys nm = HS at *
  clear hb1 b0 b1 b2 hw
  obtain ⟨y0, e0⟩ := blk_cell (i := 0) (HP1.out)
  obtain ⟨y1, e1⟩ := blk_cell (i := 1) (HP1.out)
  obtain ⟨y2, e2⟩ := blk_cell (i := 2) (HP1.out)
  simp at y0 y1 y2
  obtain ⟨x0, f0⟩ := blk_cell (i := 0) (HR1.out)
  obtain ⟨x1, f1⟩ := blk_cell (i := 1) (HR1.out)
  obtain ⟨x2, f2⟩ := blk_cell (i := 2) (HR1.out)
  simp at x0 x1 x2
  obtain ⟨z0, z1, z2, z3, z4⟩ := five_cells HC1.out
  go_wp2
  have HKr := Lib.hid (HK.out.ext HW1.out)
  go_loopw [9] (fun i wr => ∃ k : Nat, k ≤ o.keys.length ∧ i = .int .i64 k ∧ k ≤ ixN (fromB nm) o.keys ∧ ∃ n, wr = w1.drewN n) (fun i _ => o.keys.length - (intOf i).toNat)
  case atStart => exact ⟨0, Nat.zero_le _, rfl, Nat.zero_le _, 0, rfl⟩
  case round =>
    obtain ⟨k, hk, rfl, hix, nq, rfl⟩ := hrel
    have HIX := Lib.hid hix
    clear hix
    by_cases hlt : k < o.keys.length
    · obtain ⟨b, ofs, v, rfl, hb, -, c3, c4, hv⟩ := Keys.at HKr.out hlt
      have HMI : Hid (fromB nm o.keys[k] = false → k + 1 ≤ ixN (fromB nm) o.keys) := Lib.hid fun h => ixN_miss HIX.out hlt h
      have HYE : Hid (fromB nm o.keys[k] = true → KO = some o) := Lib.hid fun h => HHIT.out k hlt h
      generalize hky : o.keys[k] = ky at *
      clear hky hv c4
      rcases from_ways nm ky with ⟨q1, h1⟩ | ⟨q1, h1, h2⟩ | ⟨q1, h1, h2, h3⟩ | ⟨h1, h2, h3, q1⟩
      · have HX : Hid (k + 1 ≤ ixN (fromB nm) o.keys) := Lib.hid (HMI.out q1)
        clear q1
        go_wp2
        go_big_quiet (fail)
        go_wp2
        go_roundw
        case rel => exact ⟨k + 1, by omega, by go_num, HX.out, _, rfl⟩
        case measure => simp [intOf]; omega
      · have HX : Hid (k + 1 ≤ ixN (fromB nm) o.keys) := Lib.hid (HMI.out q1)
        have hd1 : decide ((0 : Int) < nm.size) = false := decide_eq_false (by omega)
        have hd2 : decide (0 < nm.size) = false := decide_eq_false (by omega)
        clear q1 h2
        go_wp2
        go_big_quiet (fail)
        go_wp2
        go_roundw
        case rel => exact ⟨k + 1, by omega, by go_num, HX.out, _, rfl⟩
        case measure => simp [intOf]; omega
      · exfalso
        have e1 := (Go.Proofs.YtfeonfihlleoeaaDoor.e0 ky.name).1 h3
        rw [e1] at h1
        cases hn : nm.toList with
        | nil => have := (Go.Proofs.YtfeonfihlleoeaaDoor.e0 nm).2 hn; omega
        | cons a t => rw [hn] at h1; simp [Op.bytesLess] at h1
      · have hd1 : decide ((0 : Int) < nm.size) = true := decide_eq_true (by omega)
        have hd2 : decide (0 < nm.size) = true := decide_eq_true (by omega)
        by_cases hq : (ky.name[0].toNat : Int) = nm[0].toNat
        · have HX : Hid (KO = some o) := Lib.hid (HYE.out (by rw [q1]; simpa using hq))
          have hqd : decide ((ky.name[0].toNat : Int) = nm[0].toNat) = true := by simpa using hq
          have hqe : (((ky.name[0].toNat : Int)) == nm[0].toNat) = true := by simpa using hq
          have hqf : (ky.name[0].toNat == nm[0].toNat) = true := by simp; omega
          clear q1 hq
          go_wp2
          go_big_quiet (fail)
          go_wp2
          refine bodyPost_ret (results_cell2 rfl _ _ (w.heap.size + 2) 39 _ (0, 0) _ rfl (set3_blk HR1.out) Tryd.underlying39 rfl (by kernel_rfl)) rfl ?_
          exact RKeyR.ok HX.out ((HOV.out.ext (below3 (below_drewN HW1.out _) (by omega) _ _ _)).weak fun _ _ h => .inl h) (below3 (below_drewN HW1.out _) (by omega) _ _ _)
        · have HX : Hid (k + 1 ≤ ixN (fromB nm) o.keys) := Lib.hid (HMI.out (by rw [q1]; simpa using hq))
          have hqd : decide ((ky.name[0].toNat : Int) = nm[0].toNat) = false := by simpa using hq
          have hqe : (((ky.name[0].toNat : Int)) == nm[0].toNat) = false := by simpa using hq
          have hqf : (ky.name[0].toNat == nm[0].toNat) = false := by simp; omega
          clear q1 hq
          go_wp2
          go_big_quiet (fail)
          go_wp2
          go_roundw
          case rel => exact ⟨k + 1, by omega, by go_num, HX.out, _, rfl⟩
          case measure => simp [intOf]; omega
    · have HKO : Hid (KO = if nameB nm && decide (o.data.length ≤ 2048) && (HS || decide (o.keys.length < 120)) then some { o with keys := putK o.keys nm o.data } else none) := Lib.hid ((HMIS.out (by have := HIX.out; omega)).trans HKO0.out)
      obtain ⟨w2, hw2⟩ : ∃ w2, w2 = w1.drewN nq := ⟨_, rfl⟩
      rw [← hw2]
      have hb2 : Below w1.heap.size w1 w2 := by rw [hw2]; exact below_drewN (Below.refl _ _) _
      replace HP1 := Lib.hid (dblk hb2 HP1.out)
      replace HC1 := Lib.hid (dblk hb2 HC1.out)
      replace HR1 := Lib.hid (dblk hb2 HR1.out)
      replace HW1 := Lib.hid (dcall HW1.out hb2)
      clear hb2 hw2 HIX HKr HHIT HMIS x0 x1 x2 f0 f1 f2 y0 y1 y2 e0 e1 e2 z0 z1 z2 z3 z4
      generalize w1 = w0 at *
      obtain ⟨w1, hw1⟩ : ∃ w1, w1 = w2 := ⟨_, rfl⟩
      subst hw1
      obtain ⟨y0, e0⟩ := blk_cell (i := 0) (HP1.out)
      obtain ⟨y1, e1⟩ := blk_cell (i := 1) (HP1.out)
      obtain ⟨y2, e2⟩ := blk_cell (i := 2) (HP1.out)
      simp at y0 y1 y2
      obtain ⟨x0, f0⟩ := blk_cell (i := 0) (HR1.out)
      obtain ⟨x1, f1⟩ := blk_cell (i := 1) (HR1.out)
      obtain ⟨x2, f2⟩ := blk_cell (i := 2) (HR1.out)
      simp at x0 x1 x2
      obtain ⟨z0, z1, z2, z3, z4⟩ := five_cells HC1.out
      go_wp2_with fail
      refine (rname_any _ _).mono ?_
      rintro e w' ⟨rfl, rfl⟩
      cases hn : nameB nm with
      | false =>
        have HX : Hid (KO = none) := by show KO = none; rw [HKO.out, hn]; rfl
        clear hn
        go_wp2
        refine bodyPost_ret (results_cell2 rfl _ _ (w.heap.size + 2) 39 _ (0, 0) _ rfl (set3_blk HR1.out) Tryd.underlying39 rfl (by kernel_rfl)) rfl ?_
        exact RKeyR.no HX.out ((HOV.out.ext (below3 HW1.out (by omega) _ _ _)).weak fun _ _ h => .inl h) (below3 HW1.out (by omega) _ _ _)
      | true =>
        rw [hn] at HKO
        clear hn
        by_cases hv : 2048 < (o.data).length
        · have HX : Hid (KO = none) := by show KO = none; rw [HKO.out, if_neg]; simp; omega
          have hvd : decide ((2048 : Int) < (o.data).length) = true := decide_eq_true (by omega)
          clear hv
          go_wp2
          refine bodyPost_ret (results_cell2 rfl _ _ (w.heap.size + 2) 39 _ (0, 0) _ rfl (set3_blk HR1.out) Tryd.underlying39 rfl (by kernel_rfl)) rfl ?_
          exact RKeyR.no HX.out ((HOV.out.ext (below3 HW1.out (by omega) _ _ _)).weak fun _ _ h => .inl h) (below3 HW1.out (by omega) _ _ _)
        · have hvd : decide ((2048 : Int) < (o.data).length) = false := decide_eq_false (by omega)
          have hv' : decide ((o.data).length ≤ 2048) = true := decide_eq_true (by omega)
          rw [hv'] at HKO
          clear hv hv'
          by_cases hk : 120 ≤ o.keys.length
          · have hkd : decide ((120 : Int) ≤ o.keys.length) = true := decide_eq_true (by omega)
            have hk' : decide (o.keys.length < 120) = false := decide_eq_false (by omega)
            rw [hk'] at HKO
            clear hk hk'
            cases HS with
            | true =>
              have HX : Hid (KO = some { o with keys := putK o.keys nm (o.data) }) := HKO.out
              obtain ⟨O', hO'⟩ : ∃ O', O' = ({ o with keys := putK o.keys nm (o.data) } : ObD) := ⟨_, rfl⟩
              have hput := fun W h1 h2 => rput_any (fun b => A b ∧ b < w.heap.size) (.agg #[.slice da o.data.length dc, .slice ka o.keys.length kc, .int .i64 o.seq]) o nm (da) (dc) (o.data) W h1 h2 (by omega)
              rw [← hO'] at HX hput
              have HPUT := Lib.hid hput
              clear hO' hput
              go_wp2_with fail
              refine (HPUT.out _ (HOV.out.cut.ext HW1.out) (RB.ext (SlA.cut HD.out) HW1.out)).mono ?_
              rintro e w2 ⟨dv2, kv2, rfl, hv2, hb2⟩
              obtain ⟨⟨a2, c2, rfl⟩, ⟨u2, q2, rfl⟩⟩ := obv_shape hv2
              have HR2 := Lib.hid (dblk hb2 HR1.out)
              have HW2 := Lib.hid (dcall HW1.out hb2)
              have HV2 := Lib.hid hv2
              have hsz1 : w.heap.size + 2 < w1.heap.size := (Array.getElem?_eq_some_iff.1 HR1.out).1
              clear hb2 hv2 x0 x1 x2 f0 f1 f2 y0 y1 y2 e0 e1 e2 z0 z1 z2 z3 z4
              obtain ⟨x0, f0⟩ := blk_cell (i := 0) (HR2.out)
              obtain ⟨x1, f1⟩ := blk_cell (i := 1) (HR2.out)
              obtain ⟨x2, f2⟩ := blk_cell (i := 2) (HR2.out)
              simp at x0 x1 x2
              go_wp2
              refine bodyPost_ret (results_cell2 rfl _ _ (w.heap.size + 2) 39 _ (0, 0) _ rfl (set3_blk HR2.out) Tryd.underlying39 rfl (by kernel_rfl)) rfl ?_
              exact RKeyR.ok HX.out (ob_keep HV2.out (by omega) (by omega) _ _ _) (below3 HW2.out (by omega) _ _ _)
            | false =>
              have HX : Hid (KO = none) := HKO.out
              go_wp2
              refine bodyPost_ret (results_cell2 rfl _ _ (w.heap.size + 2) 39 _ (0, 0) _ rfl (set3_blk HR1.out) Tryd.underlying39 rfl (by kernel_rfl)) rfl ?_
              exact RKeyR.no HX.out ((HOV.out.ext (below3 HW1.out (by omega) _ _ _)).weak fun _ _ h => .inl h) (below3 HW1.out (by omega) _ _ _)
          · have hkd : decide ((120 : Int) ≤ o.keys.length) = false := decide_eq_false (by omega)
            have hk' : decide (o.keys.length < 120) = true := decide_eq_true (by omega)
            rw [hk'] at HKO
            have HX : Hid (KO = some { o with keys := putK o.keys nm (o.data) }) := by show KO = _; rw [HKO.out]; simp
            clear hk hk'
            obtain ⟨O', hO'⟩ : ∃ O', O' = ({ o with keys := putK o.keys nm (o.data) } : ObD) := ⟨_, rfl⟩
            have hput := fun W h1 h2 => rput_any (fun b => A b ∧ b < w.heap.size) (.agg #[.slice da o.data.length dc, .slice ka o.keys.length kc, .int .i64 o.seq]) o nm (da) (dc) (o.data) W h1 h2 (by omega)
            rw [← hO'] at HX hput
            have HPUT := Lib.hid hput
            clear hO' hput
            go_wp2_with fail
            refine (HPUT.out _ (HOV.out.cut.ext HW1.out) (RB.ext (SlA.cut HD.out) HW1.out)).mono ?_
            rintro e w2 ⟨dv2, kv2, rfl, hv2, hb2⟩
            obtain ⟨⟨a2, c2, rfl⟩, ⟨u2, q2, rfl⟩⟩ := obv_shape hv2
            have HR2 := Lib.hid (dblk hb2 HR1.out)
            have HW2 := Lib.hid (dcall HW1.out hb2)
            have HV2 := Lib.hid hv2
            have hsz1 : w.heap.size + 2 < w1.heap.size := (Array.getElem?_eq_some_iff.1 HR1.out).1
            clear hb2 hv2 x0 x1 x2 f0 f1 f2 y0 y1 y2 e0 e1 e2 z0 z1 z2 z3 z4
            obtain ⟨x0, f0⟩ := blk_cell (i := 0) (HR2.out)
            obtain ⟨x1, f1⟩ := blk_cell (i := 1) (HR2.out)
            obtain ⟨x2, f2⟩ := blk_cell (i := 2) (HR2.out)
            simp at x0 x1 x2
            go_wp2
            refine bodyPost_ret (results_cell2 rfl _ _ (w.heap.size + 2) 39 _ (0, 0) _ rfl (set3_blk HR2.out) Tryd.underlying39 rfl (by kernel_rfl)) rfl ?_
            exact RKeyR.ok HX.out (ob_keep HV2.out (by omega) (by omega) _ _ _) (below3 HW2.out (by omega) _ _ _)
end Go.Proofs.YtfeonfihlleoeaaDoor
