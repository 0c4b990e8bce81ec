/- The walks of store.New, Len, Get, Do. Law 11: what is small enough. Law 11: write, a transaction that writes. -/
import Derived.Test.YtohfckkgmijlnaaGreatDoorPO
import Derived.Test.YtohfckkgmijlnaaGreatDoorTdo9
import Derived.Laws.IdiomStrings
import Derived.Lib.ConvBytes
namespace Go.Proofs.YtohfckkgmijlnaaGreatDoor
open Go.RowKit Go.Maps Go.WideShapes
attribute [local go_sem ↓] Go.wp_at_zero Go.wp_at_succ

theorem results_cell_v1 {P : Program} {fn : Func} {p u : Tmp} {ty : TypeId} (h : fn.results = #[.cell p ty, .tmp u]) (tmps : Array Value) (w : World) (g : Nat) (t : TypeId) (cs : Array Value) (fr : Nat × Nat) (d : TypeDesc)
    (hp : tmps.getD p undef = .pointer (some ⟨g, 0, none⟩)) (hg : w.heap[g]? = some (.cells cs t fr))
    (hu : P.underlying ty = some d) (hd : (match d with | .struct _ | .array _ _ => true | _ => false) = true) (hi : (P.info? ty).map (·.size) = some cs.size) :
    (results fn tmps).run P w = .ok (.tuple #[.agg cs, tmps.getD u undef]) w := by
  have hp' : tmps[p]?.getD undef = .pointer (some ⟨g, 0, none⟩) := by simpa using hp
  rw [results_cell_tmp h]
  simp [hp', asAddr, run_loadVar_row w g t ty cs fr d hg hu hd hi, Result.andThen]
set_option maxRecDepth 100000 in
set_option maxHeartbeats 1600000 in
theorem snew_any (r : Int) (w : World) : Calls Tryz.prog 10 #[.int .i64 r] w fun e w' => ∃ p b : Nat, e = .returned (.pointer (some ⟨p, 0, none⟩)) ∧ w.heap.size ≤ p ∧ w.heap.size ≤ b ∧ p ≠ b ∧ IsSt w' p b ⟨(min (max r 0) 300).toNat, []⟩ ∧ Below w.heap.size w w' := by
  obtain ⟨m, hm⟩ : ∃ m : Nat, (min (max r 0) 300) = (m : Int) := ⟨(min (max r 0) 300).toNat, by omega⟩
  have HM : Hid ((min (max r 0) 300).toNat = m) := Lib.hid (by omega)
  have hmm := @run_makeMap Tryz.prog
  go_enter Tryz.func10, Tryz.ntmps10
  go_wp2
  go_ret
  rw [HM.out]
  exact ⟨w.heap.size + 1, w.heap.size, rfl, by omega, by omega, by omega, ⟨heap_alloc2_new _ _ _, (IsSm.made w).ext ((Below.refl _ _).alloc (Nat.le_refl _) _)⟩, ((Below.refl _ w).alloc (Nat.le_refl _) _).alloc (by simp) _⟩
set_option maxRecDepth 100000 in
set_option maxHeartbeats 1600000 in
theorem slen_any (p b : Nat) (s : StD) (w : World) (hS : IsSt w p b s) : Calls Tryz.prog 18 #[.pointer (some ⟨p, 0, none⟩)] w fun e w' => e = .returned (.int .i64 s.l.length) ∧ w = w' := by
  obtain ⟨hpl, hbl⟩ := hS.lt
  obtain ⟨c0, c1⟩ := hS.cells
  have hlen := fun ty => hS.map.length ty w rfl
  clear hS
  go_enter Tryz.func18, Tryz.ntmps18
  go_wp2
  go_ret
  exact ⟨rfl, rfl⟩
theorem slen_nil (w : World) : Calls Tryz.prog 18 #[.pointer none] w fun e w' => e = .returned (.int .i64 0) ∧ w = w' := by
  go_enter Tryz.func18, Tryz.ntmps18
  go_wp2
  go_ret
  exact ⟨rfl, rfl⟩
/-- what Get leaves -/
def GetO (o : ObD) (is : Bool) (w : World) (e : Ending) (w' : World) : Prop := ∃ dv kv, e = .returned (.tuple #[.agg #[dv, kv, .int .i64 o.seq], .bool is]) ∧ Own8 w.heap.size w' dv kv o ∧ Below w.heap.size w w'
set_option maxRecDepth 100000 in
set_option maxHeartbeats 1600000 in
theorem sget_any (p b : Nat) (s : StD) (nm : ByteArray) (w : World) (hS : IsSt w p b s) (hok : StOk s) (hnm : nm.size ≤ 1000000) : Calls Tryz.prog 15 #[.pointer (some ⟨p, 0, none⟩), .string nm] w (GetO (s.obj nm) (s.is nm) w) := by
  obtain ⟨hpl, hbl⟩ := hS.lt
  obtain ⟨v, hv, hlook⟩ := hS.map.look nm (by unfold maxLen; omega)
  replace hv : ObV (fun _ => True) w v (s.obj nm) := hv
  replace hlook : ∀ W : World, W.heap[b]? = w.heap[b]? → (Instr.lookup 65 (.map (some b)) (.string nm) true).run Tryz.prog W = .ok (.tuple #[v, .bool (s.is nm)]) W := hlook
  have hokl := okl_of (hok.obj nm)
  obtain ⟨dv, kv, rfl, hvd, hvk⟩ := hv
  obtain ⟨da, dc, rfl⟩ := hvd.shape
  obtain ⟨ka, kc, rfl⟩ := hvk.shape
  have HV : Hid (ObV (fun _ => True) w (.agg #[.slice da (s.obj nm).data.length dc, .slice ka (s.obj nm).keys.length kc, .int .i64 (s.obj nm).seq]) (s.obj nm)) := Lib.hid ⟨_, _, rfl, hvd, hvk⟩
  have HK := Lib.hid hokl
  have HL := Lib.hid hlook
  have HB := Lib.hid hS.box
  clear hvd hvk hokl hlook hS hok
  generalize s.obj nm = o at *
  generalize s.is nm = is at *
  obtain ⟨od, ok, os⟩ := o
  go_enter Tryz.func15, Tryz.ntmps15
  go_upto_region 3 with fail
  obtain ⟨w1, hw1⟩ : ∃ w1, w1 = w.alloc (.cells #[.slice none 0 0, .slice none 0 0, .int .i64 0] 41) := ⟨_, rfl⟩
  rw [← hw1]
  have hb1 : Below w.heap.size w w1 := by rw [hw1]; ((repeat' (first | exact Below.refl _ _ | refine below_drewN ?_ _ | refine Below.drew ?_ | refine Below.alloc ?_ ?_ _ | refine Below.trans ?_ (Below.mono (by assumption) ?_))); all_goals (first | exact Nat.le_refl _ | exact Below.size (by assumption) | omega | (simp; done) | (simp; omega)))
  have R1 : w1.heap[w.heap.size]? = some (.cells #[.slice none 0 0, .slice none 0 0, .int .i64 0] 41 (0, 0)) := by rw [hw1]; exact heap_alloc_new _ _
  have P1 := (hb1.block p hpl).trans HB.out
  obtain ⟨x1, -⟩ := blk_cell (i := 1) P1
  simp at x1
  have hl1 := HL.out w1 (hb1.block b hbl)
  have HR := Lib.hid R1
  have HW := Lib.hid hb1
  have HV1 := Lib.hid (HV.out.ext hb1)
  clear hw1 hb1 R1 P1 HL
  go_wp2_with fail
  have hb2 : ∀ o, Below w1.heap.size w1 (w1.alloc o) := fun o => (Below.refl _ _).alloc (Nat.le_refl _) o
  refine (objclone_own _ _ ⟨od, ok, os⟩ _ (HV1.out.ext (hb2 _)) HK.out).mono ?_
  rintro e w3 ⟨dv, kv, rfl, h3, hb3⟩
  obtain ⟨⟨a4, c4, rfl⟩, ⟨u4, q4, rfl⟩⟩ := own8_shape h3
  have hsz := HW.out.size
  have hlr : w.heap.size < w1.heap.size := (Array.getElem?_eq_some_iff.1 HR.out).1
  have HO := Lib.hid (h3.base_le (base' := w1.heap.size) (by simp))
  have HW3 := Lib.hid (HW.out.trans (((hb2 (.cells #[.slice da od.length dc, .slice ka ok.length kc, .int .i64 os] 41)).trans (hb3.mono (by simp))).mono hsz))
  have HR3 := Lib.hid (((hb2 (.cells #[.slice da od.length dc, .slice ka ok.length kc, .int .i64 os] 41)).trans (hb3.mono (by simp))).block _ hlr |>.trans HR.out)
  clear h3 hb3 hb2 HR HW HV HV1 HB HK hl1 x1
  obtain ⟨y0, g0⟩ := blk_cell (i := 0) HR3.out
  obtain ⟨y1, g1⟩ := blk_cell (i := 1) HR3.out
  obtain ⟨y2, g2⟩ := blk_cell (i := 2) HR3.out
  simp at y0 y1 y2
  go_wp2
  refine bodyPost_ret (results_cell_v1 rfl _ _ w.heap.size 41 _ (0, 0) _ rfl (set3_blk HR3.out) Tryz.underlying41 rfl (by kernel_rfl)) rfl ?_
  exact ⟨_, _, rfl, (HO.out.keep ⟨by simp [World.setCell], fun b hb _ => set3_ne _ _ _ _ _ (by show b ≠ w.heap.size; omega)⟩).base_le hsz, below3 HW3.out (Nat.le_refl _) _ _ _⟩
set_option maxRecDepth 100000 in
theorem sget_nil (nm : ByteArray) (w : World) : Calls Tryz.prog 15 #[.pointer none, .string nm] w (GetO ObD.none false w) := by
  go_enter Tryz.func15, Tryz.ntmps15
  go_wp2
  refine bodyPost_ret (results_cell_v1 rfl _ _ w.heap.size 41 _ (0, 0) _ rfl (heap_alloc_new _ _) Tryz.underlying41 rfl (by kernel_rfl)) rfl ?_
  exact ⟨_, _, rfl, Own8.none _ _, (Below.refl _ _).alloc (Nat.le_refl _) _⟩
end Go.Proofs.YtohfckkgmijlnaaGreatDoor
namespace Go.Proofs.YtohfckkgmijlnaaGreatDoor
open Go.RowKit Go.WideShapes

theorem conv_bytes {A : Nat → Prop} {w : World} {v : Value} {l : List UInt8} (h : RB A w v l) (W : World) (hW : Below w.heap.size w W) : (Go.convert 38 9 v).run Tryz.prog W = .ok (.string ⟨l.toArray⟩) W := by
  obtain ⟨a, c, rfl⟩ := h.shape
  cases a with
  | none =>
    obtain ⟨h0, -, -⟩ := SlA.none_ h
    obtain rfl := List.eq_nil_of_length_eq_zero h0
    exact run_convert_bytes_nil W _ 5 Tryz.underlying38 Tryz.underlying5 _ _ _ Tryz.underlying9
  | some p =>
    refine run_convert_bytes_back W 38 9 5 p c l Tryz.underlying38 Tryz.underlying5 Tryz.underlying9 fun j hj => ?_
    exact cellExt hW ((SlA.src h).2.2 j _ (bv_at hj))
def fewS (t : TxD) : Prop := t.ops.length ≤ 20 ∧ t.obj.size ≤ 50 ∧ ∀ o ∈ t.ops, o.data.length ≤ 3000 ∧ o.name.size ≤ 50
def FewS (t : TxD) (w : World) (e : Ending) (w' : World) : Prop := ∃ b, e = .returned (.bool b) ∧ (b = true → fewS t) ∧ Below w.heap.size w w'
def fewSo (ops : List OpD) (k : Nat) : Prop := ∀ o ∈ ops.take k, o.data.length ≤ 3000 ∧ o.name.size ≤ 50
theorem fewSo_succ {ops : List OpD} {k : Nat} (h : fewSo ops k) (hk : k < ops.length) (h1 : (ops[k]).data.length ≤ 3000) (h2 : (ops[k]).name.size ≤ 50) : fewSo ops (k + 1) := by
  intro o ho
  rw [List.take_succ_eq_append_getElem hk] at ho
  rcases List.mem_append.1 ho with ho | ho
  · exact h o ho
  · simp at ho
    subst ho
    exact ⟨h1, h2⟩
set_option maxRecDepth 100000 in
set_option maxHeartbeats 1600000 in
theorem few11_any (A : Nat → Prop) (t : TxD) (va : Value) (w : World) (h : SlE Enc.op A w va t.ops) : Calls Tryz.prog 12 #[.agg #[.string t.obj, va]] w (FewS t w) := by
  obtain ⟨a, c, rfl⟩ := h.shape
  obtain ⟨ob, ops⟩ := t
  simp only at *
  have HS := Lib.hid h
  clear h
  by_cases h1 : 20 < ops.length
  · have h1' : (20 : Int) < ops.length := by omega
    go_enter Tryz.func12, Tryz.ntmps12
    go_wp2
    go_ret
    exact ⟨false, rfl, by simp, by ((repeat' (first | exact Below.refl _ _ | refine below_drewN ?_ _ | refine Below.drew ?_ | refine Below.alloc ?_ ?_ _ | refine Below.trans ?_ (Below.mono (by assumption) ?_))); all_goals (first | exact Nat.le_refl _ | exact Below.size (by assumption) | omega | (simp; done) | (simp; omega)))⟩
  · have h1' : ¬ (20 : Int) < ops.length := by omega
    by_cases h2 : 50 < ob.size
    · have h2' : (50 : Int) < ob.size := by omega
      go_enter Tryz.func12, Tryz.ntmps12
      go_wp2
      go_ret
      exact ⟨false, rfl, by simp, by ((repeat' (first | exact Below.refl _ _ | refine below_drewN ?_ _ | refine Below.drew ?_ | refine Below.alloc ?_ ?_ _ | refine Below.trans ?_ (Below.mono (by assumption) ?_))); all_goals (first | exact Nat.le_refl _ | exact Below.size (by assumption) | omega | (simp; done) | (simp; omega)))⟩
    · have h2' : ¬ (50 : Int) < ob.size := by omega
      go_enter Tryz.func12, Tryz.ntmps12
      go_wp2
      go_loopw [3] (fun q wr => ∃ k : Nat, k ≤ ops.length ∧ q = .int .i64 k ∧ wr = w.alloc (.cells #[.string ob, .slice a ops.length c] 33) ∧ fewSo ops k) (fun q _ => ops.length - (intOf q).toNat)
      case atStart => exact ⟨0, Nat.zero_le _, rfl, rfl, fun o ho => by simp at ho⟩
      case round =>
        obtain ⟨k, hk, rfl, rfl, hf⟩ := hrel
        have HF := Lib.hid hf
        clear hf
        by_cases hlt : k < ops.length
        · obtain ⟨b, off, v, rfl, hb, -, -, -, -, c3, c4, hv⟩ := Ops.at HS.out hlt
          obtain ⟨va, vc, rfl⟩ := hv.shape
          clear hv
          by_cases d1 : 3000 < (ops[k]).data.length
          · have d1' : (3000 : Int) < (ops[k]).data.length := by omega
            go_wp2
            go_ret
            exact ⟨false, rfl, by simp, by ((repeat' (first | exact Below.refl _ _ | refine below_drewN ?_ _ | refine Below.drew ?_ | refine Below.alloc ?_ ?_ _ | refine Below.trans ?_ (Below.mono (by assumption) ?_))); all_goals (first | exact Nat.le_refl _ | exact Below.size (by assumption) | omega | (simp; done) | (simp; omega)))⟩
          · have d1' : ¬ (3000 : Int) < (ops[k]).data.length := by omega
            by_cases d2 : 50 < (ops[k]).name.size
            · have d2' : (50 : Int) < (ops[k]).name.size := by omega
              go_wp2
              go_ret
              exact ⟨false, rfl, by simp, by ((repeat' (first | exact Below.refl _ _ | refine below_drewN ?_ _ | refine Below.drew ?_ | refine Below.alloc ?_ ?_ _ | refine Below.trans ?_ (Below.mono (by assumption) ?_))); all_goals (first | exact Nat.le_refl _ | exact Below.size (by assumption) | omega | (simp; done) | (simp; omega)))⟩
            · have d2' : ¬ (50 : Int) < (ops[k]).name.size := by omega
              go_wp2
              go_roundw
              case rel => exact ⟨k + 1, by omega, by go_num, trivial, fewSo_succ HF.out hlt (by omega) (by omega)⟩
              case measure => simp [intOf]; omega
        · go_wp2
          go_ret
          refine ⟨true, rfl, fun _ => ⟨by show ops.length ≤ 20; omega, by show ob.size ≤ 50; omega, fun o ho => HF.out o ?_⟩, by ((repeat' (first | exact Below.refl _ _ | refine below_drewN ?_ _ | refine Below.drew ?_ | refine Below.alloc ?_ ?_ _ | refine Below.trans ?_ (Below.mono (by assumption) ?_))); all_goals (first | exact Nat.le_refl _ | exact Below.size (by assumption) | omega | (simp; done) | (simp; omega)))⟩
          rw [List.take_of_length_le (by omega)]
          exact ho
theorem fewS.dat {t : TxD} (h : fewS t) : ∀ op ∈ t.ops, op.data.length ≤ 50000 := fun o ho => by have := (h.2.2 o ho).1; omega
theorem fewS.ob {t : TxD} (h : fewS t) : t.obj.size ≤ 1000000 := by have := h.2.1; omega
end Go.Proofs.YtohfckkgmijlnaaGreatDoor
namespace Go.Proofs.YtohfckkgmijlnaaGreatDoor
open Go.RowKit Go.WideShapes

theorem conv_str (s : ByteArray) (w : World) : ∃ c W, (Go.convert 9 38 (.string s)).run Tryz.prog w = .ok (.slice (some ⟨w.heap.size, 0, none⟩) s.size c) W ∧ RB (fun b => w.heap.size ≤ b) W (.slice (some ⟨w.heap.size, 0, none⟩) s.size c) s.data.toList ∧ Below w.heap.size w W := by
  refine ⟨grownCap w s.size 0 5, Lib.bytesWorld w 5 s, Lib.run_convert_string_bytes w _ _ _ s Tryz.underlying9 Tryz.underlying38 Tryz.underlying5, ?_, ?_⟩
  · have hl : s.data.toList.length = s.size := Array.length_toList
    refine ⟨by rw [List.length_map, Nat.mul_one], .inr ⟨w.heap.size, 0, _, by rw [hl], by rw [Lib.bytesWorld_size]; omega, Nat.le_refl _, by rw [hl]; exact grownCap_ge _ _ _ _, fun j hj => ?_⟩⟩
    rw [Nat.zero_add, Lib.bytesWorld_cell _ _ _ _ (by omega)]
    have hj2 : j < s.data.toList.length := by omega
    rw [List.getElem?_map, List.getElem?_eq_getElem hj2]
    simp only [Option.map_some, List.getD, List.getElem?_eq_getElem hj2, Option.getD_some]
    rfl
  · exact ⟨rfl, rfl, rfl, by rw [Lib.bytesWorld_size]; omega, fun k hk => Lib.bytesWorld_at_old _ _ _ _ hk⟩
theorem sle_blk {α : Type} {E : Enc α} {A : Nat → Prop} {w : World} {g cap : Nat} {t : TypeId} {l : List α} (cs : List (List Value)) (h1 : cs.length = l.length) (h2 : ∀ (i : Nat) (x : α) (c : List Value), l[i]? = some x → cs[i]? = some c → E.rd A w c x)
    (hb : w.heap[g]? = some (.cells cs.flatten.toArray t (0, 0))) (hl : cs.flatten.length = l.length * E.size) (hA : A g) (hc : l.length ≤ cap) : SlE E A w (.slice (some ⟨g, 0, none⟩) l.length cap) l := by
  refine ⟨⟨cs, h1, h2, hl, .inr ⟨g, 0, cap, rfl, hc, hA, (Array.getElem?_eq_some_iff.1 hb).1, fun j hj => ?_⟩⟩⟩
  rw [(blk_cell hb).1]
  simp
theorem sle_one {α : Type} {E : Enc α} {A : Nat → Prop} {w : World} {g cap : Nat} {t : TypeId} {y : α} (c : List Value) (h2 : E.rd A w c y) (hb : w.heap[g]? = some (.cells c.toArray t (0, 0))) (hA : A g) (hc : 1 ≤ cap) : SlE E A w (.slice (some ⟨g, 0, none⟩) 1 cap) [y] := by
  refine sle_blk (l := [y]) [c] rfl (fun i x d hi hd => ?_) (by simpa using hb) (by simpa using E.len h2) hA hc
  match i, hi, hd with
  | 0, hi, hd => cases hi; cases hd; exact h2
theorem set2w {w : World} {p : Nat} {t : TypeId} {a b x c : Value} (h : w.heap[p]? = some (.cells #[a, b] t (0, 0))) : ((w.setCell ⟨p, 0, none⟩ x).setCell ⟨p, 1, none⟩ c).heap[p]? = some (.cells #[x, c] t (0, 0)) := by simp [World.setCell, Array.getElem?_modify, h]
set_option maxRecDepth 100000 in
set_option maxHeartbeats 1600000 in
theorem write11_any (nm st : ByteArray) (w : World) : Calls Tryz.prog 23 #[.string nm, .string st] w fun e w' => ∃ a c, e = .returned (.agg #[.string nm, .slice a 1 c]) ∧ SlE Enc.op (fun _ => True) w' (.slice a 1 c) [⟨5, 0, 0, ⟨#[]⟩, st.data.toList⟩] ∧ Below w.heap.size w w' := by
  obtain ⟨c, W, hc, hr, hb⟩ := conv_str st (w.alloc (.cells #[.string ⟨#[]⟩, .slice none 0 0] 33))
  have HR := Lib.hid hr
  have HB := Lib.hid hb
  clear hr hb
  have B0 := dblk HB.out (heap_alloc_new w (.cells #[.string ⟨#[]⟩, .slice none 0 0] 33))
  have hlt := (Array.getElem?_eq_some_iff.1 B0).1
  obtain ⟨x0, f0⟩ := blk_cell (i := 0) B0
  obtain ⟨x1, f1⟩ := blk_cell (i := 1) B0
  simp at x0 x1
  have HB0 := Lib.hid B0
  clear B0
  go_enter Tryz.func23, Tryz.ntmps23
  go_wp2
  obtain ⟨Z, hZ⟩ : ∃ Z, Z = (W.setCell ⟨w.heap.size, 0, none⟩ (.string nm)).setCell ⟨w.heap.size, 1, none⟩ (.slice (some ⟨W.heap.size, 0, none⟩) 1 1) := ⟨_, rfl⟩
  rw [← hZ]
  have hzs : Z.heap.size = W.heap.size := by rw [hZ]; simp [World.setCell]
  have hz0 : Z.heap[w.heap.size]? = some (.cells #[.string nm, .slice (some ⟨W.heap.size, 0, none⟩) 1 1] 33 (0, 0)) := by rw [hZ]; exact set2w HB0.out
  have hsm : Same (fun b => b ≠ w.heap.size) W Z := by rw [hZ]; exact ⟨by simp [World.setCell], fun b hb _ => (Below.heap_setCell _ _ _ _ hb).trans (Below.heap_setCell _ _ _ _ hb)⟩
  have h1 : Below w.heap.size w W := ((Below.refl _ w).alloc (Nat.le_refl _) _).trans (HB.out.mono (by simp))
  have h2 : Below w.heap.size w Z := by
    rw [hZ]
    exact (h1.setCell (show w.heap.size ≤ (⟨w.heap.size, 0, none⟩ : Addr).block from Nat.le_refl _) _).setCell (show w.heap.size ≤ (⟨w.heap.size, 1, none⟩ : Addr).block from Nat.le_refl _) _
  clear hZ
  have hb : Below Z.heap.size Z (Z.alloc (.cells #[.int .i64 5, .int .i64 0, .int .i64 0, .string ⟨#[]⟩, .slice (some ⟨w.heap.size + 1, 0, none⟩) st.size c] 57)) := (Below.refl _ Z).alloc (Nat.le_refl _) _
  have hn := heap_alloc_new Z (.cells #[.int .i64 5, .int .i64 0, .int .i64 0, .string ⟨#[]⟩, .slice (some ⟨w.heap.size + 1, 0, none⟩) st.size c] 57)
  rw [hzs] at hn
  refine bodyPost_ret (results_cell_row rfl _ _ w.heap.size 33 _ (0, 0) _ rfl (dblk hb hz0) Tryz.underlying33 rfl (by kernel_rfl)) rfl ?_
  have HR2 : RB (fun b => b ≠ w.heap.size) W (.slice (some ⟨w.heap.size + 1, 0, none⟩) st.size c) st.data.toList := by
    have h := HR.out
    rw [World.size_alloc] at h
    exact h.weak fun b _ hb => by omega
  exact ⟨_, _, rfl, (sle_one (E := Enc.op) (y := ⟨5, 0, 0, ⟨#[]⟩, st.data.toList⟩) (A := fun b => b ≠ w.heap.size) [.int .i64 5, .int .i64 0, .int .i64 0, .string ⟨#[]⟩, .slice (some ⟨w.heap.size + 1, 0, none⟩) st.size c] ⟨_, rfl, (HR2.mono hsm).mono (Same.of_ext hb)⟩ hn (by omega) (Nat.le_refl _)).weak fun _ _ _ => trivial, h2.trans (hb.mono (by omega))⟩
end Go.Proofs.YtohfckkgmijlnaaGreatDoor
