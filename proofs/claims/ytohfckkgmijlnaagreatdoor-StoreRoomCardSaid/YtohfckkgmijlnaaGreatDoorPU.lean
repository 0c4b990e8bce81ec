/- The walk of store.Names. (After the guide's page on ranges over functions.) Law 11: the walk of awake; a store of a law's own. Law 11: the walk of behind. Law 11, plainly: what removes, what writes. No program is named. -/
import Derived.Test.YtohfckkgmijlnaaGreatDoorPT
import Derived.Test.YtohfckkgmijlnaaGreatDoorPR
import Derived.Test.YtohfckkgmijlnaaGreatDoorDo11
namespace Go.Proofs.YtohfckkgmijlnaaGreatDoor
open Go.RowKit Go.Maps Go.Sort Go.Shelf Go.WideShapes
attribute [local go_sem] Oper.semAt_some

theorem nameB_size {n : ByteArray} (h : nameB n = true) : n.size ≤ 12 := by
  unfold nameB at h
  simp only [Bool.and_eq_true, decide_eq_true_eq] at h
  exact h.1.2
theorem sorted_any (p : Nat) (w : World) : CallsIn Fence.wide 7 Tryz.prog 28 #[.pointer (some ⟨p, 0, none⟩)] w fun e w' => e = .returned (.func (.func 41) #[] #[.pointer (some ⟨w.heap.size, 0, none⟩)]) ∧ w' = w.alloc (.cells #[.pointer (some ⟨p, 0, none⟩)] 24) := by
  refine callsIn_of_wp Tryz.func28 rfl trivial ?_ rfl
  simp only [Tryz.ntmps28, List.size_toArray, List.length_cons, List.length_nil, Nat.reduceAdd, Nat.reduceSub, Array.replicate_succ, Array.replicate_zero, List.push_toArray, List.append_toArray, List.nil_append, List.cons_append]
  gi_wp2
  go_ret
  exact ⟨rfl, rfl⟩
theorem sle_strs {base : Nat} {w : World} {v : Value} {l : List ByteArray} {t : TypeId} (h : w.ownsRow base t 1 v l.length (l.map Value.string)) (hm : ∀ x ∈ l, x.size ≤ maxLen) : SlE Enc.str (fun b => base ≤ b) w v l := by
  refine SlE.of_flat (cs := l.map fun x => [Value.string x]) (by simp) (fun i x c hi hc => ?_) ?_
  · simp only [List.getElem?_map, hi, Option.map_some, Option.some.injEq] at hc
    exact ⟨hc.symm, hm x (List.mem_of_getElem? hi)⟩
  · have e : (l.map fun x => [Value.string x]).flatten = l.map Value.string := by
      rw [← List.flatMap_def, List.map_eq_flatMap]
    rw [e]
    exact SlA.of_owns h
/-- what an append to the collected row keeps -/
theorem kpt_app {B : Nat} {W w1 : World} {v v' u : Value} {o : Obj} (hc : W.cell? ⟨B, 0, none⟩ = some v) (hg : (W.alloc o).grownBy w1 v.ownBlock) (hat : v'.ownBlock = v.ownBlock ∨ v'.ownBlock = some (W.alloc o).heap.size) (hn : (w1.setCell ⟨B, 0, none⟩ u).cell? ⟨B, 0, none⟩ = some v') : Kpt B W (w1.setCell ⟨B, 0, none⟩ u) := by
  have hs := hg.size
  simp only [World.size_alloc] at hs
  refine ⟨by simp [World.setCell]; omega, fun v0 h0 => ?_⟩
  rw [hc] at h0
  cases h0
  refine ⟨fun b cs t fr hb hne ho => ?_, v', hn, fun g h => ?_⟩
  · have hl := (Array.getElem?_eq_some_iff.1 hb).1
    exact (Below.heap_setCell _ _ _ b (fun e => hne e)).trans ((hg.block b (by simp; omega) (fun e => ho e.symm)).trans (Below.heap_alloc _ _ b hl))
  · rcases hat with h1 | h1
    · rw [h1] at h
      exact .inl h
    · rw [h1] at h
      simp at h
      exact .inr (by omega)
set_option maxRecDepth 100000 in
set_option maxHeartbeats 2000000 in
theorem snames_any (p b : Nat) (s : StD) (f : ByteArray) (w : World) (hS : IsSt w p b s) (hok : StOk s) :
    Calls Tryz.prog 20 #[.pointer (some ⟨p, 0, none⟩), .string f] w fun e w' => ∃ v', e = .returned v' ∧ SlE Enc.str (fun b => w.heap.size ≤ b) w' v' (namesP f s.l) ∧ Below w.heap.size w w' := by
  refine (callsIn_wide (n := 8)).1 ?_
  have hfN : Fence.wide.fn 28 := trivial
  refine callsIn_of_wp_marks Tryz.func20 rfl trivial ?_ rfl
  simp only [Tryz.ntmps20, List.size_toArray, List.length_cons, List.length_nil, Nat.reduceAdd, Nat.reduceSub, Array.replicate_succ, Array.replicate_zero, List.push_toArray, List.append_toArray, List.nil_append, List.cons_append]
  gi_wp2_with (gi_at_call 28; refine (sorted_any _ _).mono ?_; rintro e w' ⟨rfl, rfl⟩)
  obtain ⟨i0, hi, hz0, hz1, hz2⟩ := info_parts infoStr
  obtain ⟨W0, hW0⟩ : ∃ W0, W0 = ((w.alloc (.cells #[.string f] 9)).alloc (.cells #[.slice none 0 0] 47)).alloc (.cells #[.pointer (some ⟨p, 0, none⟩)] 24) := ⟨_, rfl⟩
  rw [← hW0]
  have hb0 : Below w.heap.size w W0 := by rw [hW0]; exact (((Below.refl _ w).alloc (Nat.le_refl _) _).alloc (by simp) _).alloc (by simp; omega) _
  have hs0 : W0.heap.size = w.heap.size + 3 := by rw [hW0]; simp
  have hcf : W0.cell? ⟨w.heap.size, 0, none⟩ = some (.string f) := by
    have h0 : W0.heap[w.heap.size]? = some (.cells #[.string f] 9 (0, 0)) := by
      rw [hW0]
      exact (Below.heap_alloc _ _ _ (by simp; omega)).trans ((Below.heap_alloc _ _ _ (by simp)).trans (heap_alloc_new _ _))
    exact (blk_cell h0).1
  have hbo : Boxed W0 (w.heap.size + 1) 47 (.slice none 0 0) := by
    have h := Boxed.new (w.alloc (.cells #[.string f] 9)) 47 (.slice none 0 0)
    rw [World.size_alloc] at h
    rw [hW0]
    exact h.alloc _
  have hcs : W0.cell? ⟨w.heap.size + 1 + 1, 0, none⟩ = some (.pointer (some ⟨p, 0, none⟩)) := by
    have h0 := heap_alloc_new ((w.alloc (.cells #[.string f] 9)).alloc (.cells #[.slice none 0 0] 47)) (.cells #[.pointer (some ⟨p, 0, none⟩)] 24)
    rw [World.size_alloc, World.size_alloc, ← hW0] at h0
    exact (blk_cell h0).1
  have HSEQ := sorted_stops (w.heap.size + 1) (w.heap.size + 1 + 1) p b s hok (.slice none 0 0) W0 (hS.ext hb0) hcs hbo.cell (fun g h => by simp [Value.ownBlock] at h)
  have hl3 : s.l.length ≤ 300 := Nat.le_trans hok.len hok.room
  have hnms : ∀ x ∈ s.l, x.1.size ≤ 1000 := fun x hx => by have := nameB_size (hok.nm x hx); omega
  have HNMS := Lib.hid hnms
  have HS0 : Hid (W0.heap.size = w.heap.size + 3) := Lib.hid hs0
  have HB0 := Lib.hid hb0
  clear hW0 hb0 hs0 hcs hok hS hnms
  refine wpIn_rangeFunc_ownF rfl (by omega) (gf := 41) (lb := #[.pointer (some ⟨w.heap.size + 1 + 1, 0, none⟩)]) rfl trivial (enters_of Tryz.func41 (by kernel_rfl) rfl)
    HSEQ (fun h k => Kpt.trans h k) (fun W l o o' _ h hc _ => Kpt.putObj W l o o' h hc) (Below.refl _ _) (fun _ => rfl)
    (fun pre W => (∃ v, Boxed W (w.heap.size + 1) 47 v ∧ W.ownsRow (w.heap.size + 1) 9 1 v (pre.filter (fun n => preS f n)).length ((pre.filter (fun n => preS f n)).map Value.string) ∧ True) ∧ (W.cell? ⟨w.heap.size, 0, none⟩ = some (.string f) ∧ Below w.heap.size w W))
    (fun _ _ _ => False)
    (OwnFrom.and (Own.from (holdsRow_own (w.heap.size + 1) (w.heap.size + 1) 47 9 1 (fun pre : List ByteArray => (pre.filter (fun n => preS f n)).length) (fun pre => (pre.filter (fun n => preS f n)).map Value.string) (fun _ _ => True)) _) (OwnFrom.and (Own.from (fun s A B row hs hg hr => cell_kept hs hg hr) _) (ownFrom_below (Nat.le_refl _) (by have := HS0.out; omega))))
    (fun _ _ _ _ _ hs _ _ => hs)
    ⟨⟨_, hbo, World.ownsRow_nil _ _ _ _, trivial⟩, hcf, HB0.out⟩
    (fun x => { tmps := #[.pointer (some ⟨p, 0, none⟩), .string f, undef, .pointer (some ⟨w.heap.size, 0, none⟩), .slice none 0 0, .pointer (some ⟨w.heap.size + 1, 0, none⟩), .string x, .pointer (some ⟨p, 0, none⟩), .bool false, undef, .pointer (some ⟨p, 0, none⟩), .func (.func 41) #[] #[.pointer (some ⟨w.heap.size + 1 + 1, 0, none⟩)], .string x, undef, undef, undef, undef, undef, undef, undef, undef], defers := [] }) ?assign ?body ?done ?stop
  case assign =>
    intro l x W K hK
    gi_wp2
    exact hK
  case body =>
    rintro l pre x W ⟨⟨v, hv, hrow, -⟩, hc, hB⟩ hlen
    obtain ⟨va, vc, rfl⟩ := owns_shape hrow
    have hvc := hv.cell
    have hvf := hv.frozen
    have hfl : (pre.filter (fun n => preS f n)).length ≤ 300 := Nat.le_trans (List.length_filter_le _ _) (by omega)
    have hBs := hB.size
    have HFX : Hid ((pre ++ [x]).filter (fun n => preS f n) = pre.filter (fun n => preS f n) ++ (if preS f x then [x] else [])) := Lib.hid (by
      rw [List.filter_append]
      congr 1
      simp [List.filter_cons])
    cases hp : preS f x with
    | false =>
      have HFX2 : Hid ((pre ++ [x]).filter (fun n => preS f n) = pre.filter (fun n => preS f n)) := Lib.hid (by rw [HFX.out, hp]; simp)
      have HV := Lib.hid hv
      have HR := Lib.hid hrow
      have HB := Lib.hid hB
      clear HFX hv hrow hB
      gi_wp2_with (refine ⟨trivial, ?_⟩; gi_at_call 29; refine (CallsIn.inRound l (callsIn_wide.2 (pref_any _ _ _))).mono ?_; rw [hp]; rintro e w' ⟨rfl, hw'⟩; rw [hw'])
      exact ⟨KeepsOthers.refl _, Kpt.refl _ _, ⟨_, HV.out, by rw [HFX2.out]; exact HR.out, trivial⟩, hc, HB.out⟩
    | true =>
      have HFX2 : Hid ((pre ++ [x]).filter (fun n => preS f n) = pre.filter (fun n => preS f n) ++ [x]) := Lib.hid (by rw [HFX.out, hp]; simp)
      have HV := Lib.hid hv
      have HR := Lib.hid hrow
      have HB := Lib.hid hB
      clear HFX hv hrow hB
      gi_wp2_with (first
        | (refine ⟨trivial, ?_⟩; gi_at_call 29; refine (CallsIn.inRound l (callsIn_wide.2 (pref_any _ _ _))).mono ?_; rw [hp]; rintro e w' ⟨rfl, hw'⟩; rw [hw'])
        | (gi_at_builtin; refine stop_in ?_))
      unfold Stop
      refine wpListIn_append_own_at _ rfl _ _ 47 rfl (w.heap.size + 1) 9 i0 (.string ByteArray.empty) 1 16 Tryz.underlying47 hi hz0 hz1 hz2 rfl (by decide) _ _ _ rfl (HR.out.alloc _) ⟨W.heap.size, 0, none⟩ 1 1 [.string x] rfl rfl (cell_one_new _ _ _) (by simp [Value.oneCell']) (by unfold maxLen; omega) (by omega) (by simp; omega) ?_
      intro v' w1 hown' hgrow _ hat
      obtain ⟨g', cap', rfl⟩ := ownsRow_succ hown'
      have hBs1 : w.heap.size + 1 ≤ W.heap.size := by
        have := World.block_lt_of_cell? W _ hvc
        simp at this
        omega
      have hnr := HV.out.not_row (by decide) HR.out
      obtain ⟨hv1, hv2, hr2, hk2, hb2⟩ := HV.out.appended (by decide) HR.out hBs1 (Nat.le_refl _) hown' hgrow
      have HKP := Lib.hid (kpt_app hvc hgrow hat hv2.cell)
      have HCF := Lib.hid ((hb2.cell (p := ⟨w.heap.size, 0, none⟩) (Nat.lt_succ_self _)).trans hc)
      have HBB := Lib.hid (HB.out.trans (hb2.mono (Nat.le_succ _)))
      have HK2 := Lib.hid hk2
      have HR2 := Lib.hid hr2
      have HV2 := Lib.hid hv2
      have hc1 := hv1.cell
      have hf1 := hv1.frozen
      clear hat hgrow hown' hb2 hk2 hr2 hv2 hv1 hnr
      gi_wp2
      exact ⟨HK2.out, HKP.out, ⟨_, HV2.out, (by rw [HFX2.out]; simpa using HR2.out), trivial⟩, HCF.out, HBB.out⟩
  case done =>
    rintro D ys W hD rfl ⟨⟨v, hv, hrow, -⟩, hc, hB⟩ hK
    obtain ⟨va, vc, rfl⟩ := owns_shape hrow
    have hvc := hv.cell
    have HR := Lib.hid hrow
    have HB := Lib.hid hB
    have HS := HS0.out
    clear hrow hB hv hc
    gi_wp2
    refine ⟨by simp, .inl ⟨_, _, rfl, run_takeDeferred hK, ?_⟩⟩
    have HO := ownsRow_putObj HR.out (.deferred none) hK rfl
    exact ⟨_, results_tmp rfl _ _ _, _, rfl, (sle_strs HO fun x hx => by
      obtain ⟨y, hy, rfl⟩ := List.mem_map.1 (List.mem_filter.1 hx).1
      have := HNMS.out y hy
      unfold maxLen
      omega).weak fun b _ h => by omega, HB.out.trans (belowK_b (w := w) (Nat.le_refl _) W D _ _ (by omega) hK rfl rfl)⟩
  case stop =>
    rintro D c pre W _ _ h _
    exact h.elim
theorem snames_nil (f : ByteArray) (w : World) : Calls Tryz.prog 20 #[.pointer none, .string f] w fun e w' => ∃ v', e = .returned v' ∧ SlE Enc.str (fun b => w.heap.size ≤ b) w' v' [] ∧ Below w.heap.size w w' := by
  go_enter Tryz.func20, Tryz.ntmps20
  go_wp2
  go_ret
  exact ⟨_, rfl, SlE.nil _ _ _, ((Below.refl _ w).alloc (Nat.le_refl _) _).alloc (by simp) _⟩
end Go.Proofs.YtohfckkgmijlnaaGreatDoor
namespace Go.Proofs.YtohfckkgmijlnaaGreatDoor
open Go.RowKit Go.Maps Go.WideShapes
attribute [local go_sem ↓] Go.wp_at_zero Go.wp_at_succ

/-- a store that was made since the world w0 -/
structure StAt (w0 W : World) (p b : Nat) (s : StD) : Prop where
  mk ::
  st : IsSt W p b s
  ok : StOk s
  nb : w0.heap.size ≤ b
  bel : Below w0.heap.size w0 W
section
variable {w0 W W' : World} {p b : Nat} {s : StD}
theorem StAt.ext (h : StAt w0 W p b s) (hb : Below W.heap.size W W') : StAt w0 W' p b s := ⟨h.st.ext hb, h.ok, h.nb, h.bel.trans (hb.mono h.bel.size)⟩
theorem StAt.newC (w0 W : World) (hb : Below w0.heap.size w0 W) (r : Int) : Calls Tryz.prog 10 #[.int .i64 r] W fun e w' => ∃ p b : Nat, e = .returned (.pointer (some ⟨p, 0, none⟩)) ∧ StAt w0 w' p b ⟨(min (max r 0) 300).toNat, []⟩ ∧ Below W.heap.size W w' := by
  refine (snew_any r W).mono ?_
  rintro e w' ⟨p, b, rfl, hp, hbb, -, hS, hB⟩
  exact ⟨p, b, rfl, ⟨hS, StOk.new (by omega), Nat.le_trans hb.size hbb, hb.trans (hB.mono hb.size)⟩, hB⟩
theorem StAt.doC (h : StAt w0 W p b s) (hE : ErrT w0) {B : Nat → Prop} {t : TxD} {va : Value} (ho : SlE Enc.op B W va t.ops) (hop : ∀ op ∈ t.ops, op.data.length ≤ 50000) (hob : t.obj.size ≤ 1000000) :
    Calls Tryz.prog 13 #[.pointer (some ⟨p, 0, none⟩), .agg #[.string t.obj, va]] W fun e w' => e = .returned (.int .i64 (stDo s t).2) ∧ StAt w0 w' p b (stDo s t).1 ∧ Fr (fun k => k = b) W w' := by
  refine (sdo_any B p b s t va W h.st h.ok ho hop hob (hE.ext h.bel)).mono ?_
  rintro e w' ⟨rfl, hS, hf⟩
  exact ⟨rfl, ⟨hS, stDo_ok h.ok t, h.nb, h.bel.trans (hf.below h.bel.size fun k hk e => by have := h.nb; have e : k = b := e; omega)⟩, hf⟩
/-- a box stands where the map is turned -/
theorem StAt.blk (h : StAt w0 W p b s) (hf : Fr (fun k => k = b) W W') {k : Nat} {cs : Array Value} {t : TypeId} {fr : Nat × Nat} (hk : W.heap[k]? = some (.cells cs t fr)) : W'.heap[k]? = some (.cells cs t fr) :=
  (hf.block k (Array.getElem?_eq_some_iff.1 hk).1 fun e => by
    have e : k = b := e
    subst e
    exact h.st.map.no_cells _ _ _ hk).trans hk
theorem StAt.soft (h : StAt w0 W p b s) (hf : Fr (fun k => k = b) W W') : Soft W W' := Soft.of_fr hf fun k hk cs t fr e => by
  have hk : k = b := hk
  subst hk
  exact absurd e (h.st.map.no_cells _ _ _)
theorem StAt.getC (h : StAt w0 W p b s) (nm : ByteArray) (hn : nm.size ≤ 1000000) :
    Calls Tryz.prog 15 #[.pointer (some ⟨p, 0, none⟩), .string nm] W fun e w' => ∃ a c u q, e = .returned (.tuple #[.agg #[.slice a (s.obj nm).data.length c, .slice u (s.obj nm).keys.length q, .int .i64 (s.obj nm).seq], .bool (s.is nm)]) ∧
      Own8 W.heap.size w' (.slice a (s.obj nm).data.length c) (.slice u (s.obj nm).keys.length q) (s.obj nm) ∧ Below W.heap.size W w' ∧ StAt w0 w' p b s := by
  refine (sget_any p b s nm W h.st h.ok hn).mono ?_
  rintro e w' ⟨dv, kv, rfl, ho, hb⟩
  obtain ⟨⟨a, c, rfl⟩, ⟨u, q, rfl⟩⟩ := own8_shape ho
  exact ⟨a, c, u, q, rfl, ho, hb, h.ext hb⟩
theorem StAt.lenC (h : StAt w0 W p b s) : Calls Tryz.prog 18 #[.pointer (some ⟨p, 0, none⟩)] W fun e w' => e = .returned (.int .i64 s.l.length) ∧ W = w' := slen_any p b s W h.st
theorem StAt.namesC (h : StAt w0 W p b s) (f : ByteArray) : Calls Tryz.prog 20 #[.pointer (some ⟨p, 0, none⟩), .string f] W fun e w' => ∃ a c, e = .returned (.slice a (namesP f s.l).length c) ∧ SlE Enc.str (fun b => W.heap.size ≤ b) w' (.slice a (namesP f s.l).length c) (namesP f s.l) ∧ Below W.heap.size W w' ∧ StAt w0 w' p b s := by
  refine (snames_any p b s f W h.st h.ok).mono ?_
  rintro e w' ⟨v, rfl, hv, hb⟩
  obtain ⟨a, c, rfl⟩ := hv.shape
  exact ⟨a, c, rfl, hv, hb, h.ext hb⟩
end
def opW (b : List UInt8) : List OpD := [⟨5, 0, 0, ⟨#[]⟩, b⟩]
def opR : List OpD := [⟨13, 0, 0, ⟨#[]⟩, []⟩]
def aw1 : StD × Int := stDo ⟨1, []⟩ ⟨⟨#[97]⟩, opW [120]⟩
def aw2 : StD × Int := stDo aw1.1 ⟨⟨#[98]⟩, opW [121]⟩
def aw3 : StD × Int := stDo aw2.1 ⟨⟨#[97]⟩, opR⟩
def aw4 : StD × Int := stDo aw3.1 ⟨⟨#[98]⟩, opW [121]⟩
theorem aw1e : aw1.2 = 0 := by kernel_rfl
theorem aw2e : aw2.2 = 110 := by kernel_rfl
theorem aw2o : (aw2.1.obj ⟨#[97]⟩).data = [120] := by kernel_rfl
theorem aw2i : aw2.1.is ⟨#[97]⟩ = true := by kernel_rfl
theorem aw3e : aw3.2 = 0 := by kernel_rfl
theorem aw4e : aw4.2 = 0 := by kernel_rfl
theorem aw4l : aw4.1.l.length = 1 := by kernel_rfl
theorem aw4n : (namesP ⟨#[]⟩ aw4.1.l).length = 1 := by kernel_rfl
theorem opW_dat {b : List UInt8} (h : b.length ≤ 50000) : ∀ op ∈ opW b, op.data.length ≤ 50000 := by
  intro o ho
  simp [opW] at ho
  subst ho
  exact h
set_option maxRecDepth 100000 in
set_option maxHeartbeats 8000000 in
theorem awake11_any (w : World) (hE : ErrT w) : Calls Tryz.prog 9 #[] w fun e w' => e = .returned (.bool true) ∧ Below w.heap.size w w' := by
  have HE := Lib.hid hE
  clear hE
  go_enter Tryz.func9, Tryz.ntmps9
  go_wp2_with fail
  refine (StAt.newC w w (Below.refl _ _) 1).mono ?_
  rintro e w1 ⟨p, b, rfl, hS1, hb1⟩
  have HS1 : Hid (StAt w w1 p b ⟨1, []⟩) := Lib.hid hS1
  clear hS1 hb1
  go_wp2_with fail
  refine (write11_any _ _ _).mono ?_
  rintro e w2 ⟨a2, c2, rfl, ho2, hb2⟩
  have HS2 := Lib.hid (HS1.out.ext hb2)
  have HO2 := Lib.hid ho2
  clear ho2 hb2 HS1
  go_wp2_with fail
  refine (HS2.out.doC HE.out (t := ⟨⟨#[97]⟩, opW [120]⟩) HO2.out (opW_dat (by decide)) (by decide)).mono ?_
  rintro e w3 ⟨rfl, hS3, -⟩
  rw [show (stDo ⟨1, []⟩ ⟨⟨#[97]⟩, opW [120]⟩).2 = 0 from aw1e]
  have HS3 : Hid (StAt w w3 p b aw1.1) := Lib.hid hS3
  clear hS3 HS2 HO2
  go_wp2_with fail
  refine (write11_any _ _ _).mono ?_
  rintro e w4 ⟨a4, c4, rfl, ho4, hb4⟩
  have HS4 := Lib.hid (HS3.out.ext hb4)
  have HO4 := Lib.hid ho4
  clear ho4 hb4 HS3
  go_wp2_with fail
  refine (HS4.out.doC HE.out (t := ⟨⟨#[98]⟩, opW [121]⟩) HO4.out (opW_dat (by decide)) (by decide)).mono ?_
  rintro e w5 ⟨rfl, hS5, -⟩
  rw [show (stDo aw1.1 ⟨⟨#[98]⟩, opW [121]⟩).2 = 110 from aw2e]
  have HS5 : Hid (StAt w w5 p b aw2.1) := Lib.hid hS5
  clear hS5 HS4 HO4
  go_wp2_with fail
  refine (HS5.out.getC ⟨#[97]⟩ (by decide)).mono ?_
  rintro e w6 ⟨a6, c6, u6, q6, rfl, ho6, hb6, hS6⟩
  rw [aw2i]
  have HS6 := Lib.hid hS6
  have hv6 := ho6.data.rb
  obtain ⟨X, hX⟩ : ∃ X, X = aw2.1.obj ⟨#[97]⟩ := ⟨_, rfl⟩
  rw [← hX] at hv6 ⊢
  have hd : X.data = [120] := by rw [hX]; exact aw2o
  obtain ⟨xd, xk, xs⟩ := X
  simp only at hd
  subst hd
  have HV6 := Lib.hid hv6
  clear ho6 hb6 hS6 HS5 hX hv6
  go_upto_region 5 with fail
  obtain ⟨w7, hw7⟩ : ∃ w7, w7 = w6.alloc (.cells #[.slice a6 1 c6, .slice u6 xk.length q6, .int .i64 xs] 41) := ⟨_, rfl⟩
  rw [← hw7]
  have hb7 : Below w6.heap.size w6 w7 := by rw [hw7]; exact (Below.refl _ w6).alloc (Nat.le_refl _) _
  have R7 : w7.heap[w6.heap.size]? = some (.cells #[.slice a6 1 c6, .slice u6 xk.length q6, .int .i64 xs] 41 (0, 0)) := by rw [hw7]; exact heap_alloc_new _ _
  have HS7 := Lib.hid (HS6.out.ext hb7)
  have HV7 := Lib.hid (HV6.out.mono (Same.of_ext hb7))
  have HR7 := Lib.hid R7
  clear hw7 hb7 R7 HS6 HV6
  go_wp2_with fail
  obtain ⟨w8, hw8⟩ : ∃ w8, w8 = w7.alloc (.cells #[.int .i64 13, .int .i64 0, .int .i64 0, .string ⟨#[]⟩, .slice none 0 0] 57) := ⟨_, rfl⟩
  rw [← hw8]
  have hb8 : Below w7.heap.size w7 w8 := by rw [hw8]; exact (Below.refl _ w7).alloc (Nat.le_refl _) _
  have ho8 : SlE Enc.op (fun _ => True) w8 (.slice (some ⟨w7.heap.size, 0, none⟩) 1 1) opR := by
    rw [hw8]
    exact sle_one (E := Enc.op) (y := ⟨13, 0, 0, ⟨#[]⟩, []⟩) [.int .i64 13, .int .i64 0, .int .i64 0, .string ⟨#[]⟩, .slice none 0 0] ⟨_, rfl, RB.nil _ _⟩ (heap_alloc_new _ _) trivial (Nat.le_refl _)
  have HS8 := Lib.hid (HS7.out.ext hb8)
  have HV8 := Lib.hid (HV7.out.mono (Same.of_ext hb8))
  have HR8 := Lib.hid (dblk hb8 HR7.out)
  have HO8 := Lib.hid ho8
  clear hw8 hb8 ho8 HS7 HV7 HR7
  refine (HS8.out.doC HE.out (t := ⟨⟨#[97]⟩, opR⟩) HO8.out (by decide) (by decide)).mono ?_
  rintro e w9 ⟨rfl, hS9, hf9⟩
  rw [show (stDo aw2.1 ⟨⟨#[97]⟩, opR⟩).2 = 0 from aw3e]
  have HS9 : Hid (StAt w w9 p b aw3.1) := Lib.hid hS9
  have HV9 := Lib.hid (HV8.out.soft (HS8.out.soft hf9))
  have HR9 := Lib.hid (HS8.out.blk hf9 HR8.out)
  clear hS9 hf9 HS8 HO8 HV8 HR8
  go_wp2_with fail
  refine (write11_any _ _ _).mono ?_
  rintro e w10 ⟨a10, c10, rfl, ho10, hb10⟩
  have HS10 := Lib.hid (HS9.out.ext hb10)
  have HO10 := Lib.hid ho10
  have HV10 := Lib.hid (HV9.out.mono (Same.of_ext hb10))
  have HR10 := Lib.hid (dblk hb10 HR9.out)
  clear ho10 hb10 HS9 HV9 HR9
  go_wp2_with fail
  refine (HS10.out.doC HE.out (t := ⟨⟨#[98]⟩, opW [121]⟩) HO10.out (opW_dat (by decide)) (by decide)).mono ?_
  rintro e w11 ⟨rfl, hS11, hf11⟩
  rw [show (stDo aw3.1 ⟨⟨#[98]⟩, opW [121]⟩).2 = 0 from aw4e]
  have HS11 : Hid (StAt w w11 p b aw4.1) := Lib.hid hS11
  have hv11 := HV10.out.soft (HS10.out.soft hf11)
  have hr11 := HS10.out.blk hf11 HR10.out
  have hcv : (Go.convert 38 9 (.slice a6 1 c6)).run Tryz.prog w11 = .ok (.string ⟨#[120]⟩) w11 := conv_bytes hv11 w11 (Below.refl _ _)
  have hcl := HS11.out.lenC
  rw [aw4l] at hcl
  obtain ⟨y0, -⟩ := blk_cell (i := 0) hr11
  simp at y0
  have HCL := Lib.hid hcl
  clear hS11 hf11 HS10 HO10 HV10 HR10 hv11 hr11 hcl
  go_wp2_with fail
  refine HCL.out.mono ?_
  rintro e w' ⟨rfl, rfl⟩
  have hcn := HS11.out.namesC ⟨#[]⟩
  rw [aw4n] at hcn
  have HCN := Lib.hid hcn
  clear hcn
  go_wp2_with fail
  refine HCN.out.mono ?_
  rintro e w12 ⟨a12, c12, rfl, -, hb12, -⟩
  have HB := Lib.hid (HS11.out.bel.trans (hb12.mono HS11.out.bel.size))
  clear hb12
  go_wp2
  go_ret
  exact ⟨rfl, HB.out⟩
end Go.Proofs.YtohfckkgmijlnaaGreatDoor
namespace Go.Proofs.YtohfckkgmijlnaaGreatDoor
open Go.RowKit Go.Maps Go.WideShapes
attribute [local go_sem ↓] Go.wp_at_zero Go.wp_at_succ

/-- what behind leaves -/
def BehO (w0 : World) (r : Int) (e : Ending) (w' : World) : Prop := ∃ (p b : Nat) (s : StD), e = .returned (.pointer (some ⟨p, 0, none⟩)) ∧ StAt w0 w' p b s ∧ s.room = (min (max r 0) 300).toNat ∧ s.l.length ≤ 30
theorem stDo_len (s : StD) (t : TxD) : (stDo s t).1.l.length ≤ s.l.length + 1 := by
  unfold stDo
  simp only
  repeat' split
  · simp
  · have := delS_len t.obj s.l
    show (delS t.obj s.l).length ≤ _
    omega
  · simp
  · show (putS _ _ _).length ≤ _
    rw [putS_len]
    have := delS_len t.obj s.l
    omega
set_option maxRecDepth 100000 in
set_option maxHeartbeats 4000000 in
theorem behind_any (w0 W : World) (hb : Below w0.heap.size w0 W) (hE : ErrT w0) (r : Int) (v : Value) (l : List TxD) (hl : SlE Enc.txn (fun b => b < w0.heap.size) w0 v l) :
    Calls Tryz.prog 22 #[.int .i64 r, v] W (BehO w0 r) := by
  obtain ⟨va, vc, rfl⟩ := hl.shape
  have HL := Lib.hid hl
  have HE := Lib.hid hE
  have HB := Lib.hid hb
  have hlen : l.length ≤ maxLen ∨ True := .inr trivial
  clear hl hE hb hlen
  go_enter Tryz.func22, Tryz.ntmps22
  go_wp2_with fail
  refine (StAt.newC w0 W HB.out r).mono ?_
  rintro e w1 ⟨p, b, rfl, hS1, hb1⟩
  have HS1 := Lib.hid hS1
  clear hS1 hb1
  go_wp2_with fail
  go_loopw [6] (fun i wr => ∃ (k : Nat) (s : StD), k ≤ l.length ∧ k ≤ 30 ∧ i = .int .i64 k ∧ StAt w0 wr p b s ∧ s.room = (min (max r 0) 300).toNat ∧ s.l.length ≤ k) (fun i _ => l.length - (intOf i).toNat)
  case atStart => exact ⟨0, _, Nat.zero_le _, by omega, rfl, HS1.out, rfl, Nat.le_refl _⟩
  case round =>
    obtain ⟨k, s, hk, hk3, rfl, hS, hroom, hlk⟩ := hrel
    have HLK := Lib.hid hlk
    clear hlk
    have HS := Lib.hid hS
    have HRM := Lib.hid hroom
    clear hroom
    by_cases hlt : k < l.length
    · by_cases h30 : k < 30
      · have hlr := HL.out.mono (Same.of_below hS.bel (fun b h => h))
        obtain ⟨g, off, oa, oc, rfl, hg, hgA, c0, c1, ho⟩ := Txns.at hlr hlt
        have HO := Lib.hid ho
        have HG := Lib.hid hgA
        have hk5 : (k : Int) < l.length := by omega
        have hk6 : (k : Int) < 30 := by omega
        clear ho hlr hS hgA
        obtain ⟨t, ht⟩ : ∃ t, t = l[k] := ⟨_, rfl⟩
        rw [← ht] at c0 c1 HO
        have hfw := few11_any _ t _ wr HO.out
        have HF := Lib.hid hfw
        clear ht hfw
        go_wp2_with fail
        refine HF.out.mono ?_
        rintro e w3 ⟨y, rfl, hy, hb3⟩
        have HY := Lib.hid hy
        have HS3 := Lib.hid (HS.out.ext hb3)
        have HO3 := Lib.hid (HO.out.ext hb3)
        have d0 := cellExt hb3 c0
        have d1 := cellExt hb3 c1
        have hg3 : g < w3.heap.size := Nat.lt_of_lt_of_le hg hb3.size
        clear hy hb3 c0 c1 HS HO HF
        cases y with
        | false =>
          go_wp2
          go_roundw
          case rel => exact ⟨k + 1, s, by omega, by omega, by go_num, HS3.out, HRM.out, Nat.le_succ_of_le HLK.out⟩
          case measure => simp [intOf]; omega
        | true =>
          have HFW := Lib.hid (HY.out rfl)
          go_wp2_with fail
          refine (HS3.out.doC HE.out (t := t) HO3.out HFW.out.dat HFW.out.ob).mono ?_
          rintro e w4 ⟨rfl, hS4, -⟩
          have HS4 := Lib.hid hS4
          clear hS4
          go_wp2
          go_roundw
          case rel => exact ⟨k + 1, _, by omega, by omega, by go_num, HS4.out, by rw [stDo_room]; exact HRM.out, Nat.le_trans (stDo_len _ _) (Nat.succ_le_succ HLK.out)⟩
          case measure => simp [intOf]; omega
      · have hk6 : ¬ (k : Int) < 30 := by omega
        have hk5 : (k : Int) < l.length := by omega
        clear hS
        go_wp2
        go_ret
        exact ⟨_, _, _, rfl, HS.out, HRM.out, Nat.le_trans HLK.out hk3⟩
    · have hk5 : ¬ (k : Int) < l.length := by omega
      clear hS
      go_wp2
      go_ret
      exact ⟨_, _, _, rfl, HS.out, HRM.out, Nat.le_trans HLK.out hk3⟩
end Go.Proofs.YtohfckkgmijlnaaGreatDoor
namespace Go.Proofs.YtohfckkgmijlnaaGreatDoor
open Go.RowKit

theorem txDo_rem {o : ObD} {th : Bool} {nm : ByteArray} (hn : nameB nm = true) (hm : mayB o = true) : txDo o th ⟨nm, opR⟩ = ⟨ObD.none, false, 0⟩ := by
  have he : txE ⟨nm, opR⟩ = 0 := by
    have hz : (⟨#[]⟩ : ByteArray).size = 0 := rfl
    unfold txE opR
    simp [hn, opB, opP, hz]
  unfold txDo
  rw [if_pos he, if_pos hm]
  have hv := mayB_of (th := th) hm
  generalize (if th then o else ObD.none) = v at hv
  simp [opR, runT, doB, hv, guardB, changeB, thereB]
theorem txDo_wr {o : ObD} {th : Bool} {nm : ByteArray} {b : List UInt8} (hn : nameB nm = true) (hm : mayB o = true) (hb : b.length ≤ 64) :
    txDo o th ⟨nm, opW b⟩ = ⟨{ (if th then o else ObD.none) with data := writeD (if th then o else ObD.none).data 0 b }, true, 0⟩ := by
  have he : txE ⟨nm, opW b⟩ = 0 := by
    have hz : (⟨#[]⟩ : ByteArray).size = 0 := rfl
    unfold txE opW
    simp [hn, opB, opP, hz]
    omega
  have hs : spotB 0 b.length = true := by simp [spotB]; omega
  unfold txDo
  rw [if_pos he, if_pos hm]
  have hv := mayB_of (th := th) hm
  have ht : (if th = true then o else ObD.none) = (if th then o else ObD.none) := rfl
  cases th with
  | true => simp [opW, runT, doB, hm, guardB, changeB, thereB, hs]
  | false => simp [opW, runT, doB, mayB_none, guardB, changeB, thereB, hs]
theorem writeD_nil (b : List UInt8) : writeD [] 0 b = b := by simp [writeD]
/-- what is removed isn't there, and what is written anew begins empty -/
theorem st_gone {s : StD} {nm : ByteArray} (hok : StOk s) (hn : nameB nm = true) : stDo s ⟨nm, opR⟩ = (⟨s.room, delS nm s.l⟩, 0) := by
  have h := txDo_rem (th := s.is nm) hn (hok.obj nm)
  exact stDo_gone (t := ⟨nm, opR⟩) (by rw [show (⟨nm, opR⟩ : TxD).obj = nm from rfl, h]) (by rw [show (⟨nm, opR⟩ : TxD).obj = nm from rfl, h])
theorem is_del (s : StD) (nm : ByteArray) (r : Nat) : (⟨r, delS nm s.l⟩ : StD).is nm = false := by
  unfold StD.is
  show (getS nm (delS nm s.l)).isSome = false
  rw [getS_del, if_pos rfl]
  rfl
theorem st_anew {s : StD} {nm : ByteArray} {b : List UInt8} (hok : StOk s) (hn : nameB nm = true) (hi : s.is nm = false) (hl : s.l.length < s.room) (hb : b.length ≤ 64) :
    stDo s ⟨nm, opW b⟩ = (⟨s.room, putS nm ⟨b, [], 0⟩ s.l⟩, 0) := by
  have h := txDo_wr (th := s.is nm) hn (hok.obj nm) hb
  rw [hi] at h
  have h2 : txDo (s.obj nm) false ⟨nm, opW b⟩ = ⟨⟨b, [], 0⟩, true, 0⟩ := by rw [h]; simp [ObD.none, writeD_nil]
  have h3 : txDo (s.obj (⟨nm, opW b⟩ : TxD).obj) (s.is (⟨nm, opW b⟩ : TxD).obj) ⟨nm, opW b⟩ = ⟨⟨b, [], 0⟩, true, 0⟩ := by rw [show (⟨nm, opW b⟩ : TxD).obj = nm from rfl, hi]; exact h2
  rw [stDo_put (by rw [h3]) (by rw [h3]) (fun h => by have := h.2; omega), h3]
theorem obj_put {s : StD} {nm : ByteArray} {o : ObD} {r : Nat} (hu : UpS s.l) : (⟨r, putS nm o s.l⟩ : StD).obj nm = o ∧ (⟨r, putS nm o s.l⟩ : StD).is nm = true := by
  unfold StD.obj StD.is
  show (getS nm (putS nm o s.l)).getD ObD.none = o ∧ (getS nm (putS nm o s.l)).isSome = true
  rw [getS_put hu, if_pos rfl]
  exact ⟨rfl, rfl⟩
theorem len_put {nm : ByteArray} {o : ObD} {l : List (ByteArray × ObD)} (h : getS nm l = none) : (putS nm o l).length = l.length + 1 := by
  rw [putS_len, delS_none h]
theorem is_none {s : StD} {nm : ByteArray} (h : s.is nm = false) : getS nm s.l = none := by
  unfold StD.is at h
  cases hg : getS nm s.l with
  | none => rfl
  | some v => rw [hg] at h; cases h
end Go.Proofs.YtohfckkgmijlnaaGreatDoor
