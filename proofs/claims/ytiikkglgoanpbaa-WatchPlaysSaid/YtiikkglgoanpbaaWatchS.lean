/- The walks of maps.Clone and Notify. -/
import Derived.Test.YtiikkglgoanpbaaWatchR
import Derived.Shelf.SlMaps.Clone
import Derived.StillTailTactics
import Derived.Deep.RegionHeld3
namespace Go.Proofs.Ytiikkglgoanpbaa
open Go.RowKit Go.Maps Go.WideShapes

theorem MapI.clone {P : Program} {K : TypeId} {w : World} {b : Nat} {l : IV} (h : MapI P K w b l) {es : Array MapEntry} {c : Nat} (hb : w.heap[b]? = some (.map es c)) {w' : World} {b' : Nat} (hb' : w'.heap[b']? = some (.map es c)) : MapI P K w' b' l := by
  obtain ⟨⟨es1, c1, hh, r⟩, hu, ho⟩ := h
  rw [hh] at hb
  cases hb
  exact ⟨⟨es, c, hb', r⟩, hu, ho⟩

set_option maxRecDepth 100000 in
set_option maxHeartbeats 1600000 in
theorem clone_any (b : Nat) (l : IV) (w : World) (hm : MI w b l) :
    Calls Try.prog 28 #[.map (some b)] w fun e w' => e = .returned (.map (some w.heap.size)) ∧ MI w' w.heap.size l ∧ Below w.heap.size w w' ∧ w'.heap.size = w.heap.size + 1 := by
  obtain ⟨es, c, hb⟩ : ∃ es c, w.heap[b]? = some (.map es c) := by
    obtain ⟨⟨es, c, hh, r⟩, hu, ho⟩ := hm
    exact ⟨es, c, hh⟩
  have hq := fun w => run_eql_map_nil_sl (P := Try.prog) w 54 _ _ (some b) Try.underlying54
  have HM := Lib.hid hm
  clear hm
  go_enter Try.func28, Try.ntmps28
  go_wp2
  rw [run_callFunc_extern Try.func33 (by kernel_rfl) (by kernel_rfl) (by kernel_rfl) (e := Extern.MapsClone.clone) (by kernel_rfl), run_maps_clone_sl w 54 hb]
  simp only [Result.andThen]
  rw [Oper.upon_value]
  go_wp2
  rw [run_typeAssert_map_sl _ 54 20 _ _ _ Try.underlying54]
  simp only [Result.andThen]
  rw [Oper.upon_value]
  go_wp2
  go_ret
  exact ⟨rfl, HM.out.clone hb (heap_alloc_new w _), (Below.refl _ w).alloc (Nat.le_refl _) _, by simp⟩

theorem mayI_nat {at_ : Int} (h : mayI at_ = true) : ∃ i : Nat, at_ = i ∧ i < 4 := by
  simp [mayI] at h
  obtain ⟨i, rfl⟩ := Int.eq_ofNat_of_zero_le h.1
  exact ⟨i, rfl, by omega⟩

def Brd.tick (B : Brd) : Brd := { B with last := B.last + 1 }
def Brd.note (B : Brd) (s : Nat) (at_ : Int) (l : List Int) : Brd := { B with last := B.last + 1, ns := B.ns ++ [⟨B.last + 1, at_, s + 1, s, l⟩] }
def clampT (now : Int) : Int := min (max now 0) 1099511627776

theorem ntV_put {ns : List Nt} {n : Nt} (h : ∀ m ∈ ns, m.id < n.id) : putI n.id (.pointer (some ⟨n.blk, 0, none⟩)) (ntV ns) = ntV (ns ++ [n]) := by
  have hd : delI n.id (ntV ns) = ntV ns := by
    refine List.filter_eq_self.2 ?_
    intro p hp
    obtain ⟨m, hm, rfl⟩ := List.mem_map.1 hp
    have := h m hm
    have : m.id ≠ n.id := by omega
    simp [this]
  rw [putI, hd]
  clear hd
  induction ns with
  | nil => rfl
  | cons a ns ih =>
    have ha := h a (by simp)
    have := ih fun m hm => h m (by simp [hm])
    simp only [ntV, List.map_cons, List.cons_append, insI] at *
    rw [if_neg (by omega), this]

theorem IsB.noted {w w2 w3 : World} {B : Brd} {s : Nat} {at_ : Int} {l : List Int} (h : IsB w B) (hs : s = w.heap.size) (hid : ∀ m ∈ B.ns, m.id < B.last + 1)
    (hsz : w2.heap.size = s + 2) (hk : ∀ k, k < s → k ≠ B.pb → w2.heap[k]? = w.heap[k]?) (hp : w2.heap[B.pb]? = some (.cells B.tick.cells 57 (0, 0)))
    (hn : w2.heap[s + 1]? = some (.cells #[.int .i64 at_, .map (some s)] 62 (0, 0))) (hm : MI w2 s (setV l))
    (h3 : MI w3 B.nb (putI (B.last + 1) (.pointer (some ⟨s + 1, 0, none⟩)) (ntV B.ns))) (ht : w2.mapTurned w3 B.nb) : IsB w3 (B.note s at_ l) := by
  have hlt := h.lt
  have hnd := h.nodup
  have hne := h.wm_ne.2
  have hbn : B.nb ≠ B.pb := by
    have := h.nodup
    simp only [Brd.fp, List.nodup_cons, List.mem_cons, not_or] at this
    exact fun e => this.1.1 e.symm
  have hnb : B.nb < s := hs ▸ hlt _ (by simp [Brd.fp])
  have hpb : B.pb < s := hs ▸ hlt _ (by simp [Brd.fp])
  have t3 : ∀ k, k ≠ B.nb → w3.heap[k]? = w2.heap[k]? := fun k hk => turned_block ht hk
  refine ⟨(t3 _ (Ne.symm hbn)).trans hp, ?_, ?_, ?_, ?_⟩
  · intro i hi
    obtain ⟨e1, e2, e3⟩ := hne i hi
    have : B.wm i < s := hs ▸ (h.watch i hi).lt
    exact (h.watch i hi).block ((t3 _ e2).trans (hk _ this e1))
  · show MI w3 B.nb (ntV (B.ns ++ [⟨B.last + 1, at_, s + 1, s, l⟩]))
    rw [← ntV_put (n := ⟨B.last + 1, at_, s + 1, s, l⟩) hid]
    exact h3
  · intro n hnn
    rcases List.mem_append.1 hnn with hnn | hnn
    · obtain ⟨a1, a2, a3, a4, a5⟩ := h.apart hnn
      have q1 : n.blk < s := hs ▸ lt_of_block (h.each n hnn).1
      have q2 : n.mb < s := hs ▸ (h.each n hnn).2.lt
      exact ⟨((t3 _ a4).trans (hk _ q1 a3)).trans (h.each n hnn).1, (h.each n hnn).2.block ((t3 _ a2).trans (hk _ q2 a1))⟩
    · simp at hnn
      subst hnn
      exact ⟨(t3 _ (by simp; omega)).trans hn, hm.block (t3 _ (by simp; omega))⟩
  · have hfp : (B.note s at_ l).fp = B.fp ++ [s + 1, s] := by simp [Brd.fp, Brd.note]
    rw [hfp, List.nodup_append]
    refine ⟨hnd, by simp, ?_⟩
    intro a ha b hb
    have := hlt a ha
    simp at hb
    omega

theorem Fr.then {S : Nat → Prop} {w w' w'' : World} (h : Fr S w w') (k : Below w'.heap.size w' w'') : Fr S w w'' := h.trans (Fr.ext (S := fun _ => False) k) fun _ _ e => e.elim

set_option maxRecDepth 100000 in
theorem note_key (B : Brd) (i : Nat) (who now : Int) (w : World) (hB : IsB w B) (hi : i < 4) (hwo : okI who) (h0 : 0 ≤ B.last) (h1 : B.last ≤ 1000000) (hid : ∀ m ∈ B.ns, m.id < B.last + 1) (hnl : B.ns.length ≤ 100000) (w1 : World)
    (hm1 : MI w1 (w.setCell ⟨B.pb, 5, none⟩ (.int .i64 (B.last + 1))).heap.size (setV (B.wl i))) (hb1 : Below (w.setCell ⟨B.pb, 5, none⟩ (.int .i64 (B.last + 1))).heap.size (w.setCell ⟨B.pb, 5, none⟩ (.int .i64 (B.last + 1))) w1) (hs1 : w1.heap.size = (w.setCell ⟨B.pb, 5, none⟩ (.int .i64 (B.last + 1))).heap.size + 1) :
      ∃ w2 w3, (Builtin.delete_ #[54, 3] 0 #[Value.map (some w.heap.size), Value.int IntKind.i64 who]).run Try.prog (w1.alloc (Obj.cells #[Value.int IntKind.i64 (min (max now 0) 1099511627776), Value.map (some w.heap.size)] 62)) = .ok (.tuple #[]) w2 ∧
        (Instr.mapUpdate 53 (.map (some B.nb)) (.int .i64 (B.last + 1)) (.pointer (some ⟨w.heap.size + 1, 0, none⟩))).run Try.prog w2.drew = .ok () w3 ∧
        w2.cell? ⟨B.pb, 4, none⟩ = some (.map (some B.nb)) ∧ w2.cell? ⟨B.pb, 5, none⟩ = some (.int .i64 (B.last + 1)) ∧ w3.cell? ⟨B.pb, 5, none⟩ = some (.int .i64 (B.last + 1)) ∧ w3.cell? ⟨w.heap.size + 1, 1, none⟩ = some (.map (some w.heap.size)) ∧
        MI w3 w.heap.size (setV (remS who (B.wl i))) ∧ IsB w3 (B.note w.heap.size (clampT now) (remS who (B.wl i))) ∧ Fr (· ∈ B.fp) w w3 ∧ w3.heap.size = w.heap.size + 2 := by
  have hsz : (w.setCell ⟨B.pb, 5, none⟩ (.int .i64 (B.last + 1))).heap.size = w.heap.size := by simp
  rw [hsz] at hm1 hs1
  have hpbm : B.pb ∈ B.fp := by simp [Brd.fp]
  have hnbm : B.nb ∈ B.fp := by simp [Brd.fp]
  have hpl := hB.lt _ hpbm
  have hnl2 := hB.lt _ hnbm
  have hbn : B.nb ≠ B.pb := by
    have := hB.nodup
    simp only [Brd.fp, List.nodup_cons, List.mem_cons, not_or] at this
    exact fun e => this.1.1 e.symm
  obtain ⟨w2, r2, m2, t2⟩ := (hm1.block (w' := w1.alloc (Obj.cells #[Value.int IntKind.i64 (min (max now 0) 1099511627776), Value.map (some w.heap.size)] 62)) (Below.heap_alloc _ _ _ (by omega))).del Try.underlying3 Try.underlying54 hwo 0
  rw [setV_rem] at m2
  have f0 : Fr (· ∈ B.fp) w (w.setCell ⟨B.pb, 5, none⟩ (.int .i64 (B.last + 1))) := (Fr.refl _ _).setCell (fun _ => hpbm) _
  have f2 := (f0.then hb1).alloc (Obj.cells #[Value.int IntKind.i64 (min (max now 0) 1099511627776), Value.map (some w.heap.size)] 62)
  have f3 := f2.trans (turned_fr t2) fun k hk e => by omega
  have s2 : w2.heap.size = w.heap.size + 2 := by rw [turned_size t2]; simp [hs1]
  have hk : ∀ k, k < w.heap.size → k ≠ B.pb → w2.heap[k]? = w.heap[k]? := by
    intro k hk hne
    rw [turned_block t2 (by omega), Below.heap_alloc _ _ _ (by omega), hb1.block k (by rw [hsz]; exact hk)]
    exact Below.heap_setCell _ _ _ _ (by simpa using hne)
  have hp : w2.heap[B.pb]? = some (.cells B.tick.cells 57 (0, 0)) := by
    rw [turned_block t2 (by omega), Below.heap_alloc _ _ _ (by omega), hb1.block _ (by rw [hsz]; exact hpl)]
    have := heap_setCell_same w B.pb 5 B.cells 57 (.int .i64 (B.last + 1)) hB.self
    simpa [Brd.cells, Brd.tick] using this
  have hn : w2.heap[w.heap.size + 1]? = some (.cells #[.int .i64 (clampT now), .map (some w.heap.size)] 62 (0, 0)) := by
    rw [turned_block t2 (by omega)]
    exact heap_alloc_new' _ _ (by omega)
  obtain ⟨w3, r3, m3, t3⟩ := (hB.nots.block (w' := w2.drew) (hk _ hnl2 hbn)).put Try.underlying3 Try.underlying53 (by simp only [ntV, List.length_map]; unfold maxLen; omega) (okI_of (k := B.last + 1) (by omega) (by omega)) (.pointer (some ⟨w.heap.size + 1, 0, none⟩))
  have e3 : ∀ k, k ≠ B.nb → w3.heap[k]? = w2.heap[k]? := fun k hk => (turned_block t3 hk).trans (rfl : w2.drew.heap[k]? = w2.heap[k]?)
  refine ⟨w2, w3, r2, r3, by simp [World.cell?, hp, Brd.tick], by simp [World.cell?, hp, Brd.tick], ?_, ?_, m2.block (e3 _ (by omega)), hB.noted (w2 := w2.drew) rfl hid s2 hk hp hn (m2.block rfl) m3 t3, f3.drew.trans (turned_fr t3) fun k _ e => e ▸ hnbm, (turned_size t3).trans s2⟩
  · have : w3.heap[B.pb]? = _ := (e3 _ (Ne.symm hbn)).trans hp
    simp [World.cell?, this, Brd.tick]
  · have : w3.heap[w.heap.size + 1]? = _ := (e3 _ (by omega)).trans hn
    simp [World.cell?, this]

set_option maxRecDepth 100000 in
set_option maxHeartbeats 1600000 in
theorem notify_yes (B : Brd) (i : Nat) (who now : Int) (w : World) (hB : IsB w B) (hi : i < 4) (hwo : okI who) (hl : (B.wl i).length ≤ 100000) (h0 : 0 ≤ B.last) (h1 : B.last ≤ 1000000) (hid : ∀ m ∈ B.ns, m.id < B.last + 1) (hnl : B.ns.length ≤ 100000) :
    Calls Try.prog 11 #[.pointer (some ⟨B.pb, 0, none⟩), .int .i64 i, .int .i64 who, .int .i64 now] w fun e w' => ∃ v, e = .returned (.tuple #[.int .i64 (B.last + 1), v]) ∧
      w'.ownsRow (w.heap.size + 2) 3 1 v (remS who (B.wl i)).length ((remS who (B.wl i)).map (Value.int .i64)) ∧ (v = .slice none 0 0 ↔ remS who (B.wl i) = []) ∧ IsB w' (B.note w.heap.size (clampT now) (remS who (B.wl i))) ∧ Fr (· ∈ B.fp) w w' := by
  obtain ⟨c0, c1, c2, c3, c4, c5⟩ := self_cells hB
  have hfz : w.frozen? ⟨B.pb, 5, none⟩ = false := by simp [World.frozen?, hB.self]
  have hw1 : IntKind.i64.wrap (B.last + 1) = B.last + 1 := IntWalk.i64_in _ (by omega)
  have hne := (hB.wm_ne.2 i hi).1
  have hc : ∀ W : World, W.heap[B.wm i]? = w.heap[B.wm i]? → _ := fun (W : World) hW => clone_any (B.wm i) (setV (B.wl i)) W ((hB.watch i hi).block hW)
  have HC := Lib.hid hc
  have key := fun w1 => note_key B i who now w hB hi hwo h0 h1 hid hnl w1
  have HK := Lib.hid key
  have HL := Lib.hid hl
  clear hc hB hl key
  obtain rfl | rfl | rfl | rfl : i = 0 ∨ i = 1 ∨ i = 2 ∨ i = 3 := by omega
  all_goals
    go_enter Try.func11, Try.ntmps11
    go_wp2_with (first | (go_at_call 28; refine (HC.out _ (Below.heap_setCell _ _ _ _ hne)).mono ?_; rintro e w1 ⟨rfl, hm1, hb1, hs1⟩) | go_in)
    obtain ⟨w2, w3, r2, r3, d1, d2, d3, d4, hm3, hB3, hf3, hs3⟩ := HK.out w1 hm1 hb1 hs1
    have HM3 := Lib.hid hm3
    have HB3 := Lib.hid hB3
    have HF3 := Lib.hid hf3
    have HS3 := Lib.hid hs3
    clear hm3 hB3 hf3 hs3 hm1 hb1 hs1
    have hris := rising_set w.heap.size (remS who (B.wl _)) w3.drew (HM3.out.block rfl) (Nat.le_trans (List.length_filter_le _ _) HL.out)
    have HR := Lib.hid hris
    clear hris
    rw [r2]
    simp only [Result.andThen]
    rw [Oper.upon_value]
    go_wp2
    go_still_tail 9, (by kernel_rfl)
    change wpList _ _ _ _ _ w2.drew
    go_wp2
    go_region_held3 (fun w' => w'.cell? ⟨B.pb, 5, none⟩ = some (.int .i64 (B.last + 1)) ∧ w'.cell? ⟨w.heap.size + 1, 1, none⟩ = some (.map (some w.heap.size)))
      (first | go_keep | (go_split_ands; refine ⟨cellExt hv3 d3, cellExt hv3 d4⟩))
      (first | (go_at_call 29; refine HR.out.mono ?_; rintro e w' ⟨v, rfl, hv1, hv2, hv3⟩))
    go_wp2
    go_ret2
    refine ⟨v, rfl, ownsRow_base_a hv1 (by simp [HS3.out]), hv2, HB3.out.ext ((Below.refl _ w3).drew.trans hv3), HF3.out.then ((Below.refl _ w3).drew.trans hv3)⟩

set_option maxRecDepth 100000 in
set_option maxHeartbeats 1600000 in
theorem notify_no (at_ who now : Int) (w : World) (hno : mayI at_ = false) (p : Option Addr) :
    Calls Try.prog 11 #[.pointer p, .int .i64 at_, .int .i64 who, .int .i64 now] w fun e w' => e = .returned (.tuple #[.int .i64 0, .slice none 0 0]) ∧ Below w.heap.size w w' := by
  cases p with
  | none =>
    go_enter Try.func11, Try.ntmps11
    go_wp2
    go_ret2
    exact ⟨rfl, Below.refl _ _⟩
  | some a =>
    by_cases h : at_ < 0
    · clear hno
      go_enter Try.func11, Try.ntmps11
      go_wp2
      go_ret2
      exact ⟨rfl, Below.refl _ _⟩
    · have h4 : 4 ≤ at_ := by simp [mayI] at hno; omega
      have h0 : 0 ≤ at_ := by omega
      have hd : decide (at_ < 4) = false := by simp; omega
      clear hno h
      go_enter Try.func11, Try.ntmps11
      go_wp2
      go_ret2
      exact ⟨rfl, Below.refl _ _⟩
set_option maxRecDepth 100000 in
set_option maxHeartbeats 1600000 in
theorem notify_nil (at_ who now : Int) (w : World) :
    Calls Try.prog 11 #[.pointer none, .int .i64 at_, .int .i64 who, .int .i64 now] w fun e w' => e = .returned (.tuple #[.int .i64 0, .slice none 0 0]) ∧ Below w.heap.size w w' := by
  go_enter Try.func11, Try.ntmps11
  go_wp2
  go_ret2
  exact ⟨rfl, Below.refl _ _⟩
end Go.Proofs.Ytiikkglgoanpbaa
