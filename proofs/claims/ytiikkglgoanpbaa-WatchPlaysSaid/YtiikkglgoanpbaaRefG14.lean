/- The walk of Notify of terrazzoref14. -/
import Derived.Test.YtiikkglgoanpbaaRefF14
import Derived.Deep.RegionHeld3
import Derived.Deep.DeepCutAuto
namespace Go.Proofs.Ytiikkglgoanpbaa
open Go.RowKit Go.Maps Go.WideShapes

set_option maxRecDepth 100000 in
set_option maxHeartbeats 1600000 in
theorem rnotify_no (A : Nat → Prop) (v : Value) (B : Brd) (at_ who now : Int) (w : World) (h : IsR A w v B) (hno : mayI at_ = false) :
    Calls Try.prog 21 #[v, .int .i64 at_, .int .i64 who, .int .i64 now] w fun e w' => ∃ v', e = .returned (.tuple #[v', .int .i64 0, .slice none 0 0]) ∧ IsR A w' v' B ∧ Below w.heap.size w w' := by
  have H := Lib.hid h
  obtain ⟨wv, nv, rfl, h1, h2⟩ := h
  obtain ⟨wa, wc, rfl⟩ := h1.shape
  obtain ⟨na, nc, rfl⟩ := h2.shape
  clear h1 h2
  have hc : at_ < 0 ∨ 0 ≤ at_ ∧ 4 ≤ at_ := by simp [mayI] at hno; omega
  clear hno
  rcases hc with hc | ⟨hc, hc'⟩
  all_goals
    go_enter Try.func21, Try.ntmps21
    go_wp2
    have hb : Below w.heap.size w (((w.alloc (.cells #[.slice wa 4 wc, .slice na B.ns.length nc, .int .i64 B.last] 38)).alloc (.cells #[.slice wa 4 wc, .slice na B.ns.length nc, .int .i64 B.last] 38))) := by ((repeat' (first | exact Below.refl _ _ | refine below_drewN ?_ _ | refine Below.drew ?_ | refine Below.alloc ?_ ?_ _ | refine Below.setCell ?_ ?_ _ | refine Below.trans ?_ (Below.mono (by assumption) ?_))); all_goals (first | exact Nat.le_refl _ | exact Below.size (by assumption) | omega | (simp; done) | (simp; omega)))
    exact bodyPost_ret (v := .tuple #[.agg #[.slice wa 4 wc, .slice na B.ns.length nc, .int .i64 B.last], .int .i64 0, .slice none 0 0]) (by simp [results, Try.results21, go_sem]) rfl ⟨_, rfl, H.out.mono (Same.of_ext hb), hb⟩

theorem drew_cell {W : World} {a : Addr} {v : Value} (h : W.cell? a = some v) : W.drew.cell? a = some v := h
theorem held4 {W w' : World} {a b c : Addr} {u v x : Value} (h1 : W.cell? a = some u) (h2 : W.cell? b = some v) (h3 : W.cell? c = some x) (h : Below W.heap.size W w') : w'.cell? a = some u ∧ w'.cell? b = some v ∧ w'.cell? c = some x ∧ Below W.heap.size W w' := ⟨cellExt h h1, cellExt h h2, cellExt h h3, h⟩
theorem zz_of {W w1 : World} {a b c : Value} {t : TypeId} (h : Below (W.alloc (.cells #[a, b, c] t)).drew.heap.size (W.alloc (.cells #[a, b, c] t)).drew w1) : w1.cell? ⟨W.heap.size, 0, none⟩ = some a ∧ w1.frozen? ⟨W.heap.size, 0, none⟩ = false ∧ w1.cell? ⟨W.heap.size, 1, none⟩ = some b ∧ w1.frozen? ⟨W.heap.size, 1, none⟩ = false ∧ w1.cell? ⟨W.heap.size, 2, none⟩ = some c ∧ w1.frozen? ⟨W.heap.size, 2, none⟩ = false ∧ w1.heap[W.heap.size]? = some (.cells #[a, b, c] t (0, 0)) := by
  have hb : w1.heap[W.heap.size]? = some (.cells #[a, b, c] t (0, 0)) := (h.block W.heap.size (by simp)).trans (heap_alloc_new W _)
  obtain ⟨x0, f0⟩ := blk_cell (i := 0) hb
  obtain ⟨x1, f1⟩ := blk_cell (i := 1) hb
  obtain ⟨x2, f2⟩ := blk_cell (i := 2) hb
  simp at x0 x1 x2
  exact ⟨x0, f0, x1, f1, x2, f2, hb⟩
theorem hid_rl {A : Nat → Prop} {w W : World} {v : Value} {l : List Int} (h : RL (fun b => A b ∧ b < w.heap.size) w v l) (hb : Below w.heap.size w W) : RL (fun b => A b ∧ b < w.heap.size) W v l := h.mono (Same.of_below hb fun _ hb => hb.2)
theorem way_one {W X w1 : World} {a c : Value} {va : Option Addr} {vc : Nat} {l : List Int} (hb1 : Below X.heap.size X w1) (hv1 : RL (fun b => X.heap.size ≤ b) w1 (.slice va l.length vc) l) (hs : X.heap.size = W.heap.size) (hX : Below W.heap.size W X) :
    ∃ (g : Nat) (va' : Option Addr) (vc' : Nat), Value.pointer (some ⟨w1.heap.size, 0, none⟩) = .pointer (some ⟨g, 0, none⟩) ∧ W.heap.size ≤ g ∧ (w1.alloc (.cells #[a, c, .slice va l.length vc] 68)).heap[g]? = some (.cells #[a, c, .slice va' l.length vc'] 68 (0, 0)) ∧
      RL (fun b => W.heap.size ≤ b ∧ b ≠ g) (w1.alloc (.cells #[a, c, .slice va l.length vc] 68)) (.slice va' l.length vc') l ∧ Below W.heap.size W (w1.alloc (.cells #[a, c, .slice va l.length vc] 68)) := by
  have h1 := hb1.size
  refine ⟨w1.heap.size, va, vc, rfl, by omega, heap_alloc_new w1 _, ?_, (hX.trans (hb1.mono (by omega))).alloc (by omega) _⟩
  refine (hv1.cut.ext ((Below.refl _ w1).alloc (Nat.le_refl _) _)).weak fun b hb => ?_
  have h2 : X.heap.size ≤ b := hb.1
  have h3 := hb.2
  omega
theorem way_two {W X w1 : World} {a c z0 z1 z2 : Value} {va : Option Addr} {vc : Nat} {l : List Int} (hb1 : Below X.heap.size X w1) (hv1 : RL (fun b => X.heap.size ≤ b) w1 (.slice va l.length vc) l) (hs : X.heap.size = W.heap.size + 1) (hX : Below W.heap.size W X) (hz : X.heap[W.heap.size]? = some (.cells #[z0, z1, z2] 68 (0, 0))) :
    ∃ (g : Nat) (va' : Option Addr) (vc' : Nat), Value.pointer (some ⟨W.heap.size, 0, none⟩) = .pointer (some ⟨g, 0, none⟩) ∧ W.heap.size ≤ g ∧ (((w1.setCell ⟨W.heap.size, 0, none⟩ a).setCell ⟨W.heap.size, 1, none⟩ c).setCell ⟨W.heap.size, 2, none⟩ (.slice va l.length vc)).heap[g]? = some (.cells #[a, c, .slice va' l.length vc'] 68 (0, 0)) ∧
      RL (fun b => W.heap.size ≤ b ∧ b ≠ g) (((w1.setCell ⟨W.heap.size, 0, none⟩ a).setCell ⟨W.heap.size, 1, none⟩ c).setCell ⟨W.heap.size, 2, none⟩ (.slice va l.length vc)) (.slice va' l.length vc') l ∧ Below W.heap.size W (((w1.setCell ⟨W.heap.size, 0, none⟩ a).setCell ⟨W.heap.size, 1, none⟩ c).setCell ⟨W.heap.size, 2, none⟩ (.slice va l.length vc)) := by
  have h1 := hb1.size
  have hb : w1.heap[W.heap.size]? = _ := (hb1.block _ (by omega)).trans hz
  have s0 := heap_setCell_same w1 W.heap.size 0 _ _ a hb
  have s1 := heap_setCell_same _ W.heap.size 1 _ _ c s0
  have s2 := heap_setCell_same _ W.heap.size 2 _ _ (.slice va l.length vc) s1
  refine ⟨W.heap.size, va, vc, rfl, Nat.le_refl _, by simpa using s2, ?_, ?_⟩
  · refine (hv1.mono (Same.setCell (Same.setCell (Same.setCell (Same.refl _ _) ?_ _) ?_ _) ?_ _)).weak fun b hb => ?_
    · simp; omega
    · simp; omega
    · simp; omega
    · have h2 : X.heap.size ≤ b := hb
      omega
  · exact Below.setCell (Below.setCell (Below.setCell (hX.trans (hb1.mono (by omega))) (Nat.le_refl _) _) (Nat.le_refl _) _) (Nat.le_refl _) _
set_option maxRecDepth 100000 in
set_option maxHeartbeats 4000000 in
theorem rnotify_yes (A : Nat → Prop) (v : Value) (B : Brd) (i : Nat) (who now : Int) (w : World) (s : Nat) (h : IsR A w v B) (hi : i < 4) (h0 : 0 ≤ B.last) (h1 : B.last ≤ 1000000) (hl : (B.wl i).length ≤ 1000) (hn : B.ns.length ≤ 1000) :
    Calls Try.prog 21 #[v, .int .i64 i, .int .i64 who, .int .i64 now] w fun e w' => ∃ v' o', e = .returned (.tuple #[v', .int .i64 (B.last + 1), o']) ∧ IsR (UpA A w) w' v' (B.note s (clampT now) (remS who (B.wl i))) ∧ RL (UpA A w) w' o' (remS who (B.wl i)) ∧ Below w.heap.size w w' := by
  obtain ⟨wv, nv, rfl, g1, g2⟩ := h
  obtain ⟨wa, bc, rfl⟩ := g1.shape
  obtain ⟨na, nc, rfl⟩ := g2.shape
  have HW := Lib.hid g1
  have HN := Lib.hid g2
  have HLL := Lib.hid hl
  obtain ⟨b, off, u, rfl, hbl, hc, hu⟩ := g1.at hi
  obtain ⟨ua, uc, rfl⟩ := SlA.shape hu
  have HU := Lib.hid hu.cut
  obtain ⟨j0, hj', hy0, hy1, hy2⟩ := info_parts Try.infoNt
  have hw1 : IntKind.i64.wrap (B.last + 1) = B.last + 1 := IntWalk.i64_in _ (by omega)
  obtain ⟨cs, k1, k2, k3⟩ := g2.cut
  have HK1 := Lib.hid k1
  have HK2 := Lib.hid k2
  have HK3 := Lib.hid k3
  clear g1 g2 hl hu k1 k2 k3
  go_enter Try.func21, Try.ntmps21
  go_upto_region 4 with fail
  have HSZ : ((w.alloc (.cells #[.slice (some ⟨b, off, none⟩) 4 bc, .slice na B.ns.length nc, .int .i64 (B.last + 1)] 38)).alloc (.cells #[.slice none 0 0, .slice none 0 0, .int .i64 0] 38)).heap.size = w.heap.size + 2 := by simp
  have hB0 : ((w.alloc (.cells #[.slice (some ⟨b, off, none⟩) 4 bc, .slice na B.ns.length nc, .int .i64 (B.last + 1)] 38)).alloc (.cells #[.slice none 0 0, .slice none 0 0, .int .i64 0] 38)).heap[w.heap.size]? = some (.cells #[.slice (some ⟨b, off, none⟩) 4 bc, .slice na B.ns.length nc, .int .i64 (B.last + 1)] 38 (0, 0)) := by
    rw [Below.heap_alloc _ _ _ (by simp)]
    exact heap_alloc_new w _
  have hB1 : ((w.alloc (.cells #[.slice (some ⟨b, off, none⟩) 4 bc, .slice na B.ns.length nc, .int .i64 (B.last + 1)] 38)).alloc (.cells #[.slice none 0 0, .slice none 0 0, .int .i64 0] 38)).heap[w.heap.size + 1]? = some (.cells #[.slice none 0 0, .slice none 0 0, .int .i64 0] 38 (0, 0)) := heap_alloc_new' _ _ (by simp)
  have hBW : Below w.heap.size w ((w.alloc (.cells #[.slice (some ⟨b, off, none⟩) 4 bc, .slice na B.ns.length nc, .int .i64 (B.last + 1)] 38)).alloc (.cells #[.slice none 0 0, .slice none 0 0, .int .i64 0] 38)) := by ((repeat' (first | exact Below.refl _ _ | refine below_drewN ?_ _ | refine Below.drew ?_ | refine Below.alloc ?_ ?_ _ | refine Below.setCell ?_ ?_ _ | refine Below.trans ?_ (Below.mono (by assumption) ?_))); all_goals (first | exact Nat.le_refl _ | exact Below.size (by assumption) | omega | (simp; done) | (simp; omega)))
  generalize ((w.alloc (.cells #[.slice (some ⟨b, off, none⟩) 4 bc, .slice na B.ns.length nc, .int .i64 (B.last + 1)] 38)).alloc (.cells #[.slice none 0 0, .slice none 0 0, .int .i64 0] 38)) = W at *
  have HB0 := Lib.hid hB0
  have HB1 := Lib.hid hB1
  have HBW := Lib.hid hBW
  have HSZ' := Lib.hid HSZ
  obtain ⟨x0, _⟩ := blk_cell (i := 0) hB0
  obtain ⟨x2, _⟩ := blk_cell (i := 2) hB0
  simp at x0 x2
  have hcW := cellB hBW hbl hc
  have HUW := Lib.hid (hid_rl HU.out HBW.out)
  clear HSZ hB0 hB1 hBW hc
  have hi1 : (0 : Int) ≤ (i : Int) := by omega
  have hi2 : (i : Int) < 4 := by omega
  go_cut [11] (fun s11 wx => ∃ (g : Nat) (va : Option Addr) (vc : Nat), s11 = .pointer (some ⟨g, 0, none⟩) ∧ W.heap.size ≤ g ∧ wx.heap[g]? = some (.cells #[.int .i64 (B.last + 1), .int .i64 (min (max now 0) 1099511627776), .slice va (remS who (B.wl i)).length vc] 68 (0, 0)) ∧
    RL (fun b => W.heap.size ≤ b ∧ b ≠ g) wx (.slice va (remS who (B.wl i)).length vc) (remS who (B.wl i)) ∧ Below W.heap.size W wx)
  case first =>
    go_region_held3 (fun w' => w'.cell? ⟨b, off + i, none⟩ = some (.slice ua (B.wl i).length uc) ∧ w'.cell? ⟨w.heap.size, 0, none⟩ = some (.slice (some ⟨b, off, none⟩) 4 bc) ∧ w'.cell? ⟨w.heap.size, 2, none⟩ = some (.int .i64 (B.last + 1)) ∧ Below W.heap.size W w')
      (first | exact held4 hcW x0 x2 (by ((repeat' (first | exact Below.refl _ _ | assumption | refine Below.drew ?_ | refine Below.alloc ?_ ?_ _ | refine Below.setCell ?_ ?_ _ | refine Below.trans ?_ (Below.mono hb1 ?_))); all_goals (first | exact Nat.le_refl _ | exact Below.size hb1 | (simp; done) | (have := Below.size hb1; simp at this ⊢; omega)))) | exact held4 hcW x0 x2 (by ((repeat' (first | exact Below.refl _ _ | refine Below.drew ?_ | refine Below.alloc ?_ ?_ _ | refine Below.setCell ?_ ?_ _)); all_goals (first | exact Nat.le_refl _ | (simp; done) | (simp; omega)))))
      (first | (go_at_call 32; refine (without_any _ _ (B.wl i) who _ (RL.ext HUW.out (by ((repeat' (first | exact Below.refl _ _ | refine Below.drew ?_ | refine Below.alloc ?_ ?_ _ | refine Below.setCell ?_ ?_ _)); all_goals (first | exact Nat.le_refl _ | (simp; done) | (simp; omega))))) HLL.out).mono ?_; rintro e w1 ⟨v1, rfl, hv1, hb1⟩; obtain ⟨v1a, v1c, rfl⟩ := SlA.shape hv1; obtain ⟨hcc, hff⟩ := bcell hb1))
    all_goals
      go_wp2_with fail
      go_meet
      first
        | exact way_one (W := W) (a := .int .i64 (B.last + 1)) (c := .int .i64 (min (max now 0) 1099511627776)) hb1 hv1 (by simp) (by ((repeat' (first | exact Below.refl _ _ | refine Below.drew ?_ | refine Below.alloc ?_ ?_ _ | refine Below.setCell ?_ ?_ _)); all_goals (first | exact Nat.le_refl _ | (simp; done) | (simp; omega))))
        | exact way_two (W := W) (a := .int .i64 (B.last + 1)) (c := .int .i64 (min (max now 0) 1099511627776)) hb1 hv1 (by simp) (by ((repeat' (first | exact Below.refl _ _ | refine Below.drew ?_ | refine Below.alloc ?_ ?_ _ | refine Below.setCell ?_ ?_ _)); all_goals (first | exact Nat.le_refl _ | (simp; done) | (simp; omega)))) (by exact heap_alloc_new W _)
  case rest =>
    obtain ⟨g, va, vc, rfl, hg, hblk, hrl, hbw⟩ := hcut
    clear x0 x2 hcW hw1
    have HRL := Lib.hid hrl
    have HBWC := Lib.hid (HBW.out.trans (hbw.mono (by have := HSZ'.out; omega)))
    have hgl : g < wc.heap.size := lt_of_block hblk
    have hws : w.heap.size + 2 ≤ wc.heap.size := by have := hbw.size; have := HSZ'.out; omega
    have HBK := Lib.hid hblk
    have hgs : w.heap.size + 2 ≤ g := by have := HSZ'.out; omega
    have hB0 : wc.heap[w.heap.size]? = _ := (hbw.block _ (by have := HSZ'.out; omega)).trans HB0.out
    have hB1 : wc.heap[w.heap.size + 1]? = _ := (hbw.block _ (by have := HSZ'.out; omega)).trans HB1.out
    have HC0 := Lib.hid hB0
    have HC1 := Lib.hid hB1
    obtain ⟨y1, _⟩ := blk_cell (i := 1) hB0
    simp at y1
    clear hrl hblk hbw hB0 hB1
    go_wp2_with (first | (at_builtin; refine wpList_append_sl rfl _ _ 36 rfl wc.heap.size 68 j0 (.agg #[.int .i64 0, .int .i64 0, .slice none 0 0]) 3 40 Try.underlying36 hj' hy0 hy1 hy2 rfl (by decide) _ 0 [] rfl (World.ownsRow_nil _ _ _ _) (fun b => A b ∧ b < w.heap.size) _ B.ns.length (flat B.ns cs) rfl ?cS ?cO ?c4 ?c5 ?c6 ?_) | go_in)
    case cS => exact HK3.out.mono (Same.of_below HBWC.out fun b hb => hb.2)
    case cO => exact flat_one HK2.out
    case c4 => unfold maxLen; omega
    case c5 => omega
    case c6 => exact Nat.le_refl _
    intro v4 w4 ho hg4
    try simp only [Nat.zero_add, List.nil_append] at ho
    have hb4 : Below wc.heap.size wc w4 := (Below.refl _ wc).grown hg4 (Nat.le_refl _) fun j hj => by simp [Value.ownBlock] at hj
    have HO4 := Lib.hid ho
    have HB4 := Lib.hid hb4
    have hz4 := hb4.size
    have hG : w4.heap[g]? = _ := (hb4.block _ hgl).trans HBK.out
    obtain ⟨z0, _⟩ := blk_cell (i := 0) hG
    obtain ⟨z1, _⟩ := blk_cell (i := 1) hG
    obtain ⟨z2, _⟩ := blk_cell (i := 2) hG
    simp at z0 z1 z2
    clear ho hg4 hb4 hG y1
    go_wp2_with (first | (at_builtin; refine wpList_append_own_at _ rfl _ _ 36 rfl wc.heap.size 68 j0 (.agg #[.int .i64 0, .int .i64 0, .slice none 0 0]) 3 40 Try.underlying36 hj' hy0 hy1 hy2 rfl (by decide) _ _ _ rfl (HO4.out.alloc _) ⟨w4.heap.size, 0, none⟩ 1 1 [.int .i64 (B.last + 1), .int .i64 (min (max now 0) 1099511627776), .slice va (remS who (B.wl i)).length vc] rfl rfl ?d0 ?d1 ?d2 ?d3 ?d4 ?_) | go_in)
    try (case d0 => simpa using cells3 w4 (.int .i64 (B.last + 1)) (.int .i64 (min (max now 0) 1099511627776)) (.slice va (remS who (B.wl i)).length vc) 68)
    case d1 => simp [Value.oneCell']
    case d2 => unfold maxLen; omega
    case d3 => omega
    case d4 => first | omega | (simp; omega)
    intro v5 w5 ho hg5 hnn hat
    obtain ⟨fa, fc, rfl⟩ := owns_shape ho
    have hb5 : Below wc.heap.size wc w5 := (HB4.out.alloc (by omega) _).grown hg5 (by simp; omega) fun j hj => (HO4.out.lt j hj).1
    have HO5 := Lib.hid ho
    have HB5 := Lib.hid hb5
    have hz5 := hb5.size
    have hG : w5.heap[g]? = _ := (hb5.block _ hgl).trans HBK.out
    have hC0 : w5.heap[w.heap.size]? = _ := (hb5.block _ (by omega)).trans HC0.out
    have hC1 : w5.heap[w.heap.size + 1]? = _ := (hb5.block _ (by omega)).trans HC1.out
    obtain ⟨u0, _⟩ := blk_cell (i := 0) hG
    obtain ⟨u2, _⟩ := blk_cell (i := 2) hG
    obtain ⟨p0, r0⟩ := blk_cell (i := 0) hC0
    obtain ⟨p1, r1⟩ := blk_cell (i := 1) hC0
    obtain ⟨p2, r2⟩ := blk_cell (i := 2) hC0
    obtain ⟨e0, q0⟩ := blk_cell (i := 0) hC1
    obtain ⟨e1, q1⟩ := blk_cell (i := 1) hC1
    obtain ⟨e2, q2⟩ := blk_cell (i := 2) hC1
    simp at u0 u2 p0 p1 p2 e0 e1 e2
    have hn1 : g ≠ w.heap.size := by omega
    have hn2 : g ≠ w.heap.size + 1 := by omega
    clear ho hg5 hnn hat hb5 hG hC0 hC1 z0 z1 z2
    have hfin : IsR (Far A w 2) w5 (.agg #[.slice (some ⟨b, off, none⟩) 4 bc, .slice fa (B.ns.length + 1) fc, .int .i64 (B.last + 1)]) (B.note s (clampT now) (remS who (B.wl i))) := by
      have hold : Same (fun b => A b ∧ b < w.heap.size) w w5 := (Same.of_below (HBWC.out.trans (HB5.out.mono (by omega))) fun b hb => hb.2)
      refine ⟨_, _, rfl, (HW.out.cut.mono hold).weak fun b hb => .inl hb, cs ++ [.slice va (remS who (B.wl i)).length vc], ?_, fun j hj hj' => ?_, ?_⟩
      · simp [Brd.note, HK1.out]
      · have hk := HK1.out
        rcases Nat.lt_or_ge j cs.length with q | q
        · rw [List.getElem_append_left q]
          have e : (B.note s (clampT now) (remS who (B.wl i))).ns[j] = B.ns[j]'(by omega) := by
            simp only [Brd.note]
            rw [List.getElem_append_left (by omega)]
          rw [e]
          exact ((HK2.out j (by omega) q).mono hold).weak fun b hb => .inl hb
        · obtain rfl : j = cs.length := by simp at hj'; omega
          have e : (B.note s (clampT now) (remS who (B.wl i))).ns[cs.length] = ⟨B.last + 1, clampT now, s + 1, s, remS who (B.wl i)⟩ := by
            simp only [Brd.note]
            rw [List.getElem_append_right (by omega)]
            simp [hk]
          rw [e, List.getElem_append_right (Nat.le_refl _)]
          simp only [Nat.sub_self, List.getElem_cons_zero]
          refine (HRL.out.ext HB5.out).weak fun b hb => .inr ?_
          have := HSZ'.out
          omega
      · have h1 := SlA.of_owns HO5.out
        have h2 : (B.note s (clampT now) (remS who (B.wl i))).ns.length = B.ns.length + 1 := by simp [Brd.note]
        have h3 : flat (B.note s (clampT now) (remS who (B.wl i))).ns (cs ++ [.slice va (remS who (B.wl i)).length vc]) = flat B.ns cs ++ [.int .i64 (B.last + 1), .int .i64 (min (max now 0) 1099511627776), .slice va (remS who (B.wl i)).length vc] := by
          simp only [Brd.note]
          rw [flat_append HK1.out]
          rfl
        rw [h2, h3]
        exact h1.weak fun b hb => .inr (by omega)
    have FIN := Lib.hid hfin
    have FO : Hid (RL (Far A w 2) w5 (.slice va (remS who (B.wl i)).length vc) (remS who (B.wl i))) := (HRL.out.ext HB5.out).weak fun b hb => .inr (by have := HSZ'.out; omega)
    have HBW5 : Hid (Below w.heap.size w w5) := HBWC.out.trans (HB5.out.mono (by omega))
    clear hfin
    go_wp2
    go_region
    all_goals
      go_wp2
      refine bodyPost_ret (v := .tuple #[.agg #[.slice (some ⟨b, off, none⟩) 4 bc, .slice fa (B.ns.length + 1) fc, .int .i64 (B.last + 1)], .int .i64 (B.last + 1), .slice va (remS who (B.wl i)).length vc]) (by simp [results, Try.results21, go_sem, e0, e1, e2]) rfl ⟨_, _, rfl, (FIN.out.mono ?_).weak (Far.up A w 2), (FO.out.mono ?_).weak (Far.up A w 2), ?_⟩
      iterate 2
        · refine Same.drew (Same.setCell (Same.setCell (Same.setCell (Same.setCell (Same.refl _ _) ?_ _) ?_ _) ?_ _) ?_ _)
          · exact not_far0 (by omega)
          · exact not_far (by omega)
          · exact not_far (by omega)
          · exact not_far (by omega)
      · refine Below.drew (Below.setCell (Below.setCell (Below.setCell (Below.setCell HBW5.out ?_ _) ?_ _) ?_ _) ?_ _) <;> (simp; try omega)
theorem rnotify_any (A : Nat → Prop) (v : Value) (B : Brd) (at_ who now : Int) (w : World) (s : Nat) (h : IsR A w v B) (h0 : 0 ≤ B.last) (h1 : B.last ≤ 1000000) (hl : ∀ i, (B.wl i).length ≤ 1000) (hn : B.ns.length ≤ 1000) :
    Calls Try.prog 21 #[v, .int .i64 at_, .int .i64 who, .int .i64 now] w fun e w' => ∃ v' o', e = .returned (.tuple #[v', .int .i64 (B.nid at_), o']) ∧ IsR (UpA A w) w' v' (B.notif s at_ who now) ∧ RL (UpA A w) w' o' (B.toL at_ who) ∧ Below w.heap.size w w' := by
  unfold Brd.toL Brd.notif Brd.nid
  cases hm : mayI at_
  · refine (rnotify_no A v B at_ who now w h hm).mono ?_
    rintro e w' ⟨v', rfl, h1, h2⟩
    exact ⟨v', _, rfl, h1.weak (UpA.of A w), RL.nil _ _, h2⟩
  · obtain ⟨i, rfl, hi⟩ := mayI_nat hm
    exact rnotify_yes A v B i who now w s h hi h0 h1 (hl i) hn
end Go.Proofs.Ytiikkglgoanpbaa
