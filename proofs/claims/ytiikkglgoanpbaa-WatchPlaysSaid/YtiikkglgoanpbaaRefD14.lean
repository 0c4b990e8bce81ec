/- Rows of rows that a call makes, append by append; the walk of Forget of terrazzoref14. -/
import Derived.Test.YtiikkglgoanpbaaRefC14
import Derived.Maps.AppendAt
namespace Go.Proofs.Ytiikkglgoanpbaa
open Go.RowKit Go.Maps Go.WideShapes

/-- the row 'out' of the call's own stands apart from the blocks of S -/
structure Gro (base : Nat) (S : Nat → Prop) (wr : World) (out : Value) : Prop where
  lo : ∀ b, S b → base ≤ b ∧ b < wr.heap.size
  off : ∀ g, out.ownBlock = some g → ¬ S g
def More (S : Nat → Prop) (wr w2 : World) (b : Nat) : Prop := S b ∨ wr.heap.size ≤ b ∧ b < w2.heap.size
theorem Gro.nil (base : Nat) (wr : World) : Gro base (fun _ => False) wr (.slice none 0 0) := ⟨fun _ h => h.elim, fun _ _ h => h⟩
theorem nest_step {base n size : Nat} {S : Nat → Prop} {wr w2 w3 : World} {out out' : Value} {e : TypeId} {xs : List Value} {o : Obj} (hG : Gro base S wr out) (hown : wr.ownsRow base e size out n xs) (hbase : base ≤ wr.heap.size) (hb2 : Below wr.heap.size wr w2)
    (hg : (w2.alloc o).grownBy w3 out.ownBlock) (hat : out'.ownBlock = out.ownBlock ∨ out'.ownBlock = some (w2.heap.size + 1)) :
    Gro base (More S wr w2) w3 out' ∧ Same (More S wr w2) w2 w3 ∧ Below base wr w3 := by
  have hs2 := hb2.size
  have hs3 := hg.size
  simp only [World.size_alloc] at hs3
  have hrow : ∀ g, out.ownBlock = some g → base ≤ g ∧ g < wr.heap.size := fun g hg => hown.lt g hg
  refine ⟨⟨fun b hb => ?_, fun g hg' => ?_⟩, ?_, ?_⟩
  · rcases hb with hb | ⟨h1, h2⟩
    · have := hG.lo b hb; omega
    · omega
  · rcases hat with e1 | e1
    · rw [e1] at hg'
      have h1 := hrow g hg'
      rintro (h | h)
      · exact hG.off g hg' h
      · omega
    · rw [e1] at hg'
      simp only [Option.some.injEq] at hg'
      rintro (h | h)
      · have := hG.lo g h; omega
      · omega
  · refine ⟨by omega, fun b hb hl => ?_⟩
    have h1 : some b ≠ out.ownBlock := fun e1 => by
      have h2 := hrow b e1.symm
      rcases hb with h | h
      · exact hG.off b e1.symm h
      · omega
    rw [hg.block b (by simp; omega) h1, Below.heap_alloc _ _ _ hl]
  · refine ((hb2.mono hbase).alloc (by omega) o).grown hg (by simp; omega) fun g hg' => ?_
    exact (hrow g hg').1
theorem More.old (S : Nat → Prop) (wr w2 : World) : ∀ b, S b → More S wr w2 b := fun _ h => .inl h
theorem More.new (S : Nat → Prop) (wr w2 : World) : ∀ b, (wr.heap.size ≤ b ∧ b < w2.heap.size) → More S wr w2 b := fun _ h => .inr h
theorem blk_keep {base k : Nat} {w w' : World} (hb : Below base w w') (hk : k < base) {o : Obj} (h : w.heap[k]? = some o) : w'.heap[k]? = some o := (hb.block k hk).trans h

/-- the elements of a row of rows -/
def Els (S : Nat → Prop) (w : World) (ds : List Value) (f : Nat → List Int) : Prop := ∀ i (h : i < ds.length), RL S w ds[i] (f i)
theorem Els.step {S : Nat → Prop} {wr w2 w3 : World} {ds : List Value} {f : Nat → List Int} {v : Value} (h : Els S wr ds f) (hb2 : Below wr.heap.size wr w2) (hs : Same (More S wr w2) w2 w3) (hv : RL (fun b => wr.heap.size ≤ b) w2 v (f ds.length)) : Els (More S wr w2) w3 (ds ++ [v]) f := by
  intro i hi
  rcases Nat.lt_or_ge i ds.length with g | g
  · rw [List.getElem_append_left g]
    exact (((h i g).ext hb2).weak (More.old S wr w2)).mono hs
  · obtain rfl : i = ds.length := by simp at hi; omega
    rw [List.getElem_append_right (Nat.le_refl _)]
    simp only [Nat.sub_self, List.getElem_cons_zero]
    exact (hv.cut.weak (More.new S wr w2)).mono hs
theorem Els.one {S : Nat → Prop} {w : World} {ds : List Value} {f : Nat → List Int} (h : Els S w ds f) : ∀ u ∈ ds, u.oneCell' = true := fun u hu => by
  obtain ⟨j, hj, rfl⟩ := List.getElem_of_mem hu
  exact (h j hj).one

def missF (ns : List Nt) (i : Nat) : List Int := ((ns[i]?).map (·.miss)).getD []
theorem missF_at {ns : List Nt} {i : Nat} (h : i < ns.length) : missF ns i = ns[i].miss := by simp [missF, h]
theorem flat_snoc {ns : List Nt} {k : Nat} {ds : List Value} {v : Value} (hk : k < ns.length) (hd : ds.length = k) : flat (ns.take (k + 1)) (ds ++ [v]) = flat (ns.take k) ds ++ [.int .i64 ns[k].id, .int .i64 ns[k].at_, v] := by
  rw [List.take_succ_eq_append_getElem hk, flat_append (by simp; omega)]
  rfl
theorem flat_map {f : Nt → Nt} (hf : ∀ n, (f n).id = n.id ∧ (f n).at_ = n.at_) : ∀ (ns : List Nt) (ds : List Value), flat (ns.map f) ds = flat ns ds := by
  intro ns
  induction ns with
  | nil => intro ds; cases ds <;> rfl
  | cons n ns ih =>
    intro ds
    cases ds with
    | nil => rfl
    | cons d ds => simp only [List.map_cons, flat, ih, (hf n).1, (hf n).2]
theorem cells3 (w : World) (x y z : Value) (t : TypeId) : ∀ (j : Nat) (u : Value), [x, y, z][j]? = some u → (w.alloc (.cells #[x, y, z] t)).cell? ((⟨w.heap.size, 0, none⟩ : Addr).add j) = some u := cells_new w [x, y, z] t

set_option maxRecDepth 100000 in
set_option maxHeartbeats 4000000 in
theorem rforget_any (A : Nat → Prop) (v : Value) (B : Brd) (who : Int) (w : World) (h : IsR A w v B) (hl : ∀ i, (B.wl i).length ≤ 1000) (hn : B.ns.length ≤ 1000) (hm : ∀ n ∈ B.ns, n.miss.length ≤ 1000) :
    Calls Try.prog 20 #[v, .int .i64 who] w fun e w' => ∃ v', e = .returned v' ∧ IsR (UpA A w) w' v' (B.forget who) ∧ Below w.heap.size w w' := by
  obtain ⟨wv, nv, rfl, h1, h2⟩ := h
  obtain ⟨wa, wc, rfl⟩ := h1.shape
  obtain ⟨na, nc, rfl⟩ := h2.shape
  have HW := Lib.hid h1
  have HN := Lib.hid h2
  have HL := Lib.hid hl
  have HM := Lib.hid hm
  obtain ⟨i0, hi', hz0, hz1, hz2⟩ := info_parts Try.infoRow
  obtain ⟨j0, hj', hy0, hy1, hy2⟩ := info_parts Try.infoNt
  clear h1 h2 hl hm
  go_enter Try.func20, Try.ntmps20
  go_wp2
  go_loopw [5, 6] (fun out q wr => ∃ (k : Nat) (ds : List Value) (S : Nat → Prop), k ≤ 4 ∧ q = .int .i64 k ∧ ds.length = k ∧ Els S wr ds (fun i => remS who (B.wl i)) ∧ wr.ownsRow (w.heap.size + 2) 22 1 out k ds ∧ Gro (w.heap.size + 2) S wr out ∧
      wr.heap[w.heap.size]? = some (.cells #[.slice wa 4 wc, .slice na B.ns.length nc, .int .i64 B.last] 38 (0, 0)) ∧ wr.heap[w.heap.size + 1]? = some (.cells #[.slice none 0 0, .slice none 0 0, .int .i64 0] 38 (0, 0)) ∧ w.heap.size + 2 ≤ wr.heap.size ∧ Below w.heap.size w wr) (fun _ q _ => 4 - (intOf q).toNat)
  case atStart =>
    refine ⟨0, [], _, by omega, rfl, rfl, fun i hi => by simp at hi, World.ownsRow_nil _ _ _ _, Gro.nil _ _, ?_, heap_alloc_new' _ _ (by simp), by simp, ?_⟩
    · rw [Below.heap_alloc _ _ _ (by simp)]
      exact heap_alloc_new w _
    · ((repeat' (first | exact Below.refl _ _ | refine below_drewN ?_ _ | refine Below.drew ?_ | refine Below.alloc ?_ ?_ _ | refine Below.setCell ?_ ?_ _ | refine Below.trans ?_ (Below.mono (by assumption) ?_))); all_goals (first | exact Nat.le_refl _ | exact Below.size (by assumption) | omega | (simp; done) | (simp; omega)))
  case round =>
    obtain ⟨k, ds, S, hk, rfl, hds, hE, hown, hG, hb0, hb1, hsz, hbr⟩ := hrel
    have HO := Lib.hid hown
    have HE := Lib.hid hE
    have HG := Lib.hid hG
    have HB0 := Lib.hid hb0
    have HB1 := Lib.hid hb1
    have HDS := Lib.hid hds
    have x0 := (blk_cell (i := 0) hb0).1
    simp at x0
    clear hown hE hG hb0 hb1 hds
    by_cases hlt : k < 4
    · obtain ⟨b, off, u, rfl, hbl, hc, hu⟩ := HW.out.at hlt
      obtain ⟨ua, uc, rfl⟩ := SlA.shape hu
      have hc := cellB hbr hbl hc
      have HU : Hid (RL (fun b => A b ∧ b < w.heap.size) wr (.slice ua (B.wl k).length uc) (B.wl k)) := hu.cut.mono (Same.of_below hbr fun b hb => hb.2)
      clear hu
      go_wp2_with fail
      refine (without_any _ _ (B.wl k) who _ HU.out (HL.out k)).mono ?_
      rintro e w2 ⟨v2, rfl, hv2, hb2⟩
      obtain ⟨v2a, v2c, rfl⟩ := SlA.shape hv2
      have HO2 := Lib.hid (owns_ext HO.out hb2)
      have HV2 := Lib.hid hv2
      have hs2 := hb2.size
      have HB2 := Lib.hid hb2
      clear hv2 hb2 x0 hc
      go_wp2_with (first | (at_builtin; refine wpList_append_own_at _ rfl _ _ 35 rfl (w.heap.size + 2) 22 i0 (.slice none 0 0) 1 24 Try.underlying35 hi' hz0 hz1 hz2 rfl (by decide) _ _ _ rfl (HO2.out.alloc _) ⟨w2.heap.size, 0, none⟩ 1 1 [.slice v2a (remS who (B.wl k)).length v2c] rfl rfl (cells_new w2 [.slice v2a (remS who (B.wl k)).length v2c] _) ?c1 ?c2 ?c3 ?c4 ?_) | go_in)
      case c1 => simp [Value.oneCell']
      case c2 => unfold maxLen; omega
      case c3 => omega
      case c4 => simp; omega
      intro v3 w3 ho hg hnn hat
      obtain ⟨q1, q2, q3⟩ := nest_step HG.out HO.out hsz HB2.out hg hat
      have HE3 := Lib.hid (Els.step HE.out HB2.out q2 (by rw [HDS.out]; exact HV2.out))
      have HG3 := Lib.hid q1
      have HO3 := Lib.hid ho
      have HQ := Lib.hid q3
      have hb3 : Hid (Below w.heap.size w w3) := hbr.trans (q3.mono (by omega))
      have hs3 := q3.size
      have h0 := Lib.hid (blk_keep q3 (by omega) HB0.out)
      have h1 := Lib.hid (blk_keep q3 (by omega) HB1.out)
      clear ho hg hnn hat q1 q2 q3
      go_wp2
      go_roundw
      case rel => exact ⟨k + 1, _, _, by omega, by go_num, by simp [HDS.out], HE3.out, HO3.out, HG3.out, h0.out, h1.out, by omega, hb3.out⟩
      case measure => simp [intOf]; omega
    · have hk4 := Lib.hid (show k = 4 by omega)
      clear x0
      obtain ⟨a0, f0⟩ := blk_cell (i := 0) HB0.out
      obtain ⟨a1, f1⟩ := blk_cell (i := 1) HB0.out
      simp at a0 a1
      have hd4 : ds.length = 4 := HDS.out.trans hk4.out
      have HD4 := Lib.hid hd4
      rw [hk4.out] at HO
      obtain ⟨og, oc, rfl⟩ := row_some HO.out (by omega)
      clear hd4
      have hmap : (B.forget who).ns = B.ns.map fun n => { n with miss := remS who n.miss } := rfl
      have HRW : Hid (RW (fun b => w.heap.size + 2 ≤ b ∧ b < wr.heap.size) wr (.slice (some ⟨og, 0, none⟩) 4 oc) (B.forget who).wl) := by
        refine ⟨ds, HD4.out, fun i hi => ?_, (SlA.of_owns HO.out).cut⟩
        have : (B.forget who).wl i = remS who (B.wl i) := by simp only [Brd.forget]; rw [if_pos (by have := HD4.out; omega)]
        rw [this]
        exact (HE.out i hi).weak fun b hb => HG.out.lo b hb
      clear HE HG HO
      generalize hn1 : wr.heap.size = n1 at *
      have HN1 := Lib.hid hn1
      clear hn1 hmap
      go_wp2
      obtain ⟨wo, rfl⟩ : ∃ wo : World, wo = wr := ⟨_, rfl⟩
      go_loopw [7, 8] (fun out q wr2 => ∃ (k : Nat) (ds : List Value) (S : Nat → Prop), k ≤ B.ns.length ∧ q = .int .i64 k ∧ ds.length = k ∧ Els S wr2 ds (fun i => remS who (missF B.ns i)) ∧ wr2.ownsRow n1 68 3 out k (flat (B.ns.take k) ds) ∧ Gro n1 S wr2 out ∧
        n1 ≤ wr2.heap.size ∧ Below n1 (wo.setCell ⟨w.heap.size, 0, none⟩ (.slice (some ⟨og, 0, none⟩) 4 oc)) wr2) (fun _ q _ => B.ns.length - (intOf q).toNat)
      case atStart => exact ⟨0, [], _, by omega, rfl, rfl, fun i hi => by simp at hi, World.ownsRow_nil _ _ _ _, Gro.nil _ _, by simp [HN1.out], Below.refl _ _⟩
      case round =>
        obtain ⟨k2, ds2, S2, hk2, rfl, hds2, hE2, hown2, hG2, hsz2, hbr2⟩ := hrel
        have HO2 := Lib.hid hown2
        have HE2 := Lib.hid hE2
        have HG2 := Lib.hid hG2
        have HDS2 := Lib.hid hds2
        have hW : wr.heap[w.heap.size]? = some (.cells #[.slice (some ⟨og, 0, none⟩) 4 oc, .slice na B.ns.length nc, .int .i64 B.last] 38 (0, 0)) := by
          rw [hbr2.block _ (by omega)]
          exact heap_setCell_same wo w.heap.size 0 _ _ _ HB0.out
        have hW1 : wr.heap[w.heap.size + 1]? = some (.cells #[.slice none 0 0, .slice none 0 0, .int .i64 0] 38 (0, 0)) := by
          rw [hbr2.block _ (by omega), Below.heap_setCell _ _ _ _ (by simp)]
          exact HB1.out
        have HWB := Lib.hid hW
        have HWB1 := Lib.hid hW1
        have HBR2 := Lib.hid hbr2
        have hbw0 : Below w.heap.size w (wo.setCell ⟨w.heap.size, 0, none⟩ (.slice (some ⟨og, 0, none⟩) 4 oc)) := hbr.setCell (Nat.le_refl _) _
        have hbw : Below w.heap.size w wr := hbw0.trans (hbr2.mono (by omega))
        obtain ⟨y0, z0⟩ := blk_cell (i := 0) hW
        obtain ⟨y1, z1⟩ := blk_cell (i := 1) hW
        simp at y0 y1
        clear hown2 hE2 hG2 hds2 hW hW1 hbr2 a0 a1 f0 f1
        by_cases hlt2 : k2 < B.ns.length
        · obtain ⟨b, off, u, rfl, hbl, d0, d1, d2, hu⟩ := HN.out.at hlt2
          obtain ⟨ua, uc, rfl⟩ := SlA.shape hu
          have d0 := cellB hbw hbl d0
          have d1 := cellB hbw hbl d1
          have d2 := cellB hbw hbl d2
          have hmm : Hid ((B.ns[k2]).miss.length ≤ 1000) := HM.out _ (List.getElem_mem hlt2)
          have hmf : Hid (missF B.ns k2 = (B.ns[k2]).miss) := missF_at hlt2
          have hfl := fun (v : Value) => flat_snoc (v := v) hlt2 HDS2.out
          have HFL := Lib.hid hfl
          have HU : Hid (RL (fun b => A b ∧ b < w.heap.size) wr (.slice ua (B.ns[k2]).miss.length uc) (B.ns[k2]).miss) := hu.cut.mono (Same.of_below hbw fun b hb => hb.2)
          clear hu hfl z0 z1
          generalize hnk : B.ns[k2] = nk at *
          obtain ⟨nid, nat_, nb1, nb2, ms⟩ := nk
          have HNK := Lib.hid hnk
          clear hnk
          simp only at d0 d1 d2
          go_wp2_with fail
          refine (without_any _ _ ms who _ (HU.out.ext ((Below.refl _ _).alloc (Nat.le_refl _) _)) hmm.out).mono ?_
          rintro e w2 ⟨v2, rfl, hv2, hb2⟩
          obtain ⟨v2a, v2c, rfl⟩ := SlA.shape hv2
          have hblk : w2.heap[wr.heap.size]? = some (.cells #[.int .i64 nid, .int .i64 nat_, .slice ua ms.length uc] 68 (0, 0)) := by
            rw [hb2.block _ (by simp)]
            exact heap_alloc_new wr _
          obtain ⟨e0, q0⟩ := blk_cell (i := 0) hblk
          obtain ⟨e1, q1⟩ := blk_cell (i := 1) hblk
          obtain ⟨e2, q2⟩ := blk_cell (i := 2) hblk
          simp at e0 e1 e2
          have hbs : Below wr.heap.size wr (w2.setCell ⟨wr.heap.size, 2, none⟩ (.slice v2a (remS who ms).length v2c)) := (((Below.refl _ wr).alloc (Nat.le_refl _) _).trans (hb2.mono (by simp))).setCell (Nat.le_refl _) _
          have hv3 : RL (fun b => wr.heap.size ≤ b) (w2.setCell ⟨wr.heap.size, 2, none⟩ (.slice v2a (remS who ms).length v2c)) (.slice v2a (remS who ms).length v2c) (remS who ms) := by
            refine (RL.mono hv2 ((Same.refl _ w2).setCell ?_ _)).weak fun b hb => ?_
            · simp
            · simp at hb; omega
          have HBS := Lib.hid hbs
          have HV3 := Lib.hid hv3
          have HO3 := Lib.hid (owns_ext HO2.out hbs)
          have hs2 : wr.heap.size + 1 ≤ w2.heap.size := by simpa using hb2.size
          clear hv2 hb2 hblk d0 d1 d2 y0 y1 hbs hv3
          go_wp2_with (first | (at_builtin; refine wpList_append_own_at _ rfl _ _ 36 rfl n1 68 j0 (.agg #[.int .i64 0, .int .i64 0, .slice none 0 0]) 3 40 Try.underlying36 hj' hy0 hy1 hy2 rfl (by decide) _ _ _ rfl (HO3.out.alloc _) ⟨w2.heap.size, 0, none⟩ 1 1 [.int .i64 nid, .int .i64 nat_, .slice v2a (remS who ms).length v2c] rfl rfl ?c0n ?c1n ?c2n ?c3n ?c4n ?_) | go_in)
          case c0n => simpa using cells3 (w2.setCell ⟨wr.heap.size, 2, none⟩ (.slice v2a (remS who ms).length v2c)) (.int .i64 nid) (.int .i64 nat_) (.slice v2a (remS who ms).length v2c) 68
          case c1n => simp [Value.oneCell']
          case c2n => unfold maxLen; omega
          case c3n => omega
          case c4n => simp; omega
          intro v3 w3 ho hg hnn hat
          obtain ⟨q1, q2, q3⟩ := nest_step HG2.out HO2.out hsz2 HBS.out hg (by simpa using hat)
          have HE3 := Lib.hid (Els.step HE2.out HBS.out q2 (by rw [HDS2.out, hmf.out]; exact HV3.out))
          have HG3 := Lib.hid q1
          have HO4 := Lib.hid ho
          have hb3 := Lib.hid (HBR2.out.trans q3)
          have hs3 := q3.size
          clear ho hg hnn hat q1 q2 q3
          go_wp2
          go_roundw
          case rel => exact ⟨k2 + 1, _, _, by omega, by go_num, by simp [HDS2.out], HE3.out, by rw [HFL.out]; exact HO4.out, HG3.out, by omega, hb3.out⟩
          case measure => simp [intOf]; omega
        · obtain ⟨fa, fc, rfl⟩ := owns_shape HO2.out
          have hk5 : k2 = B.ns.length := by omega
          have hfin : IsR (Far A w 2) wr (.agg #[.slice (some ⟨og, 0, none⟩) 4 oc, .slice fa k2 fc, .int .i64 B.last]) (B.forget who) := by
            refine ⟨_, _, rfl, ?_, ds2, ?_, fun i hi hi' => ?_, ?_⟩
            · refine ((HRW.out.mono ((Same.refl _ wo).setCell (a := ⟨w.heap.size, 0, none⟩) ?_ _)).mono (Same.of_below HBR2.out fun b hb => hb.2)).weak fun b hb => .inr hb.1
              intro hb
              have h1 : w.heap.size + 2 ≤ w.heap.size := hb.1
              omega
            · simp [Brd.forget]; rw [HDS2.out]; exact hk5
            · have hi2 : i < B.ns.length := by simpa [Brd.forget] using hi
              have h1 := HE2.out i hi'
              rw [show ((B.forget who).ns[i]'hi).miss = remS who (missF B.ns i) by rw [missF_at hi2]; simp [Brd.forget]]
              exact h1.weak fun b hb => .inr (by have := HG2.out.lo b hb; omega)
            · have h1 := SlA.of_owns HO2.out
              have h2 : (B.forget who).ns.length = k2 := by simp [Brd.forget]; omega
              have h3 : flat (B.forget who).ns ds2 = flat (B.ns.take k2) ds2 := by
                rw [hk5, List.take_length]
                exact flat_map (f := fun n => { n with miss := remS who n.miss }) (fun n => ⟨rfl, rfl⟩) B.ns ds2
              rw [h2, h3]
              exact h1.weak fun b hb => .inr (by omega)
          have FIN := Lib.hid hfin
          have HBW := Lib.hid hbw
          obtain ⟨y2, z2⟩ := blk_cell (i := 2) HWB.out
          obtain ⟨e0, q0⟩ := blk_cell (i := 0) HWB1.out
          obtain ⟨e1, q1⟩ := blk_cell (i := 1) HWB1.out
          obtain ⟨e2, q2⟩ := blk_cell (i := 2) HWB1.out
          simp at y2 e0 e1 e2
          have hk6 : B.ns.length ≤ k2 := by omega
          clear hfin hbw hk5 hlt2 hbw0
          go_wp2
          refine bodyPost_ret (v := .agg #[.slice (some ⟨og, 0, none⟩) 4 oc, .slice fa k2 fc, .int .i64 B.last]) (by simp [results, Try.results20, go_sem, e0, e1, e2]) rfl ⟨_, rfl, (FIN.out.mono ?_).weak (Far.up A w 2), ?_⟩
          · refine Same.setCell (Same.setCell (Same.setCell (Same.setCell (Same.refl _ _) ?_ _) ?_ _) ?_ _) ?_ _
            · exact not_far0 (by omega)
            · exact not_far (by omega)
            · exact not_far (by omega)
            · exact not_far (by omega)
          · refine Below.setCell (Below.setCell (Below.setCell (Below.setCell HBW.out ?_ _) ?_ _) ?_ _) ?_ _ <;> (simp; try omega)
end Go.Proofs.Ytiikkglgoanpbaa
