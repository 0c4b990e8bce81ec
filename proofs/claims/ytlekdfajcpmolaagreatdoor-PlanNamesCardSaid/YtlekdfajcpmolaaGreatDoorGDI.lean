/- The reference's bytes: terrazzoref01.wide, most, Num, Blob. txn.Pack at any transaction; the walk of terrazzoref09.Pack. -/
import Derived.Test.YtlekdfajcpmolaaGreatDoorGAD
import Derived.Test.YtlekdfajcpmolaaGreatDoorGCF
import Derived.Test.YtlekdfajcpmolaaGreatDoorPut
import Derived.Test.YtlekdfajcpmolaaGreatDoorGCY
import Derived.Test.YtlekdfajcpmolaaGreatDoorGDB
namespace Go.Proofs.YtlekdfajcpmolaaGreatDoor
open Go.RowKit

theorem be_cons (k n : Nat) : be (k + 1) n = UInt8.ofNat (n / 256 ^ k) :: be k n := by
  induction k generalizing n with
  | zero => simp [be]
  | succ k ih =>
    rw [be, ih, Nat.div_div_eq_div_mul, ← Nat.pow_succ']
    rfl
theorem num_step (W k n : Nat) (h : k < W) : (List.replicate (W - k) (0 : UInt8) ++ be k n).set (W - 1 - k) (UInt8.ofNat (n / 256 ^ k)) = List.replicate (W - (k + 1)) 0 ++ be (k + 1) n := by
  have e : W - k = (W - (k + 1)) + 1 := by omega
  rw [List.set_append_left _ _ (by simp; omega), be_cons, e, List.replicate_succ', List.set_append_right _ _ (by simp; omega)]
  have e2 : W - 1 - k - (W - (k + 1)) = 0 := by omega
  simp [e2]
theorem rwide_any (W : Nat) (h1 : 1 ≤ W) (h7 : W ≤ 7) (w : World) : Calls Tryz.prog 125 #[.int .i64 W] w fun e w' => e = .returned (.int .i64 W) ∧ w = w' := by
  have e1 : max (W : Int) 1 = W := by omega
  have e2 : min (W : Int) 7 = W := by omega
  go_enter Tryz.func125, Tryz.ntmps125
  go_wp2
  go_ret
  exact ⟨rfl, rfl⟩
theorem pow_six {k W : Nat} (h : k < W) (h7 : W ≤ 7) : 256 ^ k ≤ 281474976710656 := Nat.le_trans (Nat.pow_le_pow_right (by decide) (by omega : k ≤ 6)) (by decide)
theorem rmost_any (W : Nat) (h7 : W ≤ 7) (w : World) : Calls Tryz.prog 126 #[.int .i64 W] w fun e w' => e = .returned (.int .i64 ((256 ^ W - 1 : Nat) : Int)) ∧ w = w' := by
  go_enter Tryz.func126, Tryz.ntmps126
  go_wp2
  go_loopw [3, 4] (fun q3 q4 wr => ∃ (k P : Nat), k ≤ W ∧ q3 = .int .i64 P ∧ q4 = .int .i64 k ∧ 256 ^ k = P ∧ w = wr) (fun _ q4 _ => W - (intOf q4).toNat)
  case atStart => exact ⟨0, 1, Nat.zero_le _, rfl, rfl, rfl, rfl⟩
  case round =>
    obtain ⟨k, P, hk, rfl, rfl, hP, rfl⟩ := hrel
    by_cases hlt : k < W
    · have hb := pow_six hlt h7
      rw [hP] at hb
      have HP : Hid (256 ^ (k + 1) = P * 256) := by
        show _ = _
        rw [Nat.pow_succ, hP]
      clear hP
      go_wp2
      go_roundw
      case rel => exact ⟨k + 1, P * 256, by omega, by go_num, by go_num, HP.out, trivial⟩
      case measure => simp [intOf]; omega
    · obtain rfl : k = W := by omega
      have h1 : 1 ≤ P := by rw [← hP]; exact Nat.pow_pos (by decide)
      have h2 : P ≤ 72057594037927936 := by rw [← hP]; exact Nat.le_trans (Nat.pow_le_pow_right (by decide) h7) (by decide)
      have HP : Hid (((256 ^ k - 1 : Nat) : Int) = (P : Int) - 1) := by
        show _ = _
        rw [hP]
        omega
      clear hP
      go_wp2
      go_ret
      exact ⟨by rw [HP.out]; rfl, rfl⟩
set_option maxRecDepth 100000 in
set_option maxHeartbeats 1600000 in
theorem bnum_any (W n : Nat) (h1 : 1 ≤ W) (h7 : W ≤ 7) (hn : n < 256 ^ W) (w : World) : Calls Tryz.prog 65 #[.int .i64 W, .int .i64 n] w (NewB w (be W n)) := by
  have e1 : max (n : Int) 0 = n := by omega
  have e2 : min (n : Int) ((256 ^ W - 1 : Nat) : Int) = n := by omega
  have hnb : n < 72057594037927936 := Nat.lt_of_lt_of_le hn (Nat.le_trans (Nat.pow_le_pow_right (by decide) h7) (by decide))
  have hmk := mk_bytes W (by omega)
  have HW7 := Lib.hid hn
  clear hn
  go_enter Tryz.func65, Tryz.ntmps65
  go_wp2_with fail
  refine (rwide_any W h1 h7 _).mono ?_
  rintro e w1 ⟨rfl, rfl⟩
  go_wp2_with fail
  refine (rmost_any W h7 _).mono ?_
  rintro e w1 ⟨rfl, rfl⟩
  generalize ((256 ^ W - 1 : Nat) : Int) = M at *
  go_wp2_with go_in
  go_loopw [1, 7] (fun q1 q7 wr => ∃ (k m : Nat), k ≤ W ∧ q1 = .int .i64 m ∧ q7 = .int .i64 ((W : Int) - 1 - k) ∧ n / 256 ^ k = m ∧ OB w.heap.size wr (.slice (some ⟨w.heap.size, 0, none⟩) W W) (List.replicate (W - k) 0 ++ be k n) ∧ Below w.heap.size w wr) (fun _ q7 _ => (intOf q7 + 1).toNat)
  case atStart =>
    refine ⟨0, n, Nat.zero_le _, rfl, by simp, by simp, ?_, ((Below.refl _ w).alloc (Nat.le_refl _) _)⟩
    refine OB.of_blk (t := []) ?_ (Nat.le_refl _) (by simp [be]) (by simp) (by omega)
    have e : (List.replicate (W - 0) (0 : UInt8) ++ be 0 n).map bv ++ [] = List.replicate W (Value.int .u8 0) := by simp [be, bv]
    rw [e]
    exact heap_alloc_new w _
  case round =>
    obtain ⟨k, m, hk, rfl, rfl, hm, ho, hb⟩ := hrel
    have HO := Lib.hid ho
    have hs := hb.size
    have HB := Lib.hid hb
    by_cases hlt : k < W
    · obtain ⟨j, hj⟩ : ∃ j : Nat, (W : Int) - 1 - k = j := ⟨W - 1 - k, by omega⟩
      have hjn : W - 1 - k = j := by omega
      have hmn : m ≤ n := by rw [← hm]; exact Nat.div_le_self _ _
      have HJ := Lib.hid hjn
      have HK : Hid (bv (UInt8.ofNat m) = .int .u8 ((m : Int) % 256)) := by show _ = _; simp [bv]
      have HS : Hid ((List.replicate (W - k) (0 : UInt8) ++ be k n).set j (UInt8.ofNat m) = List.replicate (W - (k + 1)) 0 ++ be (k + 1) n) := by
        show _ = _
        rw [← hm, ← hjn]
        exact num_step W k n hlt
      have HM : Hid (n / 256 ^ (k + 1) = m / 256) := by
        show _ = _
        rw [← hm, Nat.div_div_eq_div_mul, Nat.pow_succ]
      have hlen : (List.replicate (W - k) (0 : UInt8) ++ be k n).length = W := by simp [be_length]; omega
      have HJW : Hid ((W : Int) - 1 - ((k + 1 : Nat) : Int) = (j : Int) - 1) := by show _ = _; omega
      rw [hj]
      obtain ⟨g, c, hv, -, hg, hc, hcell, hfr⟩ := ho.lies (by rw [hlen]; omega)
      simp only [Value.slice.injEq, Option.some.injEq, Addr.mk.injEq] at hv
      obtain ⟨⟨rfl, -, -⟩, -, rfl⟩ := hv
      have hcj := hcell j (by rw [hlen]; omega)
      obtain ⟨u, hu⟩ : ∃ u, ((List.replicate (W - k) (0 : UInt8) ++ be k n).map bv)[j]? = some u := ⟨_, List.getElem?_eq_getElem (by simp [be_length]; omega)⟩
      rw [hu] at hcj
      have hfj := hfr j
      have hjW : j < W := by omega
      clear hcell hfr hu hlen hm hb ho hc hj hjn
      go_wp2
      go_roundw
      case rel =>
        refine ⟨k + 1, m / 256, by omega, by go_num, by rw [HJW.out], HM.out, ?_, ?_⟩
        · rw [← HS.out, ← HK.out]
          exact HO.out.set j _
        · refine Below.setCell HB.out ?_ _
          exact Nat.le_refl _
      case measure => simp [intOf]
    · obtain rfl : k = W := by omega
      have HS : Hid (List.replicate (k - k) (0 : UInt8) ++ be k n = be k n) := by show _ = _; simp
      go_wp2
      go_ret
      exact ⟨_, rfl, by rw [← HS.out]; exact HO.out, HB.out⟩
set_option maxRecDepth 100000 in
set_option maxHeartbeats 800000 in
theorem bblob_any (A : Nat → Prop) (x : Value) (m : List UInt8) (w : World) (hx : RB A w x m) (hm : m.length ≤ 65535) : Calls Tryz.prog 66 #[x] w (NewB w (be 2 m.length ++ m)) := by
  obtain ⟨xa, xc, rfl⟩ := hx.shape
  have HX := Lib.hid hx
  clear hx
  go_enter Tryz.func66, Tryz.ntmps66
  go_wp2_with fail
  refine (bnum_any 2 m.length (by omega) (by omega) (by omega) _).mono ?_
  rintro e w1 ⟨v1, rfl, ho, hb⟩
  have HO := Lib.hid ho
  have HB := Lib.hid hb
  have hs := hb.size
  clear ho hb
  go_wp2_with (first | (at_builtin; refine wpList_appB _ rfl _ _ rfl w.heap.size _ _ rfl HO.out A _ m rfl (HX.out.ext HB.out) (by simp [be_length]; omega) hs ?_) | go_in)
  intro v2 w2 ho hb2
  have HO2 := Lib.hid ho
  have HB2 := Lib.hid hb2
  clear ho hb2
  go_wp2
  go_ret
  exact ⟨_, rfl, HO2.out, HB.out.trans HB2.out⟩
end Go.Proofs.YtlekdfajcpmolaaGreatDoor
namespace Go.Proofs.YtlekdfajcpmolaaGreatDoor
open Go.RowKit Go.WideShapes

/-- what an append of bytes leaves: the blocks that the row does not lie in stay -/
def AppOut (base : Nat) (W : World) (v : Value) (l : List UInt8) (v' : Value) (W' : World) : Prop :=
  OB base W' v' l ∧ Below base W W' ∧ ∀ (p : Nat) (o : Obj), W.heap[p]? = some o → v.ownBlock ≠ some p → W'.heap[p]? = some o ∧ v'.ownBlock ≠ some p
section
variable {ops : Array Oper} {rest : List Oper} {o : Oper} {a : Act} {Q : Exit → Act → World → Prop}
/-- 'append(out, src...)', and what stays -/
theorem wpList_appO (w : World) (hgd : o.guard = none) (s x : Operand) (ho : o.op = .call { callee := .builtin .append, args := #[s, x], argTypes := #[28, 28] })
    (base : Nat) (v : Value) (l : List UInt8) (hs : a.eval s = v) (hown : OB base w v l) (A : Nat → Prop) (sv : Value) (m : List UInt8)
    (hx : a.eval x = sv) (hsl : RB A w sv m) (hl : l.length + m.length ≤ 1000000) (hbase : base ≤ w.heap.size)
    (h : ∀ v' w', AppOut base w v (l ++ m) v' w' → wpList Tryz.prog ops Q rest (a.put o.dst v') w') : wpList Tryz.prog ops Q (o :: rest) a w := by
  obtain ⟨i0, hi, hz0, hz1, hz2⟩ := info_parts infoByte
  have fin : ∀ v' w', w'.ownsRow base 5 1 v' (l.length + m.length) (l.map bv ++ m.map bv) → w.grownBy w' v.ownBlock → (v'.ownBlock = v.ownBlock ∨ v'.ownBlock = some w.heap.size) → wpList Tryz.prog ops Q rest (a.put o.dst v') w' := by
    intro v' w' h4 h5 h6
    refine h v' w' ⟨OB.cast h4 (by simp) (by simp), (Below.refl base w).grown h5 hbase fun j hj => (hown.lt j hj).1, fun p ob hp hne => ?_⟩
    have hlt := (Array.getElem?_eq_some_iff.1 hp).1
    refine ⟨(h5.block p hlt fun e => hne e.symm).trans hp, ?_⟩
    rcases h6 with e | e
    · rw [e]; exact hne
    · rw [e]
      simp only [ne_eq, Option.some.injEq]
      omega
  rcases hsl.2 with ⟨⟨a0, rfl⟩, hm0⟩ | ⟨b, off, cap, rfl, hlb, hA, hc, hcell⟩
  · have hn : m = [] := List.length_eq_zero_iff.1 hm0
    subst hn
    cases a0 with
    | none => exact wpList_append_own_none hgd s x 28 ho base 5 i0 1 Tryz.underlying28 hi v l.length (l.map bv) hs hown hx (fin v w (by rw [List.map_nil, List.append_nil]; exact hown) (World.grownBy.refl w _) (.inl rfl))
    | some p => exact wpList_append_own_at w hgd s x 28 ho base 5 i0 (.int .u8 0) 1 1 Tryz.underlying28 hi hz0 hz1 hz2 rfl (by decide) v l.length (l.map bv) hs hown p 0 0 [] hx (by simp) (fun j u hj => by simp at hj) (by simp) (by unfold maxLen; simp at hl; omega) (by simp at hl; omega) hbase fun v' w' h2 h3 _ h6 => fin v' w' (by simpa using h2) h3 h6
  · refine wpList_append_own_at w hgd s x 28 ho base 5 i0 (.int .u8 0) 1 1 Tryz.underlying28 hi hz0 hz1 hz2 rfl (by decide) v l.length (l.map bv) hs hown ⟨b, off, none⟩ m.length cap (m.map bv) hx (by simp) (fun j u hj => ?_) (one_bytes m) (by unfold maxLen; omega) (by omega) hbase fun v' w' h2 h3 _ h6 => fin v' w' h2 h3 h6
    have hjl : j < m.length * 1 := by have := (List.getElem?_eq_some_iff.1 hj).1; simpa using this
    rw [WideShapes.add_plain, hcell j hjl, hj]
end
/-- a row of the call's own that two boxes are no part of -/
structure St (w : World) (p q : Nat) (op oq : Obj) (W : World) (v : Value) (l : List UInt8) : Prop where
  bp : W.heap[p]? = some op
  bq : W.heap[q]? = some oq
  np : v.ownBlock ≠ some p
  nq : v.ownBlock ≠ some q
  ob : OB w.heap.size W v l
  bl : Below w.heap.size w W
theorem St.call {w : World} {p q : Nat} {op oq : Obj} {W W' : World} {v : Value} {l : List UInt8} (h : St w p q op oq W v l) (hb : Below W.heap.size W W') : St w p q op oq W' v l :=
  ⟨blkk hb h.bp, blkk hb h.bq, h.np, h.nq, h.ob.ext hb, below_call h.bl hb⟩
theorem St.app {w : World} {p q : Nat} {op oq : Obj} {W W' : World} {v v' : Value} {l l' : List UInt8} (h : St w p q op oq W v l) (ha : AppOut w.heap.size W v l' v' W') : St w p q op oq W' v' l' :=
  ⟨(ha.2.2 p op h.bp h.np).1, (ha.2.2 q oq h.bq h.nq).1, (ha.2.2 p op h.bp h.np).2, (ha.2.2 q oq h.bq h.nq).2, ha.1, h.bl.trans ha.2.1⟩
theorem OB.not_at {base p : Nat} {W : World} {v : Value} {l : List UInt8} (h : OB base W v l) (hp : p < base ∨ W.heap.size ≤ p) : v.ownBlock ≠ some p := fun e => by
  have := h.lt p e
  omega
/-- a new box beside it -/
theorem St.box {w : World} {p : Nat} {op : Obj} {W : World} {v : Value} {l : List UInt8} (h : St w p p op op W v l) (o : Obj) : St w p W.heap.size op o (W.alloc o) v l :=
  ⟨blka h.bp o, heap_alloc_new W o, h.np, h.ob.not_at (.inr (Nat.le_refl _)), h.ob.ext ((Below.refl _ W).alloc (Nat.le_refl _) _), below_new h.bl o⟩
theorem St.one {w : World} {p q : Nat} {op oq : Obj} {W : World} {v : Value} {l : List UInt8} (h : St w p q op oq W v l) : St w p p op op W v l := ⟨h.bp, h.bp, h.np, h.np, h.ob, h.bl⟩
theorem St.cast {w : World} {p q : Nat} {op oq : Obj} {W : World} {v : Value} {l l' : List UInt8} (h : St w p q op oq W v l) (e : l = l') : St w p q op oq W v l' := e ▸ h
end Go.Proofs.YtlekdfajcpmolaaGreatDoor
