/- Rows of bytes of the call's own: append of one byte, append of a row, a byte written. No function is named. Rows of bytes: their cells; rows made by make; what a copy leaves. The reference's bytes: terrazzoref01.wide, most, Num, Blob. The walks of the reference's frames: terrazzoref02.Sum, Tail, Make. The walk of terrazzoref09.Check. -/
import Derived.Test.YtlgefkaafoidmaaGreatDoorGL
import Derived.Test.YtlgefkaafoidmaaGreatDoorGF
import Derived.Test.YtlgefkaafoidmaaGreatDoorGA
import Derived.Laws.CopyOwn
import Derived.Laws.MakeOwn
import Derived.Test.YtlgefkaafoidmaaGreatDoorGC
import Derived.Test.YtlgefkaafoidmaaGreatDoorWrt
import Derived.Test.YtlgefkaafoidmaaGreatDoorGK
import Derived.Test.YtlgefkaafoidmaaGreatDoorGJ
import Derived.Test.YtlgefkaafoidmaaGreatDoorGM
namespace Go.Proofs.YtlgefkaafoidmaaGreatDoor
open Go.RowKit Go.WideShapes

section
variable {ops : Array Oper} {rest : List Oper} {o : Oper} {a : Act} {Q : Exit → Act → World → Prop}
/-- 'append(out, b)' -/
theorem wpList_pushB (W : World) (hgd : o.guard = none) (s x : Operand) (ho : o.op = .call { callee := .builtin .append, args := #[s, x], argTypes := #[27, 27] })
    (base : Nat) (v : Value) (l : List UInt8) (hs : a.eval s = v) (hown : OB base W v l) (c : List Value) (tt : TypeId) (y : UInt8) (hc : c = [bv y])
    (hx : a.eval x = .slice (some ⟨W.heap.size, 0, none⟩) 1 1) (hl : l.length ≤ 1000000) (hbase : base ≤ W.heap.size)
    (h : ∀ v' w', OB base w' v' (l ++ [y]) → Below base W w' → wpList Tryz.prog ops Q rest (a.put o.dst v') w') : wpList Tryz.prog ops Q (o :: rest) a (W.alloc (.cells c.toArray tt)) := by
  obtain ⟨i0, hi, hz0, hz1, hz2⟩ := info_parts infoByte
  subst hc
  have hal : Below W.heap.size W (W.alloc (.cells [bv y].toArray tt)) := (Below.refl _ _).alloc (Nat.le_refl _) _
  refine wpList_append_own _ hgd s x 27 ho base 5 i0 (.int .u8 0) 1 1 Tryz.underlying27 hi hz0 hz1 hz2 rfl (by decide) v l.length (l.map bv) hs (owns_ext hown hal) ⟨W.heap.size, 0, none⟩ 1 1 [bv y] hx rfl (cells_new W [bv y] tt) (one_bytes [y]) (by unfold maxLen; omega) (by omega) (Nat.le_trans hbase hal.size) ?_
  intro v' w' h4 h5 _
  exact h v' w' (OB.cast h4 (by simp) (by simp)) (((Below.refl base W).alloc hbase _).grown h5 (by simp; omega) fun j hj => (hown.lt j hj).1)
/-- 'append(out, src...)' -/
theorem wpList_appB (w : World) (hgd : o.guard = none) (s x : Operand) (ho : o.op = .call { callee := .builtin .append, args := #[s, x], argTypes := #[27, 27] })
    (base : Nat) (v : Value) (l : List UInt8) (hs : a.eval s = v) (hown : OB base w v l) (A : Nat → Prop) (sv : Value) (m : List UInt8)
    (hx : a.eval x = sv) (hsl : RB A w sv m) (hl : l.length + m.length ≤ 1000000) (hbase : base ≤ w.heap.size)
    (h : ∀ v' w', OB base w' v' (l ++ m) → Below base w w' → wpList Tryz.prog ops Q rest (a.put o.dst v') w') : wpList Tryz.prog ops Q (o :: rest) a w := by
  obtain ⟨i0, hi, hz0, hz1, hz2⟩ := info_parts infoByte
  refine wpList_append_sl hgd s x 27 ho base 5 i0 (.int .u8 0) 1 1 Tryz.underlying27 hi hz0 hz1 hz2 rfl (by decide) v l.length (l.map bv) hs hown A sv m.length (m.map bv) hx hsl (one_bytes m) (by unfold maxLen; omega) (by omega) hbase ?_
  intro v' w' h4 h5
  exact h v' w' (OB.cast h4 (by simp) (by simp)) ((Below.refl base w).grown h5 hbase fun j hj => (hown.lt j hj).1)
end
/-- a byte of a row of the call's own is written -/
theorem OB.set {base g n c : Nat} {w : World} {l : List UInt8} (h : OB base w (.slice (some ⟨g, 0, none⟩) n c) l) (j : Nat) (b : UInt8) : OB base (w.setCell ⟨g, j, none⟩ (bv b)) (.slice (some ⟨g, 0, none⟩) n c) (l.set j b) := by
  have hn : n = l.length := by
    rcases h.2 with ⟨e, -⟩ | ⟨g', c', u', e, -⟩
    · simp at e
    · simp only [Value.slice.injEq] at e; exact e.2.1
  subst hn
  exact OB.cast (owns_set h j (bv b)) (by simp) (by rw [List.map_set])
/-- where a row of the call's own that has bytes lies -/
theorem OB.lies {base : Nat} {w : World} {v : Value} {l : List UInt8} (h : OB base w v l) (h0 : 0 < l.length) : ∃ g c, v = .slice (some ⟨g, 0, none⟩) l.length c ∧ base ≤ g ∧ g < w.heap.size ∧ l.length ≤ c ∧ (∀ k, k < l.length → w.cell? ⟨g, k, none⟩ = (l.map bv)[k]?) ∧ ∀ k, w.frozen? ⟨g, k, none⟩ = false := by
  have h' := h
  rcases h.2 with ⟨_, e⟩ | ⟨g, c, cur, rfl, hb, hg, hn, -⟩
  · omega
  · refine ⟨g, c, rfl, hb, (Array.getElem?_eq_some_iff.1 hg).1, hn, fun k hk => ?_, fun k => (blk_cell hg).2⟩
    have := World.ownsRow.cellAt h' k (by omega)
    simpa using this
end Go.Proofs.YtlgefkaafoidmaaGreatDoor
namespace Go.Proofs.YtlgefkaafoidmaaGreatDoor
open Go.RowKit

/-- where the bytes of a row that has some lie -/
theorem RB.lie {A : Nat → Prop} {w : World} {a : Option Addr} {c : Nat} {l : List UInt8} (h : RB A w (.slice a l.length c) l) (h0 : 0 < l.length) :
    ∃ b off, a = some ⟨b, off, none⟩ ∧ b < w.heap.size ∧ A b ∧ l.length ≤ c ∧ ∀ k, k < l.length → w.cell? ⟨b, off + k, none⟩ = (l.map bv)[k]? := by
  obtain ⟨b, off, rfl, h1, h2, h3, h4⟩ := SlA.at h h0
  exact ⟨b, off, rfl, h1, h2, h3, fun k hk => h4 k (by omega)⟩
theorem RB.capl {A : Nat → Prop} {w : World} {a : Option Addr} {c : Nat} {l : List UInt8} (h : RB A w (.slice a l.length c) l) : l.length ≤ c := by
  rcases h.2 with ⟨⟨a', e⟩, h0⟩ | ⟨b, off, cap, e, hb, hA, hc, _⟩
  · simp only [Value.slice.injEq] at e; omega
  · simp only [Value.slice.injEq] at e; omega
theorem mk_bytes (n : Nat) (hn : n ≤ 1000000) (W : World) : (Instr.makeSlice 27 (.int .i64 (n : Int)) (.int .i64 (n : Int))).run Tryz.prog W = .ok (.slice (some ⟨W.heap.size, 0, none⟩) n n) (W.alloc (.cells (List.replicate n (Value.int .u8 0)).toArray 5)) := by
  obtain ⟨i0, hi, hz0, hz1, hz2⟩ := info_parts infoByte
  have h := run_make (P := Tryz.prog) W 27 5 i0 (.int .u8 0) Tryz.underlying27 hi hz0 .i64 .i64 n n (by omega) (by omega) (by rw [hz2]; omega) (by omega)
  have e : madeCells (Value.int .u8 0).cells n = (List.replicate n (Value.int .u8 0)).toArray := by
    apply Array.ext
    · simp [madeCells]
    · intro i h1 h2
      simp [madeCells, Value.cells, Nat.mod_one]
  rw [h, hz1]
  simp only [Int.toNat_natCast, Nat.mul_one]
  rw [e]
theorem splice0 (n : Nat) (z : Value) (cs : List Value) : splice (List.replicate n z) 0 cs = cs ++ List.replicate (n - cs.length) z := by
  unfold splice
  rw [List.take_zero, List.nil_append, Nat.zero_add, List.drop_replicate]
/-- a block that holds n bytes and no more is a row of the call's own -/
theorem OB.of_blk {base g n c : Nat} {w : World} {l : List UInt8} {t : List Value} (h : w.heap[g]? = some (.cells (l.map bv ++ t).toArray 5 (0, 0))) (hb : base ≤ g) (hn : l.length = n) (hc : n + t.length = c) (hm : c ≤ 1000000) : OB base w (.slice (some ⟨g, 0, none⟩) n c) l := by
  subst hn
  refine ⟨by simp, .inr ⟨g, c, _, rfl, hb, h, by omega, by unfold maxLen; omega, by simp; omega, by simp⟩⟩
end Go.Proofs.YtlgefkaafoidmaaGreatDoor
namespace Go.Proofs.YtlgefkaafoidmaaGreatDoor
open Go.RowKit

theorem be_cons (k n : Nat) : be (k + 1) n = UInt8.ofNat (n / 256 ^ k) :: be k n := by
  induction k generalizing n with
  | zero => simp [be]
  | succ k ih =>
    rw [be, ih, Nat.div_div_eq_div_mul, ← Nat.pow_succ']
    rfl
theorem num_step (W k n : Nat) (h : k < W) : (List.replicate (W - k) (0 : UInt8) ++ be k n).set (W - 1 - k) (UInt8.ofNat (n / 256 ^ k)) = List.replicate (W - (k + 1)) 0 ++ be (k + 1) n := by
  have e : W - k = (W - (k + 1)) + 1 := by omega
  rw [List.set_append_left _ _ (by simp; omega), be_cons, e, List.replicate_succ', List.set_append_right _ _ (by simp; omega)]
  have e2 : W - 1 - k - (W - (k + 1)) = 0 := by omega
  simp [e2]
theorem rwide_any (W : Nat) (h1 : 1 ≤ W) (h7 : W ≤ 7) (w : World) : Calls Tryz.prog 65 #[.int .i64 W] w fun e w' => e = .returned (.int .i64 W) ∧ w = w' := by
  have e1 : max (W : Int) 1 = W := by omega
  have e2 : min (W : Int) 7 = W := by omega
  go_enter Tryz.func65, Tryz.ntmps65
  go_wp2
  go_ret
  exact ⟨rfl, rfl⟩
theorem pow_six {k W : Nat} (h : k < W) (h7 : W ≤ 7) : 256 ^ k ≤ 281474976710656 := Nat.le_trans (Nat.pow_le_pow_right (by decide) (by omega : k ≤ 6)) (by decide)
theorem rmost_any (W : Nat) (h7 : W ≤ 7) (w : World) : Calls Tryz.prog 73 #[.int .i64 W] w fun e w' => e = .returned (.int .i64 ((256 ^ W - 1 : Nat) : Int)) ∧ w = w' := by
  go_enter Tryz.func73, Tryz.ntmps73
  go_wp2
  go_loopw [3, 4] (fun q3 q4 wr => ∃ (k P : Nat), k ≤ W ∧ q3 = .int .i64 P ∧ q4 = .int .i64 k ∧ 256 ^ k = P ∧ w = wr) (fun _ q4 _ => W - (intOf q4).toNat)
  case atStart => exact ⟨0, 1, Nat.zero_le _, rfl, rfl, rfl, rfl⟩
  case round =>
    obtain ⟨k, P, hk, rfl, rfl, hP, rfl⟩ := hrel
    by_cases hlt : k < W
    · have hb := pow_six hlt h7
      rw [hP] at hb
      have HP : Hid (256 ^ (k + 1) = P * 256) := by
        show _ = _
        rw [Nat.pow_succ, hP]
      clear hP
      go_wp2
      go_roundw
      case rel => exact ⟨k + 1, P * 256, by omega, by go_num, by go_num, HP.out, trivial⟩
      case measure => simp [intOf]; omega
    · obtain rfl : k = W := by omega
      have h1 : 1 ≤ P := by rw [← hP]; exact Nat.pow_pos (by decide)
      have h2 : P ≤ 72057594037927936 := by rw [← hP]; exact Nat.le_trans (Nat.pow_le_pow_right (by decide) h7) (by decide)
      have HP : Hid (((256 ^ k - 1 : Nat) : Int) = (P : Int) - 1) := by
        show _ = _
        rw [hP]
        omega
      clear hP
      go_wp2
      go_ret
      exact ⟨by rw [HP.out]; rfl, rfl⟩
set_option maxRecDepth 100000 in
set_option maxHeartbeats 1600000 in
theorem bnum_any (W n : Nat) (h1 : 1 ≤ W) (h7 : W ≤ 7) (hn : n < 256 ^ W) (w : World) : Calls Tryz.prog 42 #[.int .i64 W, .int .i64 n] w (NewB w (be W n)) := by
  have e1 : max (n : Int) 0 = n := by omega
  have e2 : min (n : Int) ((256 ^ W - 1 : Nat) : Int) = n := by omega
  have hnb : n < 72057594037927936 := Nat.lt_of_lt_of_le hn (Nat.le_trans (Nat.pow_le_pow_right (by decide) h7) (by decide))
  have hmk := mk_bytes W (by omega)
  have HW7 := Lib.hid hn
  clear hn
  go_enter Tryz.func42, Tryz.ntmps42
  go_wp2_with fail
  refine (rwide_any W h1 h7 _).mono ?_
  rintro e w1 ⟨rfl, rfl⟩
  go_wp2_with fail
  refine (rmost_any W h7 _).mono ?_
  rintro e w1 ⟨rfl, rfl⟩
  generalize ((256 ^ W - 1 : Nat) : Int) = M at *
  go_wp2_with go_in
  go_loopw [1, 7] (fun q1 q7 wr => ∃ (k m : Nat), k ≤ W ∧ q1 = .int .i64 m ∧ q7 = .int .i64 ((W : Int) - 1 - k) ∧ n / 256 ^ k = m ∧ OB w.heap.size wr (.slice (some ⟨w.heap.size, 0, none⟩) W W) (List.replicate (W - k) 0 ++ be k n) ∧ Below w.heap.size w wr) (fun _ q7 _ => (intOf q7 + 1).toNat)
  case atStart =>
    refine ⟨0, n, Nat.zero_le _, rfl, by simp, by simp, ?_, ((Below.refl _ w).alloc (Nat.le_refl _) _)⟩
    refine OB.of_blk (t := []) ?_ (Nat.le_refl _) (by simp [be]) (by simp) (by omega)
    have e : (List.replicate (W - 0) (0 : UInt8) ++ be 0 n).map bv ++ [] = List.replicate W (Value.int .u8 0) := by simp [be, bv]
    rw [e]
    exact heap_alloc_new w _
  case round =>
    obtain ⟨k, m, hk, rfl, rfl, hm, ho, hb⟩ := hrel
    have HO := Lib.hid ho
    have hs := hb.size
    have HB := Lib.hid hb
    by_cases hlt : k < W
    · obtain ⟨j, hj⟩ : ∃ j : Nat, (W : Int) - 1 - k = j := ⟨W - 1 - k, by omega⟩
      have hjn : W - 1 - k = j := by omega
      have hmn : m ≤ n := by rw [← hm]; exact Nat.div_le_self _ _
      have HJ := Lib.hid hjn
      have HK : Hid (bv (UInt8.ofNat m) = .int .u8 ((m : Int) % 256)) := by show _ = _; simp [bv]
      have HS : Hid ((List.replicate (W - k) (0 : UInt8) ++ be k n).set j (UInt8.ofNat m) = List.replicate (W - (k + 1)) 0 ++ be (k + 1) n) := by
        show _ = _
        rw [← hm, ← hjn]
        exact num_step W k n hlt
      have HM : Hid (n / 256 ^ (k + 1) = m / 256) := by
        show _ = _
        rw [← hm, Nat.div_div_eq_div_mul, Nat.pow_succ]
      have hlen : (List.replicate (W - k) (0 : UInt8) ++ be k n).length = W := by simp [be_length]; omega
      have HJW : Hid ((W : Int) - 1 - ((k + 1 : Nat) : Int) = (j : Int) - 1) := by show _ = _; omega
      rw [hj]
      obtain ⟨g, c, hv, -, hg, hc, hcell, hfr⟩ := ho.lies (by rw [hlen]; omega)
      simp only [Value.slice.injEq, Option.some.injEq, Addr.mk.injEq] at hv
      obtain ⟨⟨rfl, -, -⟩, -, rfl⟩ := hv
      have hcj := hcell j (by rw [hlen]; omega)
      obtain ⟨u, hu⟩ : ∃ u, ((List.replicate (W - k) (0 : UInt8) ++ be k n).map bv)[j]? = some u := ⟨_, List.getElem?_eq_getElem (by simp [be_length]; omega)⟩
      rw [hu] at hcj
      have hfj := hfr j
      have hjW : j < W := by omega
      clear hcell hfr hu hlen hm hb ho hc hj hjn
      go_wp2
      go_roundw
      case rel =>
        refine ⟨k + 1, m / 256, by omega, by go_num, by rw [HJW.out], HM.out, ?_, ?_⟩
        · rw [← HS.out, ← HK.out]
          exact HO.out.set j _
        · refine Below.setCell HB.out ?_ _
          exact Nat.le_refl _
      case measure => simp [intOf]
    · obtain rfl : k = W := by omega
      have HS : Hid (List.replicate (k - k) (0 : UInt8) ++ be k n = be k n) := by show _ = _; simp
      go_wp2
      go_ret
      exact ⟨_, rfl, by rw [← HS.out]; exact HO.out, HB.out⟩
set_option maxRecDepth 100000 in
set_option maxHeartbeats 800000 in
theorem bblob_any (A : Nat → Prop) (x : Value) (m : List UInt8) (w : World) (hx : RB A w x m) (hm : m.length ≤ 65535) : Calls Tryz.prog 44 #[x] w (NewB w (be 2 m.length ++ m)) := by
  obtain ⟨xa, xc, rfl⟩ := hx.shape
  have HX := Lib.hid hx
  clear hx
  go_enter Tryz.func44, Tryz.ntmps44
  go_wp2_with fail
  refine (bnum_any 2 m.length (by omega) (by omega) (by omega) _).mono ?_
  rintro e w1 ⟨v1, rfl, ho, hb⟩
  have HO := Lib.hid ho
  have HB := Lib.hid hb
  have hs := hb.size
  clear ho hb
  go_wp2_with (first | (at_builtin; refine wpList_appB _ rfl _ _ rfl w.heap.size _ _ rfl HO.out A _ m rfl (HX.out.ext HB.out) (by simp [be_length]; omega) hs ?_) | go_in)
  intro v2 w2 ho hb2
  have HO2 := Lib.hid ho
  have HB2 := Lib.hid hb2
  clear ho hb2
  go_wp2
  go_ret
  exact ⟨_, rfl, HO2.out, HB.out.trans HB2.out⟩
end Go.Proofs.YtlgefkaafoidmaaGreatDoor
namespace Go.Proofs.YtlgefkaafoidmaaGreatDoor
open Go.RowKit Go.WideShapes

/-- so many single steps -/
def s1n (X : BitVec 32) : Nat → BitVec 32
  | 0 => X
  | n + 1 => Crc.s1 (s1n X n)
theorem s1n8 (X : BitVec 32) : s1n X 8 = Crc.s4 (Crc.s4 X) := rfl
set_option maxRecDepth 100000 in
set_option maxHeartbeats 1600000 in
theorem rsum_any (A : Nat → Prop) (v : Value) (l : List UInt8) (w : World) (hl : l.length ≤ 1000000) (hv : RB A w v l) :
    Calls Tryz.prog 94 #[v] w fun e w' => e = .returned (.int .u32 ((Crc.sum l).toNat : Int)) ∧ w = w' := by
  obtain ⟨xa, xc, rfl⟩ := hv.shape
  have HV := Lib.hid hv
  clear hv
  go_enter Tryz.func94, Tryz.ntmps94
  go_wp2
  go_loopw [3, 4] (fun r i wr => wr = w ∧ ∃ k : Nat, k ≤ l.length ∧ i = .int .i64 k ∧ r = .int .u32 ((Crc.reg (BitVec.allOnes 32) (l.take k)).toNat : Int)) (fun _ i _ => l.length - (intOf i).toNat)
  case atStart => exact ⟨rfl, 0, Nat.zero_le _, rfl, rfl⟩
  case round =>
    obtain ⟨rfl, k, hk, rfl, rfl⟩ := hrel
    by_cases hlt : k < l.length
    · obtain ⟨b, off, rfl, hbl, -, hc⟩ := HV.out.cell hlt
      have HS := Lib.hid (reg_succ l k hlt)
      generalize Crc.reg (BitVec.allOnes 32) (l.take k) = r at *
      generalize l[k] = c at *
      have h8 := c.toNat_lt
      have e0 : bits .xor .u32 (r.toNat : Int) (c.toNat : Int) = ((r ^^^ BitVec.ofNat 32 c.toNat).toNat : Int) := by
        have hcv : (c.toNat : Int) = ((BitVec.ofNat 32 c.toNat).toNat : Int) := by rw [BitVec.toNat_ofNat, Nat.mod_eq_of_lt (by omega)]
        conv => lhs; rw [hcv]
        exact bits_xor_u32 _ _
      generalize r ^^^ BitVec.ofNat 32 c.toNat = X at *
      go_wp2
      go_loopw [3, 5] (fun r i wx => wx = wr ∧ ∃ j : Nat, j ≤ 8 ∧ i = .int .i64 j ∧ r = .int .u32 ((s1n X j).toNat : Int)) (fun _ i _ => 8 - (intOf i).toNat)
      case atStart => exact ⟨rfl, 0, Nat.zero_le _, rfl, rfl⟩
      case round =>
        obtain ⟨rfl, j, hj, rfl, rfl⟩ := hrel
        by_cases hlj : j < 8
        · have HJ : Hid (s1n X (j + 1) = Crc.s1 (s1n X j)) := Lib.hid rfl
          generalize s1n X j = Y at *
          have hy := Y.isLt
          have hq : ((Y.toNat : Int) % 2) = ((Y.toNat % 2 : Nat) : Int) := by omega
          by_cases hp : Y.toNat % 2 = 0
          · have hd := s1_even_u32 Y hp
            rw [hp] at hq
            clear hp
            go_wp2
            go_roundw
            case rel => exact ⟨trivial, j + 1, by omega, by go_num, by rw [HJ.out]⟩
            case measure => simp [intOf]; omega
          · have hp1 : Y.toNat % 2 = 1 := by omega
            have hd := s1_odd_u32 Y hp1
            rw [hp1] at hq
            clear hp hp1
            go_wp2
            go_roundw
            case rel => exact ⟨trivial, j + 1, by omega, by go_num, by rw [HJ.out]⟩
            case measure => simp [intOf]; omega
        · obtain rfl : j = 8 := by omega
          go_wp2
          go_roundw
          case rel => exact ⟨trivial, k + 1, by omega, by go_num, by rw [HS.out, s1n8]⟩
          case measure => simp [intOf]; omega
    · obtain rfl : k = l.length := by omega
      rw [List.take_length]
      have hs : (Crc.sum l).toNat = (~~~ (Crc.reg (BitVec.allOnes 32) l)).toNat := rfl
      generalize Crc.reg (BitVec.allOnes 32) l = R at *
      go_wp2
      go_ret
      refine ⟨?_, rfl⟩
      show Ending.returned (Value.int .u32 (bits .xor .u32 4294967295 (R.toNat : Int))) = _
      rw [comp_u32, BitVec.toNat_not]
set_option maxRecDepth 100000 in
set_option maxHeartbeats 1600000 in
theorem rtail_any (A : Nat → Prop) (v : Value) (l : List UInt8) (w : World) (hl : l.length ≤ 1000000) (hv : RB A w v l) : Calls Tryz.prog 86 #[v] w (NewB w (tailB l)) := by
  obtain ⟨xa, xc, rfl⟩ := hv.shape
  have HV := Lib.hid hv
  clear hv
  go_enter Tryz.func86, Tryz.ntmps86
  go_wp2_with fail
  refine (rsum_any A _ l _ hl HV.out).mono ?_
  rintro e w1 ⟨rfl, rfl⟩
  have hs0 : (Crc.sum l).toNat < 4294967296 := (Crc.sum l).isLt
  have HL : Hid (tailB l = le4 (Crc.sum l).toNat) := rfl
  generalize (Crc.sum l).toNat = s at *
  have HC := Lib.hid (le4_vals s (by omega))
  go_wp2
  go_ret
  rw [HL.out]
  refine ⟨_, rfl, OB.of_blk (t := []) (g := w.heap.size) (n := 4) (c := 4) ?_ (Nat.le_refl _) rfl rfl (by omega), by ((repeat' (first | exact Below.refl _ _ | refine below_drewN ?_ _ | refine Below.drew ?_ | refine Below.alloc ?_ ?_ _ | refine Below.trans ?_ (Below.mono (by assumption) ?_))); all_goals (first | exact Nat.le_refl _ | exact Below.size (by assumption) | omega | (simp; done) | (simp; omega)))⟩
  rw [HC.out]
  first
  | exact heap_alloc_new w _
  | (refine (heap_alloc_new w _).trans ?_; simp; done)
/-- what Make leaves -/
def MkR (k : Nat) (m : List UInt8) (w : World) (e : Ending) (w' : World) : Prop :=
  ∃ (v : Value), e = .returned (.tuple #[v, .int .i64 (if m.length ≤ 8192 then 0 else 2)]) ∧ OB w.heap.size w' v (if m.length ≤ 8192 then frm k m else []) ∧ Below w.heap.size w w'
set_option maxRecDepth 100000 in
set_option maxHeartbeats 1600000 in
theorem rmk_any (A : Nat → Prop) (k : Nat) (x : Value) (m : List UInt8) (w : World) (hk : k < 256) (hx : RB A w x m) (hm : m.length ≤ 1000000) : Calls Tryz.prog 74 #[.int .i64 k, x] w (MkR k m w) := by
  obtain ⟨xa, xc, rfl⟩ := hx.shape
  have HX := Lib.hid hx
  have hb8 : bv (UInt8.ofNat k) = .int .u8 (k : Int) := by simp [bv, Nat.mod_eq_of_lt hk]
  have HB8 := Lib.hid hb8
  clear hx hb8
  by_cases hl : m.length ≤ 8192
  · have HEND : Hid (∀ v W, OB w.heap.size W v (frm k m) → Below w.heap.size w W → MkR k m w (.returned (.tuple #[v, .int .i64 0])) W) := Lib.hid fun v W h1 h2 => ⟨v, by rw [if_pos hl], by rw [if_pos hl]; exact h1, h2⟩
    go_enter Tryz.func74, Tryz.ntmps74
    go_wp2_with fail
    obtain ⟨w0, hw0⟩ : ∃ w0, w0 = w.alloc (.cells #[.int .u8 90, .int .u8 (k : Int)] 5) := ⟨_, rfl⟩
    rw [← hw0]
    have HO0 : Hid (OB w.heap.size w0 (.slice (some ⟨w.heap.size, 0, none⟩) 2 2) [90, UInt8.ofNat k]) := Lib.hid (OB.of_blk (t := []) (by rw [hw0]; refine (heap_alloc_new w _).trans ?_; rw [← HB8.out]; rfl) (Nat.le_refl _) rfl rfl (by omega))
    have HB0 : Hid (Below w.heap.size w w0) := Lib.hid (by rw [hw0]; ((repeat' (first | exact Below.refl _ _ | refine below_drewN ?_ _ | refine Below.drew ?_ | refine Below.alloc ?_ ?_ _ | refine Below.trans ?_ (Below.mono (by assumption) ?_))); all_goals (first | exact Nat.le_refl _ | exact Below.size (by assumption) | omega | (simp; done) | (simp; omega))))
    clear hw0
    refine (bnum_any 2 m.length (by omega) (by omega) (by omega) _).mono ?_
    rintro e w1 ⟨v1, rfl, ho1, hb1⟩
    have HO1 := Lib.hid ho1
    have HR1 := Lib.hid (HO0.out.ext hb1)
    have HB1 : Hid (Below w.heap.size w w1) := Lib.hid (below_call HB0.out hb1)
    clear ho1 hb1 HO0 HB0
    go_wp2_with (first | (at_builtin; refine stop_in ?_) | go_in)
    unfold Stop
    refine wpList_appB _ (by rfl) _ _ (by rfl) w.heap.size _ _ (by rfl) HR1.out _ _ _ (by rfl) HO1.out.rb (by simp [be_length]) HB1.out.size ?_
    intro v2 w2 ho2 hb2
    obtain ⟨a2, n2, c2, rfl⟩ := ho2.shape3
    have HO2 : Hid (OB w.heap.size w2 (.slice a2 n2 c2) (hdr k m.length)) := Lib.hid ho2
    have HB2 : Hid (Below w.heap.size w w2) := Lib.hid (HB1.out.trans hb2)
    clear ho2 hb2 HO1 HR1 HB1
    go_wp2_with fail
    refine (rtail_any _ _ (hdr k m.length) _ (by rw [hdr_length]; omega) HO2.out.rb).mono ?_
    rintro e w3 ⟨v3, rfl, ho3, hb3⟩
    have HO3 := Lib.hid ho3
    have HR3 := Lib.hid (HO2.out.ext hb3)
    have HB3 : Hid (Below w.heap.size w w3) := Lib.hid (below_call HB2.out hb3)
    clear ho3 hb3 HO2 HB2
    go_wp2_with (first | (at_builtin; refine stop_in ?_) | go_in)
    unfold Stop
    refine wpList_appB _ (by rfl) _ _ (by rfl) w.heap.size _ _ (by rfl) HR3.out _ _ _ (by rfl) HO3.out.rb (by simp [hdr_length, tailB_length]) HB3.out.size ?_
    intro v4 w4 ho4 hb4
    obtain ⟨a4, n4, c4, rfl⟩ := ho4.shape3
    have HO4 := Lib.hid ho4
    have HB4 : Hid (Below w.heap.size w w4) := Lib.hid (HB3.out.trans hb4)
    have HX4 := Lib.hid (HX.out.ext HB4.out)
    clear ho4 hb4 HO3 HR3 HB3
    go_wp2_with (first | (at_builtin; refine stop_in ?_) | go_in)
    unfold Stop
    refine wpList_appB _ (by rfl) _ _ (by rfl) w.heap.size _ _ (by rfl) HO4.out _ _ _ (by rfl) HX4.out (by simp [hdr_length, tailB_length]; omega) HB4.out.size ?_
    intro v5 w5 ho5 hb5
    obtain ⟨a5, n5, c5, rfl⟩ := ho5.shape3
    have HO5 := Lib.hid ho5
    have HB5 : Hid (Below w.heap.size w w5) := Lib.hid (HB4.out.trans hb5)
    have HX5 := Lib.hid (HX.out.ext HB5.out)
    clear ho5 hb5 HO4 HB4 HX4
    go_wp2_with fail
    refine (rtail_any _ _ m _ hm HX5.out).mono ?_
    rintro e w6 ⟨v6, rfl, ho6, hb6⟩
    have HO6 := Lib.hid ho6
    have HR6 := Lib.hid (HO5.out.ext hb6)
    have HB6 : Hid (Below w.heap.size w w6) := Lib.hid (below_call HB5.out hb6)
    clear ho6 hb6 HO5 HB5 HX5
    go_wp2_with (first | (at_builtin; refine stop_in ?_) | go_in)
    unfold Stop
    refine wpList_appB _ (by rfl) _ _ (by rfl) w.heap.size _ _ (by rfl) HR6.out _ _ _ (by rfl) HO6.out.rb (by simp [hdr_length, tailB_length]; omega) HB6.out.size ?_
    intro v7 w7 ho7 hb7
    obtain ⟨a7, n7, c7, rfl⟩ := ho7.shape3
    have HO7 := Lib.hid ho7
    have HB7 : Hid (Below w.heap.size w w7) := Lib.hid (HB6.out.trans hb7)
    clear ho7 hb7
    go_wp2
    go_ret2
    exact HEND.out _ _ HO7.out HB7.out
  · have hl' : (8192 : Int) < m.length := by omega
    go_enter Tryz.func74, Tryz.ntmps74
    go_wp2
    go_ret2
    exact ⟨.slice none 0 0, by rw [if_neg hl]; rfl, by rw [if_neg hl]; exact OB.nil _ _, Below.refl _ _⟩
end Go.Proofs.YtlgefkaafoidmaaGreatDoor
namespace Go.Proofs.YtlgefkaafoidmaaGreatDoor
open Go.RowKit Go.WideShapes

theorem txE_name {nm : ByteArray} {ops : List OpD} (hl : ops.length ≤ 12) (h : nameB nm = false) : txE ⟨nm, ops⟩ = 1 := by
  unfold txE
  rw [if_neg (by show ¬ 12 < ops.length; omega), if_neg (by simp [h])]
theorem txE_op {nm : ByteArray} {ops : List OpD} {k : Nat} (hl : ops.length ≤ 12) (hk : k < ops.length) (h : opB ops[k] = false) : txE ⟨nm, ops⟩ = 1 := by
  unfold txE
  rw [if_neg (by show ¬ 12 < ops.length; omega), if_neg]
  intro h2
  simp only [Bool.and_eq_true] at h2
  have := List.all_eq_true.1 h2.2 ops[k] (List.getElem_mem hk)
  rw [h] at this
  cases this
theorem txE_good {nm : ByteArray} {ops : List OpD} (hl : ops.length ≤ 12) (h : nameB nm = true) (ha : ops.all opB = true) : txE ⟨nm, ops⟩ = 0 := by
  unfold txE
  rw [if_neg (by show ¬ 12 < ops.length; omega), if_pos (by simp [h, ha])]
set_option maxRecDepth 100000 in
set_option maxHeartbeats 8000000 in
theorem rcheck9_any (A : Nat → Prop) (t : TxD) (va : Value) (w : World) (h : SlE Enc.op A w va t.ops) : Calls Tryz.prog 66 #[.agg #[.string t.obj, va]] w fun e w' => e = .returned (.int .i64 (txE t)) ∧ Below w.heap.size w w' := by
  obtain ⟨a, c, rfl⟩ := h.shape
  obtain ⟨ob, ops⟩ := t
  simp only at *
  have HS := Lib.hid h
  clear h
  by_cases hl : 12 < ops.length
  · have hl' : (12 : Int) < ops.length := by omega
    have HV : Hid (txE ⟨ob, ops⟩ = 2) := if_pos hl
    go_enter Tryz.func66, Tryz.ntmps66
    go_wp2
    go_ret
    exact ⟨by rw [HV.out]; rfl, by ((repeat' (first | exact Below.refl _ _ | refine below_drewN ?_ _ | refine Below.drew ?_ | refine Below.alloc ?_ ?_ _ | refine Below.trans ?_ (Below.mono (by assumption) ?_))); all_goals (first | exact Nat.le_refl _ | exact Below.size (by assumption) | omega | (simp; done) | (simp; omega)))⟩
  · have hl' : ¬ (12 : Int) < ops.length := by omega
    have hll : ops.length ≤ 12 := by omega
    go_enter Tryz.func66, Tryz.ntmps66
    go_wp2_with fail
    refine (rname_any ob _).mono ?_
    rintro e w1 ⟨rfl, rfl⟩
    cases hn : nameB ob with
    | false =>
      have HV := Lib.hid (txE_name (ops := ops) hll hn)
      clear hn
      go_wp2
      go_ret
      exact ⟨by rw [HV.out]; rfl, by ((repeat' (first | exact Below.refl _ _ | refine below_drewN ?_ _ | refine Below.drew ?_ | refine Below.alloc ?_ ?_ _ | refine Below.trans ?_ (Below.mono (by assumption) ?_))); all_goals (first | exact Nat.le_refl _ | exact Below.size (by assumption) | omega | (simp; done) | (simp; omega)))⟩
    | true =>
      have HN := Lib.hid hn
      clear hn
      go_wp2
      obtain ⟨w0, hw0⟩ : ∃ w0, w0 = w.alloc (.cells #[.string ob, .slice a ops.length c] 24) := ⟨_, rfl⟩
      rw [← hw0]
      have hb0 : Below w.heap.size w w0 := by rw [hw0]; ((repeat' (first | exact Below.refl _ _ | refine below_drewN ?_ _ | refine Below.drew ?_ | refine Below.alloc ?_ ?_ _ | refine Below.trans ?_ (Below.mono (by assumption) ?_))); all_goals (first | exact Nat.le_refl _ | exact Below.size (by assumption) | omega | (simp; done) | (simp; omega)))
      have B0 := Lib.hid (show w0.heap[w.heap.size]? = some (.cells #[.string ob, .slice a ops.length c] 24 (0, 0)) from by rw [hw0]; exact heap_alloc_new _ _)
      have HW := Lib.hid hb0
      have HS0 := Lib.hid (HS.out.ext hb0)
      clear hw0 hb0 HS
      go_loopw [4] (fun q4 wr => ∃ k : Nat, k ≤ ops.length ∧ q4 = .int .i64 k ∧ (ops.take k).all opB = true ∧ Below w0.heap.size w0 wr) (fun q4 _ => ops.length - (intOf q4).toNat)
      case atStart => exact ⟨0, Nat.zero_le _, rfl, rfl, Below.refl _ _⟩
      case round =>
        obtain ⟨k, hk, rfl, hall, hbr⟩ := hrel
        have HBR := Lib.hid hbr
        have HA := Lib.hid hall
        have hsr := hbr.size
        have BR := Lib.hid (dblk hbr B0.out)
        have hlr : w.heap.size < wr.heap.size := (Array.getElem?_eq_some_iff.1 BR.out).1
        obtain ⟨x0, -⟩ := blk_cell (i := 0) BR.out
        obtain ⟨x1, -⟩ := blk_cell (i := 1) BR.out
        simp at x0 x1
        clear hbr hall
        by_cases hlt : k < ops.length
        · have HAS := Lib.hid (all_succ ops k hlt)
          have HBAD : Hid (opB ops[k] = false → txE ⟨ob, ops⟩ = 1) := Lib.hid (txE_op hll hlt)
          obtain ⟨b, off, v, rfl, hb, -, c0, c1, c2, c3, c4, hv⟩ := Ops.at (HS0.out.ext HBR.out) hlt
          obtain ⟨va, vc, rfl⟩ := hv.shape
          clear hv
          generalize ops[k] = o at *
          obtain ⟨k1, f1, n1, nm1, d1⟩ := o
          simp only at c0 c1 c2 c3 c4
          go_upto_region 10 with fail
          obtain ⟨w2, hw2⟩ : ∃ w2, w2 = wr.alloc (.cells #[.int .i64 k1, .int .i64 f1, .int .i64 n1, .string nm1, .slice va d1.length vc] 58) := ⟨_, rfl⟩
          rw [← hw2]
          have HB2 := Lib.hid (show Below w0.heap.size w0 w2 from by rw [hw2]; exact HBR.out.alloc hsr _)
          obtain ⟨z0, z1, z2, z3, z4⟩ := five_cells (show w2.heap[wr.heap.size]? = some (.cells #[.int .i64 k1, .int .i64 f1, .int .i64 n1, .string nm1, .slice va d1.length vc] 58 (0, 0)) from by rw [hw2]; exact heap_alloc_new _ _)
          have HWB := Lib.hid (show Below w.heap.size w w2 from HW.out.trans (HB2.out.mono HW.out.size))
          clear hw2 x0 x1 c0 c1 c2 c3 c4
          by_cases h0 : k1 < 1
          · have HV : Hid (txE ⟨ob, ops⟩ = 1) := Lib.hid (HBAD.out (by simp only [opB, opP]; exact decide_eq_false (by omega)))
            clear HBAD HAS
            go_wp2
            go_ret
            exact ⟨by rw [HV.out]; rfl, HWB.out⟩
          by_cases h1 : 14 < k1
          · have HV : Hid (txE ⟨ob, ops⟩ = 1) := Lib.hid (HBAD.out (by simp only [opB, opP]; exact decide_eq_false (by omega)))
            clear HBAD HAS
            go_wp2
            go_ret
            exact ⟨by rw [HV.out]; rfl, HWB.out⟩
          by_cases h2 : f1 < 0
          · have HV : Hid (txE ⟨ob, ops⟩ = 1) := Lib.hid (HBAD.out (by simp only [opB, opP]; exact decide_eq_false (by omega)))
            clear HBAD HAS
            go_wp2
            go_ret
            exact ⟨by rw [HV.out]; rfl, HWB.out⟩
          by_cases h3 : 1099511627776 < f1
          · have HV : Hid (txE ⟨ob, ops⟩ = 1) := Lib.hid (HBAD.out (by simp only [opB, opP]; exact decide_eq_false (by omega)))
            clear HBAD HAS
            go_wp2
            go_ret
            exact ⟨by rw [HV.out]; rfl, HWB.out⟩
          by_cases h4 : n1 < 0
          · have HV : Hid (txE ⟨ob, ops⟩ = 1) := Lib.hid (HBAD.out (by simp only [opB, opP]; exact decide_eq_false (by omega)))
            clear HBAD HAS
            go_wp2
            go_ret
            exact ⟨by rw [HV.out]; rfl, HWB.out⟩
          by_cases h5 : 1099511627776 < n1
          · have HV : Hid (txE ⟨ob, ops⟩ = 1) := Lib.hid (HBAD.out (by simp only [opB, opP]; exact decide_eq_false (by omega)))
            clear HBAD HAS
            go_wp2
            go_ret
            exact ⟨by rw [HV.out]; rfl, HWB.out⟩
          by_cases h6 : (12 : Int) < nm1.size
          · have HV : Hid (txE ⟨ob, ops⟩ = 1) := Lib.hid (HBAD.out (by simp only [opB, opP]; exact decide_eq_false (by omega)))
            clear HBAD HAS
            go_wp2
            go_ret
            exact ⟨by rw [HV.out]; rfl, HWB.out⟩
          by_cases h7 : (2048 : Int) < d1.length
          · have HV : Hid (txE ⟨ob, ops⟩ = 1) := Lib.hid (HBAD.out (by simp only [opB, opP]; exact decide_eq_false (by omega)))
            clear HBAD HAS
            go_wp2
            go_ret
            exact ⟨by rw [HV.out]; rfl, HWB.out⟩
          have HNX : Hid ((ops.take (k + 1)).all opB = true) := by
            show _ = _
            rw [HAS.out, HA.out, Bool.true_and]
            simp only [opB, opP]
            exact decide_eq_true (by omega)
          clear HAS HBAD
          go_wp2
          go_roundw
          case rel => exact ⟨k + 1, by omega, by go_num, HNX.out, HB2.out⟩
          case measure => simp [intOf]; omega
        · obtain rfl : k = ops.length := by omega
          have HV : Hid (txE ⟨ob, ops⟩ = 0) := Lib.hid (txE_good hll HN.out (by rw [← HA.out, List.take_length]))
          go_wp2
          go_ret
          exact ⟨by rw [HV.out]; rfl, HW.out.trans (HBR.out.mono HW.out.size)⟩
end Go.Proofs.YtlgefkaafoidmaaGreatDoor
