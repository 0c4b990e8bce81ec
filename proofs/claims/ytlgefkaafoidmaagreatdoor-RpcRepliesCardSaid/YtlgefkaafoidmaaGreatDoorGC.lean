/- The walk of frame.Sum. Frames and readers of bytes: the plain law. No program is named. The walks of frame.seal, frame.Make. The walks of slices.Equal at bytes, frame.sealed, frame.Next. Bits of int: a byte put behind a number. No program is named. -/
import Derived.Test.YtlgefkaafoidmaaGreatDoorGB
import Derived.Test.YtlgefkaafoidmaaGreatDoorGA
import Derived.Test.YtlgefkaafoidmaaGreatDoorChecked
import Derived.Laws.BitsAllLaws
import Derived.Laws.BitsLemmas
namespace Go.Proofs.YtlgefkaafoidmaaGreatDoor
open Go.RowKit

theorem reg_succ (l : List UInt8) (k : Nat) (h : k < l.length) : Crc.reg (BitVec.allOnes 32) (l.take (k + 1)) = Crc.s4 (Crc.s4 (Crc.reg (BitVec.allOnes 32) (l.take k) ^^^ BitVec.ofNat 32 l[k].toNat)) := by
  rw [List.take_succ_eq_append_getElem h]
  unfold Crc.reg
  rw [List.foldl_append]
  rfl
set_option maxRecDepth 100000 in
set_option maxHeartbeats 800000 in
theorem sum_row (A : Nat → Prop) (v : Value) (l : List UInt8) (w : World) (hl : l.length ≤ 1000000) (hv : RB A w v l) (hT : TabW w) :
    Calls Tryz.prog 95 #[v] w fun e w' => e = .returned (.int .u32 ((Crc.sum l).toNat : Int)) ∧ w' = w := by
  obtain ⟨-, hv⟩ := hv
  rcases hv with ⟨⟨a0, rfl⟩, h0⟩ | ⟨b, off, cap, rfl, hbl, -, hcap, hx⟩
  · obtain rfl : l = [] := List.eq_nil_of_length_eq_zero h0
    go_enter Tryz.func95, Tryz.ntmps95
    go_wp2
    refine wp_loop_once ?_
    go_wp2
    go_ret
    exact ⟨by congr 2, rfl⟩
  · go_enter Tryz.func95, Tryz.ntmps95
    go_wp2
    go_loopw [3, 8] (fun r i wr => wr = w ∧ ∃ k : Nat, k ≤ l.length ∧ i = .int .i64 k ∧ r = .int .u32 ((Crc.reg (BitVec.allOnes 32) (l.take k)).toNat : Int)) (fun _ i _ => l.length - (intOf i).toNat)
    case atStart => exact ⟨rfl, 0, Nat.zero_le _, rfl, rfl⟩
    case round =>
      obtain ⟨rfl, k, hk, rfl, rfl⟩ := hrel
      by_cases hlt : k < l.length
      · have hc : wr.cell? ⟨b, off + k, none⟩ = some (.int .u8 (l[k].toNat : Int)) := (hx k (by omega)).trans (bv_at hlt)
        clear hx
        have hs := reg_succ l k hlt
        generalize Crc.reg (BitVec.allOnes 32) (l.take k) = r at *
        generalize l[k] = c at *
        have h8 := c.toNat_lt
        have e0 : bits .xor .u32 (r.toNat : Int) (c.toNat : Int) = ((r ^^^ BitVec.ofNat 32 c.toNat).toNat : Int) := by
          have hcv : (c.toNat : Int) = ((BitVec.ofNat 32 c.toNat).toNat : Int) := by rw [BitVec.toNat_ofNat, Nat.mod_eq_of_lt (by omega)]
          conv => lhs; rw [hcv]
          exact bits_xor_u32 _ _
        generalize r ^^^ BitVec.ofNat 32 c.toNat = R at *
        have e1 := and15_u32 R
        have e2 := nib_u32 R
        have m1 : R.toNat % 16 < 16 := Nat.mod_lt _ (by decide)
        have x1 := hT _ m1
        generalize Crc.s4 R = S at *
        have f1 := and15_u32 S
        have f2 := nib_u32 S
        have m2 : S.toNat % 16 < 16 := Nat.mod_lt _ (by decide)
        have x2 := hT _ m2
        generalize Crc.s4 S = T at *
        generalize R.toNat % 16 = i1 at *
        generalize S.toNat % 16 = i2 at *
        generalize Crc.tab.getD i1 0 = y1 at *
        generalize Crc.tab.getD i2 0 = y2 at *
        go_wp2
        go_roundw
        case rel => exact ⟨trivial, k + 1, by omega, by go_num, by rw [hs]⟩
        case measure => simp [intOf]; omega
      · obtain rfl : k = l.length := by omega
        rw [List.take_length]
        have hs : (Crc.sum l).toNat = (~~~ (Crc.reg (BitVec.allOnes 32) l)).toNat := rfl
        generalize Crc.reg (BitVec.allOnes 32) l = R at *
        go_wp2
        go_ret
        refine ⟨?_, rfl⟩
        show Ending.returned (Value.int .u32 (bits .xor .u32 4294967295 (R.toNat : Int))) = _
        rw [comp_u32, BitVec.toNat_not]
end Go.Proofs.YtlgefkaafoidmaaGreatDoor
namespace Go.Proofs.YtlgefkaafoidmaaGreatDoor

def le4 (s : Nat) : List UInt8 := [UInt8.ofNat s, UInt8.ofNat (s / 256), UInt8.ofNat (s / 65536), UInt8.ofNat (s / 16777216)]
def tailB (l : List UInt8) : List UInt8 := le4 (Crc.sum l).toNat
def hdr (k n : Nat) : List UInt8 := 90 :: UInt8.ofNat k :: be 2 n
def frm (k : Nat) (b : List UInt8) : List UInt8 := hdr k b.length ++ tailB (hdr k b.length) ++ b ++ tailB b
def byteAt (l : List UInt8) (i : Nat) : Nat := (l.getD i 0).toNat
structure NextR where
  kind : Nat
  body : List UInt8
  rest : List UInt8
  e : Nat
def nextB (b : List UInt8) : NextR :=
  if b.length < 8 then ⟨0, [], [], 10⟩
  else if byteAt b 0 ≠ 90 then ⟨0, [], [], 11⟩
  else if tailB (b.take 4) ≠ (b.drop 4).take 4 then ⟨0, [], [], 20⟩
  else if 8192 < byteAt b 2 * 256 + byteAt b 3 then ⟨0, [], [], 11⟩
  else if b.length < byteAt b 2 * 256 + byteAt b 3 + 12 then ⟨0, [], [], 10⟩
  else if tailB ((b.drop 8).take (byteAt b 2 * 256 + byteAt b 3)) ≠ (b.drop (8 + (byteAt b 2 * 256 + byteAt b 3))).take 4 then ⟨0, [], [], 20⟩
  else ⟨byteAt b 1, (b.drop 8).take (byteAt b 2 * 256 + byteAt b 3), b.drop (8 + (byteAt b 2 * 256 + byteAt b 3) + 4), 0⟩

theorem le4_length (s : Nat) : (le4 s).length = 4 := rfl
theorem tailB_length (l : List UInt8) : (tailB l).length = 4 := rfl
theorem hdr_length (k n : Nat) : (hdr k n).length = 4 := by simp [hdr, be_length]
theorem frm_length (k : Nat) (b : List UInt8) : (frm k b).length = b.length + 12 := by
  simp only [frm, List.length_append, hdr_length, tailB_length]; omega
theorem le4_inj {s t : Nat} (hs : s < 4294967296) (ht : t < 4294967296) (h : le4 s = le4 t) : s = t := by
  simp only [le4, List.cons.injEq, and_true] at h
  have e : ∀ a b : Nat, UInt8.ofNat a = UInt8.ofNat b → a % 256 = b % 256 := fun a b hh => by
    have := congrArg UInt8.toNat hh
    simpa using this
  have h0 := e _ _ h.1
  have h1 := e _ _ h.2.1
  have h2 := e _ _ h.2.2.1
  have h3 := e _ _ h.2.2.2
  omega
theorem tailB_inj {a b : List UInt8} (h : tailB a = tailB b) : Crc.sum a = Crc.sum b :=
  BitVec.eq_of_toNat_eq (le4_inj (Crc.sum a).isLt (Crc.sum b).isLt h)
theorem be2 (n : Nat) : be 2 n = [UInt8.ofNat (n / 256), UInt8.ofNat n] := rfl
theorem hdr_eq (k n : Nat) : hdr k n = [90, UInt8.ofNat k, UInt8.ofNat (n / 256), UInt8.ofNat n] := rfl

theorem next_frm_gen (k : Nat) (b r : List UInt8) (hk : k < 256) (hb : b.length ≤ 8192) : nextB (frm k b ++ r) = ⟨k, b, r, 0⟩ := by
  have hn : byteAt (frm k b ++ r) 2 * 256 + byteAt (frm k b ++ r) 3 = b.length := by
    simp [byteAt, frm, hdr_eq]
    omega
  have h0 : byteAt (frm k b ++ r) 0 = 90 := by simp [byteAt, frm, hdr_eq]
  have h1 : byteAt (frm k b ++ r) 1 = k := by simp [byteAt, frm, hdr_eq]; omega
  have hl : (frm k b ++ r).length = b.length + 12 + r.length := by simp [frm_length]
  have t4 : (frm k b ++ r).take 4 = hdr k b.length := by
    simp only [frm, List.append_assoc]
    exact List.take_left' (hdr_length k _)
  have d4 : (frm k b ++ r).drop 4 = tailB (hdr k b.length) ++ (b ++ (tailB b ++ r)) := by
    simp only [frm, List.append_assoc]
    exact List.drop_left' (hdr_length k _)
  have t44 : ((frm k b ++ r).drop 4).take 4 = tailB (hdr k b.length) := by
    rw [d4]
    exact List.take_left' (tailB_length _)
  have d8 : (frm k b ++ r).drop 8 = b ++ (tailB b ++ r) := by
    rw [show (8 : Nat) = 4 + 4 from rfl, ← List.drop_drop, d4]
    exact List.drop_left' (tailB_length _)
  have db : (frm k b ++ r).drop (8 + b.length) = tailB b ++ r := by
    rw [← List.drop_drop, d8]
    exact List.drop_left' rfl
  have db4 : (frm k b ++ r).drop (8 + b.length + 4) = r := by
    rw [← List.drop_drop, db]
    exact List.drop_left' (tailB_length _)
  unfold nextB
  rw [hn, h0, h1, hl, t4, t44, d8, db, db4, if_neg (by omega), if_neg (by omega), if_neg (by simp), if_neg (by omega), if_neg (by omega), if_neg]
  · rw [List.take_left' rfl]
  · rw [List.take_left' rfl, List.take_left' (tailB_length _)]
    simp
theorem next_frm (k : Nat) (b : List UInt8) (hk : k < 256) (hb : b.length ≤ 8192) : nextB (frm k b) = ⟨k, b, [], 0⟩ := by
  have := next_frm_gen k b [] hk hb
  simpa using this

/-! A reader of bytes: what is left, and the first error (0: none). -/
structure Rd where
  l : List UInt8
  e : Nat
namespace Rd
def take (n : Nat) (r : Rd) : List UInt8 × Rd := if r.e ≠ 0 then ([], r) else if r.l.length < n then ([], ⟨[], 10⟩) else (r.l.take n, ⟨r.l.drop n, 0⟩)
def num (w : Nat) (r : Rd) : Nat × Rd := (nb (r.take w).1, (r.take w).2)
def fail (x : Nat) (r : Rd) : Rd := if r.e = 0 ∧ x ≠ 0 then ⟨[], x⟩ else r
def blob (most : Nat) (r : Rd) : List UInt8 × Rd :=
  if most < (r.num 2).1 then ([], (r.num 2).2.fail 11) else (r.num 2).2.take (r.num 2).1
def fin (r : Rd) : Rd := if 0 < r.l.length then r.fail 11 else r
/-- an error leaves no bytes -/
def ok (r : Rd) : Prop := r.e ≠ 0 → r.l = []
theorem ok_mk (l : List UInt8) : ok ⟨l, 0⟩ := fun h => absurd rfl h
theorem take_ok {r : Rd} (h : r.ok) (n : Nat) : (r.take n).2.ok := by
  unfold take
  split
  · exact h
  · split
    · exact fun _ => rfl
    · exact fun h => absurd rfl h
theorem fail_ok {r : Rd} (h : r.ok) (x : Nat) : (r.fail x).ok := by
  unfold fail
  split
  · exact fun _ => rfl
  · exact h
theorem num_ok {r : Rd} (h : r.ok) (w : Nat) : (r.num w).2.ok := take_ok h w
theorem blob_ok {r : Rd} (h : r.ok) (m : Nat) : (r.blob m).2.ok := by
  unfold blob
  split
  · exact fail_ok (num_ok h 2) 11
  · exact take_ok (num_ok h 2) _
theorem take_len (r : Rd) (n : Nat) : (r.take n).1.length ≤ r.l.length ∧ (r.take n).1.length ≤ n ∧ (r.take n).2.l.length ≤ r.l.length := by
  unfold take
  split
  · simp
  · split
    · simp
    · simp
      omega
theorem num_len (r : Rd) (w : Nat) : (r.num w).2.l.length ≤ r.l.length := (take_len r w).2.2
theorem fail_len (r : Rd) (x : Nat) : (r.fail x).l.length ≤ r.l.length := by
  unfold fail
  split
  · simp
  · exact Nat.le_refl _
theorem num_lt (r : Rd) (w : Nat) : (r.num w).1 < 256 ^ w := by
  have h := nb_lt (r.take w).1
  exact Nat.lt_of_lt_of_le h (Nat.pow_le_pow_right (by decide) (take_len r w).2.1)
theorem blob_len (r : Rd) (m : Nat) : (r.blob m).1.length ≤ m ∧ (r.blob m).2.l.length ≤ r.l.length := by
  unfold blob
  split
  · exact ⟨by simp, Nat.le_trans (fail_len _ _) (num_len r 2)⟩
  · have h := take_len (r.num 2).2 (r.num 2).1
    exact ⟨by omega, Nat.le_trans h.2.2 (num_len r 2)⟩
theorem num_be (w n : Nat) (l : List UInt8) (hn : n < 256 ^ w) : num w ⟨be w n ++ l, 0⟩ = (n, ⟨l, 0⟩) := by
  unfold num take
  have hl : ¬ (be w n ++ l).length < w := by simp [be_length]
  simp only [ne_eq, not_true_eq_false, if_false, hl]
  rw [List.take_left' (be_length w n), List.drop_left' (be_length w n), nb_be, Nat.mod_eq_of_lt hn]
theorem blob_be (m : Nat) (x l : List UInt8) (hx : x.length ≤ m) (hm : x.length < 65536) : blob m ⟨be 2 x.length ++ (x ++ l), 0⟩ = (x, ⟨l, 0⟩) := by
  unfold blob
  rw [num_be 2 _ _ (by simpa using hm)]
  rw [if_neg (by simpa using hx)]
  unfold take
  simp
end Rd
end Go.Proofs.YtlgefkaafoidmaaGreatDoor
namespace Go.Proofs.YtlgefkaafoidmaaGreatDoor
open Go.RowKit

theorem cells_new4 (w : World) (a b c d : Value) (t : TypeId) : ∀ (j : Nat) (u : Value), [a, b, c, d][j]? = some u → (w.alloc (.cells #[a, b, c, d] t)).cell? ((⟨w.heap.size, 0, none⟩ : Addr).add j) = some u := cells_new w [a, b, c, d] t
theorem le4_vals (s : Nat) (hs : s < 4294967296) : (le4 s).map bv = [.int .u8 ((s : Int) % 256), .int .u8 ((s : Int) / 256 % 256), .int .u8 ((s : Int) / 65536 % 256), .int .u8 ((s : Int) / 16777216)] := by
  simp [le4, bv]
  omega
set_option maxRecDepth 100000 in
set_option maxHeartbeats 800000 in
theorem tail_any (A : Nat → Prop) (base : Nat) (v x : Value) (l m : List UInt8) (w : World) (hv : OB base w v l) (hx : RB A w x m) (hT : TabW w) (hbase : base ≤ w.heap.size) (hl : l.length ≤ 1000000) (hm : m.length ≤ 1000000) :
    Calls Tryz.prog 88 #[v, x] w fun e w' => ∃ v', e = .returned v' ∧ OB base w' v' (l ++ tailB m) ∧ Below base w w' := by
  obtain ⟨i0, hi, hz0, hz1, hz2⟩ := info_parts infoByte
  have HV := Lib.hid hv
  have HX := Lib.hid hx
  have HT := Lib.hid hT
  clear hv hx hT
  go_enter Tryz.func88, Tryz.ntmps88
  go_wp2_with fail
  refine (sum_row A _ m _ hm HX.out HT.out).mono ?_
  rintro e w1 ⟨rfl, rfl⟩
  have hs0 : (Crc.sum m).toNat < 4294967296 := (Crc.sum m).isLt
  have HL : Hid (tailB m = le4 (Crc.sum m).toNat) := rfl
  generalize (Crc.sum m).toNat = s at *
  have HC := Lib.hid (le4_vals s (by omega))
  go_wp2_with (first | (at_builtin; refine wpList_append_own _ rfl _ _ 27 rfl base 5 i0 (.int .u8 0) 1 1 Tryz.underlying27 hi hz0 hz1 hz2 rfl (by decide) _ _ _ rfl (HV.out.alloc _) ⟨w1.heap.size, 0, none⟩ 4 4 [.int .u8 ((s : Int) % 256), .int .u8 ((s : Int) / 256 % 256), .int .u8 ((s : Int) / 65536 % 256), .int .u8 ((s : Int) / 16777216)] rfl rfl (cells_new4 w1 _ _ _ _ _) ?c1 ?c2 ?c3 ?c4 ?_) | go_in)
  case c1 => simp [Value.oneCell']
  case c2 => unfold maxLen; omega
  case c3 => omega
  case c4 => simp; omega
  intro v2 w2 ho hg hn
  have HO : Hid (OB base w2 v2 (l ++ tailB m)) := OB.cast ho (by rw [HL.out]; simp [le4_length]) (by rw [HL.out, List.map_append, HC.out])
  have hb2 : Below base w1 w2 := ((Below.refl _ w1).mono hbase |>.alloc (by omega) _).grown hg (by simp; omega) fun j hj => (HV.out.lt j hj).1
  clear ho hg hn
  go_wp2
  go_ret
  exact ⟨_, rfl, HO.out, hb2⟩

theorem cells_new2 (w : World) (a b : Value) (t : TypeId) : ∀ (j : Nat) (u : Value), [a, b][j]? = some u → (w.alloc (.cells #[a, b] t)).cell? ((⟨w.heap.size, 0, none⟩ : Addr).add j) = some u := cells_new w [a, b] t
theorem rb_new2 (w : World) (a b : UInt8) (t : TypeId) (cap : Nat) (hc : 2 ≤ cap) : RB (fun b => w.heap.size ≤ b) (w.alloc (.cells #[bv a, bv b] t)) (.slice (some ⟨w.heap.size, 0, none⟩) 2 cap) [a, b] := by
  refine ⟨by simp, .inr ⟨w.heap.size, 0, cap, rfl, by simp, Nat.le_refl _, hc, fun j hj => ?_⟩⟩
  rw [Nat.zero_add, World.cell?_alloc_new]
  simp
set_option maxRecDepth 100000 in
set_option maxHeartbeats 1600000 in
theorem make_any (A : Nat → Prop) (k : Nat) (x : Value) (m : List UInt8) (w : World) (hk : k < 256) (hx : RB A w x m) (hT : TabW w) (hg0 : 0 < w.heap.size) (hm : m.length ≤ 8192) :
    Calls Tryz.prog 72 #[.int .i64 k, x] w fun e w' => ∃ v', e = .returned (.tuple #[v', .int .i64 0]) ∧ OB w.heap.size w' v' (frm k m) ∧ Below w.heap.size w w' := by
  obtain ⟨i0, hi, hz0, hz1, hz2⟩ := info_parts infoByte
  obtain ⟨xa, xc, rfl⟩ := hx.shape
  have HX := Lib.hid hx
  have HT := Lib.hid hT
  have HG : Hid (0 < w.heap.size) := hg0
  have hb8 : bv (UInt8.ofNat k) = .int .u8 (k : Int) := by simp [bv, Nat.mod_eq_of_lt hk]
  have HB8 := Lib.hid hb8
  clear hx hT hg0 hb8
  go_enter Tryz.func72, Tryz.ntmps72
  go_wp2_with fail
  rw [← HB8.out]
  refine (num_any 2 m.length (by omega) (by omega) (by omega) _ _ [90, UInt8.ofNat k] _ (rb_new2 w 90 (UInt8.ofNat k) _ 2 (by omega)) (by simp)).mono ?_
  rintro e w1 ⟨v1, rfl, ho, hb1⟩
  have HO1 : Hid (OB w.heap.size w1 v1 (hdr k m.length)) := OB.base_le ho (by simp)
  have hbw1 : Below w.heap.size w w1 := ((Below.refl _ w).alloc (Nat.le_refl _) _).trans (hb1.mono (by simp))
  have HT1 := Lib.hid (tab_below HT.out hbw1 HG.out)
  have hs1 := hbw1.size
  clear ho hb1
  go_wp2_with fail
  refine (tail_any _ w.heap.size _ _ _ (hdr k m.length) _ HO1.out HO1.out.rb HT1.out hs1 (by rw [hdr_length]; omega) (by rw [hdr_length]; omega)).mono ?_
  rintro e w2 ⟨v2, rfl, ho, hb2⟩
  have HO2 := Lib.hid ho
  have hbw2 := hbw1.trans hb2
  have hs2 := hbw2.size
  have HT2 := Lib.hid (tab_below HT.out hbw2 HG.out)
  have hl2 : Hid ((hdr k m.length ++ tailB (hdr k m.length)).length = 8) := by
    show _ = _
    simp [hdr_length, tailB_length]
  clear ho hb2 hbw1 hs1
  go_wp2_with (first | (at_builtin; refine wpList_append_sl rfl _ _ 27 rfl w.heap.size 5 i0 (.int .u8 0) 1 1 Tryz.underlying27 hi hz0 hz1 hz2 rfl (by decide) _ _ _ rfl HO2.out A (.slice xa m.length xc) m.length (m.map bv) rfl ?c1 (one_bytes m) ?c2 ?c3 ?c4 ?_) | (go_at_call 88; fail) | go_in)
  case c1 => exact SlA.ext HX.out hbw2
  case c2 => rw [hl2.out]; unfold maxLen; omega
  case c3 => rw [hl2.out]; omega
  case c4 => omega
  intro v3 w3 ho hg
  have HO3 : Hid (OB w.heap.size w3 v3 (hdr k m.length ++ tailB (hdr k m.length) ++ m)) := OB.cast ho (by simp; omega) (by simp)
  have hb3 : Below w.heap.size w w3 := hbw2.grown hg hs2 fun j hj => (HO2.out.lt j hj).1
  have hs3 := hb3.size
  have HT3 := Lib.hid (tab_below HT.out hb3 HG.out)
  have hl3 : Hid ((hdr k m.length ++ tailB (hdr k m.length) ++ m).length ≤ 1000000) := by
    show _ ≤ _
    rw [List.length_append, hl2.out]
    omega
  have HX3 : Hid (RB A w3 (.slice xa m.length xc) m) := SlA.ext HX.out hb3
  clear ho hg hbw2 hs2
  go_wp2_with fail
  refine (tail_any _ w.heap.size _ _ _ m _ HO3.out HX3.out HT3.out hs3 hl3.out (by omega)).mono ?_
  rintro e w4 ⟨v4, rfl, ho, hb4⟩
  have HO4 := Lib.hid ho
  clear ho
  go_wp2
  go_ret2
  exact ⟨_, rfl, HO4.out, hb3.trans hb4⟩

set_option maxRecDepth 100000 in
theorem make_long (A : Nat → Prop) (k : Nat) (x : Value) (m : List UInt8) (w : World) (hk : k < 256) (hx : RB A w x m) (hm : 8192 < m.length) :
    Calls Tryz.prog 72 #[.int .i64 k, x] w fun e w' => e = .returned (.tuple #[.slice none 0 0, .int .i64 2]) ∧ w = w' := by
  obtain ⟨xa, xc, rfl⟩ := hx.shape
  clear hx
  go_enter Tryz.func72, Tryz.ntmps72
  go_wp2
  go_ret2
  exact ⟨rfl, rfl⟩
end Go.Proofs.YtlgefkaafoidmaaGreatDoor
namespace Go.Proofs.YtlgefkaafoidmaaGreatDoor
open Go.RowKit

theorem RB.cell {A : Nat → Prop} {w : World} {a : Option Addr} {c : Nat} {l : List UInt8} (h : RB A w (.slice a l.length c) l) {k : Nat} (hk : k < l.length) : ∃ b off, a = some ⟨b, off, none⟩ ∧ b < w.heap.size ∧ A b ∧ w.cell? ⟨b, off + k, none⟩ = some (.int .u8 (l[k].toNat : Int)) := by
  obtain ⟨b, off, rfl, h1, h2, h3, h4⟩ := SlA.at h (by omega)
  refine ⟨b, off, rfl, h1, h2, ?_⟩
  rw [h4 k (by omega), List.getElem?_map, List.getElem?_eq_getElem hk]
  rfl
theorem take_ext {l m : List UInt8} {k : Nat} (hl : k < l.length) (hm : k < m.length) (h : l.take k = m.take k) (e : l[k] = m[k]) : l.take (k + 1) = m.take (k + 1) := by
  rw [List.take_succ_eq_append_getElem hl, List.take_succ_eq_append_getElem hm, h, e]
theorem ne_at {l m : List UInt8} {k : Nat} (hl : k < l.length) (hm : k < m.length) (e : l[k] ≠ m[k]) : decide (l = m) = false := by
  rw [decide_eq_false_iff_not]
  rintro rfl
  exact e rfl
set_option maxRecDepth 100000 in
set_option maxHeartbeats 800000 in
theorem eqB_any (A B : Nat → Prop) (x y : Value) (l m : List UInt8) (w : World) (hx : RB A w x l) (hy : RB B w y m) (hl : l.length ≤ 1000000) (hm : m.length ≤ 1000000) :
    Calls Tryz.prog 93 #[x, y] w fun e w' => e = .returned (.bool (decide (l = m))) ∧ Below w.heap.size w w' := by
  obtain ⟨xa, xc, rfl⟩ := hx.shape
  obtain ⟨ya, yc, rfl⟩ := hy.shape
  have HX := Lib.hid hx
  have HY := Lib.hid hy
  clear hx hy
  by_cases hn : l.length = m.length
  · have HN := Lib.hid hn
    have t1 : ((l.length : Int) != (m.length : Int)) = false := by rw [hn]; simp
    have hle : l.length ≤ m.length := by omega
    clear hn
    go_enter Tryz.func93, Tryz.ntmps93
    go_wp2
    go_loopw [13] (fun q wr => ∃ k : Nat, k ≤ l.length ∧ q = .int .i64 k ∧ Hid (l.take k = m.take k) ∧ Below w.heap.size w wr) (fun q _ => l.length - (intOf q).toNat)
    case atStart => exact ⟨0, by omega, rfl, rfl, Below.refl _ _⟩
    case round =>
      obtain ⟨k, hk, rfl, hh, hb⟩ := hrel
      by_cases hlt : k < l.length
      · obtain ⟨b1, o1, rfl, hb1, -, c1⟩ := HX.out.cell hlt
        obtain ⟨b2, o2, rfl, hb2, -, c2⟩ := HY.out.cell (k := k) (by omega)
        replace c1 := cellB hb hb1 c1
        replace c2 := cellB hb hb2 c2
        have HE : Hid (l[k] = m[k]'(by omega) → l.take (k + 1) = m.take (k + 1)) := take_ext hlt _ hh.out
        have HF : Hid (l[k] ≠ m[k]'(by omega) → decide (l = m) = false) := ne_at hlt _
        have HU : Hid ((l[k].toNat : Int) = (m[k]'(by omega)).toNat ↔ l[k] = m[k]'(by omega)) := ⟨fun h => UInt8.toNat_inj.1 (by omega), fun h => by rw [h]⟩
        generalize l[k] = u1 at *
        generalize m[k]'(by omega) = u2 at *
        have h1 := u1.toNat_lt
        have h2 := u2.toNat_lt
        generalize (u1.toNat : Int) = n1 at *
        generalize (u2.toNat : Int) = n2 at *
        by_cases he : n1 = n2
        · have t2 : (n1 != n2) = false := by simp [he]
          have HE' := Lib.hid (HE.out (HU.out.1 he))
          clear he
          go_wp2
          go_quiet (fail)
          go_wp2
          go_roundw
          case rel => exact ⟨k + 1, by omega, by go_num, HE'.out, below_drewN hb _⟩
          case measure => simp [intOf]; omega
        · have t2 : (n1 != n2) = true := by simp [he]
          have HF' := Lib.hid (HF.out fun h => he (HU.out.2 h))
          clear he
          go_wp2
          go_quiet (fail)
          go_wp2
          go_ret
          exact ⟨congrArg (fun b => Ending.returned (.bool b)) HF'.out.symm, below_drewN hb _⟩
      · have HD : Hid (decide (l = m) = true) := by
          have h := hh.out
          rw [List.take_of_length_le (by omega), List.take_of_length_le (by have := HN.out; omega)] at h
          exact decide_eq_true h
        go_wp2
        go_ret
        exact ⟨congrArg (fun b => Ending.returned (.bool b)) HD.out.symm, hb⟩
  · have t1 : ((l.length : Int) != (m.length : Int)) = true := by simp; omega
    have HD : Hid (decide (l = m) = false) := decide_eq_false fun h => hn (by rw [h])
    clear hn
    go_enter Tryz.func93, Tryz.ntmps93
    go_wp2
    go_ret
    exact ⟨congrArg (fun b => Ending.returned (.bool b)) HD.out.symm, Below.refl _ _⟩
theorem RB.take {A : Nat → Prop} {w : World} {b off c n : Nat} {l : List UInt8} (h : RB A w (.slice (some ⟨b, off, none⟩) l.length c) l) (hn : n ≤ l.length) (c' : Nat) (hc : n ≤ c') (hz : 0 < l.length := by first | omega | (simp; omega)) : RB A w (.slice (some ⟨b, off, none⟩) n c') (l.take n) := by
  have hl : (l.take n).length = n := by simp; omega
  rcases h.2 with ⟨⟨a0, e⟩, h0⟩ | ⟨b1, o1, c1, e, hb, hA, h1, hx⟩
  · simp only [Value.slice.injEq] at e
    omega
  · simp only [Value.slice.injEq, Option.some.injEq, Addr.mk.injEq] at e
    obtain ⟨⟨rfl, rfl, -⟩, -, rfl⟩ := e
    refine ⟨by simp, .inr ⟨b, off, c', by rw [hl], hb, hA, by rw [hl]; exact hc, fun j hj => ?_⟩⟩
    rw [hl] at hj
    rw [hx j (by omega), List.map_take, List.getElem?_take, if_pos (by omega)]
theorem RB.drop {A : Nat → Prop} {w : World} {b off c n : Nat} {l : List UInt8} (h : RB A w (.slice (some ⟨b, off, none⟩) l.length c) l) (hn : n ≤ l.length) (c' : Nat) (hc : l.length - n ≤ c') (hz : 0 < l.length := by first | omega | (simp; omega)) : RB A w (.slice (some ⟨b, off + n, none⟩) (l.length - n) c') (l.drop n) := by
  have hl : (l.drop n).length = l.length - n := by simp
  rcases h.2 with ⟨⟨a0, e⟩, h0⟩ | ⟨b1, o1, c1, e, hb, hA, h1, hx⟩
  · simp only [Value.slice.injEq] at e
    omega
  · simp only [Value.slice.injEq, Option.some.injEq, Addr.mk.injEq] at e
    obtain ⟨⟨rfl, rfl, -⟩, -, rfl⟩ := e
    refine ⟨by simp, .inr ⟨b, off + n, c', by rw [hl], hb, hA, by rw [hl]; exact hc, fun j hj => ?_⟩⟩
    rw [hl] at hj
    rw [Nat.add_assoc, hx (n + j) (by omega), List.map_drop, List.getElem?_drop]
theorem RB.empty_at {A : Nat → Prop} {w : World} {b off c : Nat} (hb : b < w.heap.size) (hA : A b) : RB A w (.slice (some ⟨b, off, none⟩) 0 c) [] :=
  ⟨by simp, .inr ⟨b, off, c, rfl, hb, hA, by simp, fun j hj => by simp at hj⟩⟩
theorem RB.drop' {A : Nat → Prop} {w : World} {b off c n : Nat} {l : List UInt8} (h : RB A w (.slice (some ⟨b, off, none⟩) l.length c) l) (hn : n ≤ l.length) (c' : Nat) (hc : l.length - n ≤ c') (hb : b < w.heap.size) (hA : A b) : RB A w (.slice (some ⟨b, off + n, none⟩) (l.length - n) c') (l.drop n) := by
  rcases Nat.eq_zero_or_pos l.length with h0 | h0
  · obtain rfl := List.eq_nil_of_length_eq_zero h0
    simp only [List.length_nil, List.drop_nil, Nat.zero_sub]
    exact RB.empty_at hb hA
  · exact RB.drop h hn c' hc h0
theorem RB.len {A : Nat → Prop} {w : World} {a : Option Addr} {c n : Nat} {l : List UInt8} (h : RB A w (.slice a n c) l) : l.length = n := by
  obtain ⟨a', c', e⟩ := h.shape
  simp only [Value.slice.injEq] at e
  exact e.2.1.symm
theorem RB.in_ {A : Nat → Prop} {w : World} {b off c n : Nat} {l : List UInt8} (h : RB A w (.slice (some ⟨b, off, none⟩) n c) l) (hz : 0 < n := by omega) : b < w.heap.size ∧ A b ∧ l.length = n ∧ n ≤ c := by
  rcases h.2 with ⟨⟨a0, e⟩, h0⟩ | ⟨b1, o1, c1, e, hb, hA, h1, hx⟩
  · simp only [Value.slice.injEq] at e
    omega
  · simp only [Value.slice.injEq, Option.some.injEq, Addr.mk.injEq] at e
    obtain ⟨⟨rfl, rfl, -⟩, rfl, rfl⟩ := e
    exact ⟨hb, hA, rfl, h1⟩
set_option maxRecDepth 100000 in
set_option maxHeartbeats 1600000 in
theorem sealed_any (A : Nat → Prop) (b off n cap : Nat) (l : List UInt8) (w : World) (hx : RB A w (.slice (some ⟨b, off, none⟩) (n + 4) cap) l) (hl : n ≤ 100000) (hT : TabW w) (hg0 : 0 < w.heap.size) :
    Calls Tryz.prog 83 #[.slice (some ⟨b, off, none⟩) (n + 4) cap] w fun e w' => e = .returned (.bool (decide (tailB (l.take n) = l.drop n))) ∧ Below w.heap.size w w' := by
  obtain ⟨hbl, hA, hn, hcap⟩ := hx.in_
  have hS : ∀ W, Below w.heap.size w W → Calls Tryz.prog 88 #[.slice none 0 0, .slice (some ⟨b, off, none⟩) n cap] W fun e w' => ∃ a c, e = .returned (.slice a 4 c) ∧ RB (fun b => W.heap.size ≤ b) w' (.slice a 4 c) (tailB (l.take n)) ∧ Below W.heap.size W w' := fun W hW => by
    have hx1 : RB A W (.slice (some ⟨b, off, none⟩) n cap) (l.take n) := RB.ext (RB.take (by rw [hn]; exact hx) (by omega) cap (by omega)) hW
    refine (tail_any A W.heap.size _ _ [] (l.take n) W (OB.nil _ _) hx1 (tab_below hT hW hg0) (Nat.le_refl _) (by simp) (by simp; omega)).mono ?_
    rintro e w' ⟨v, rfl, ho, hb⟩
    obtain ⟨a, c, rfl⟩ := ho.rb.shape
    exact ⟨a, c, rfl, ho.rb, hb⟩
  have hE : ∀ W W' a c, Below w.heap.size w W → RB (fun b => W.heap.size ≤ b) W' (.slice a 4 c) (tailB (l.take n)) → Below w.heap.size w W' → Calls Tryz.prog 93 #[.slice a 4 c, .slice (some ⟨b, off + n, none⟩) 4 (cap - n)] W' fun e w' => e = .returned (.bool (decide (tailB (l.take n) = l.drop n))) ∧ Below W'.heap.size W' w' := fun W W' a c hW hv hb => by
    have hx1 : RB A W' (.slice (some ⟨b, off + n, none⟩) (l.length - n) (cap - n)) (l.drop n) := RB.ext (RB.drop (by rw [hn]; exact hx) (by omega) (cap - n) (by omega)) hb
    rw [hn, show n + 4 - n = 4 by omega] at hx1
    exact eqB_any _ A _ _ _ _ W' hv hx1 (by simp [tailB_length]) (by simp; omega)
  have HS := Lib.hid hS
  have HE := Lib.hid hE
  clear hS hE hT
  generalize decide (tailB (l.take n) = l.drop n) = R at *
  have i0 : (0 : Int) ≤ (n : Int) := by omega
  have i1 : (n : Int) ≤ (cap : Int) := by omega
  have i2 : (n : Int) ≤ (n : Int) + 4 := by omega
  have i3 : ¬ cap = n := by omega
  have i4 : n + 4 - n = 4 := by omega
  have i5 : n ≤ cap := by omega
  have i6 : n ≤ n + 4 := by omega
  have i7 : ¬ cap = 0 := by omega
  clear hx hn
  go_enter Tryz.func83, Tryz.ntmps83
  go_wp2
  go_region_held3 (fun w' => Below w.heap.size w w')
    (first | exact (Below.refl _ _).drew | exact (Below.refl _ _).trans (by assumption) | exact Below.trans (by assumption) (Below.mono (by assumption) (Below.size (by assumption))))
    (first | (go_at_call 88; refine (HS.out _ (by first | assumption | exact (Below.refl _ _).drew)).mono ?_; rintro e w1 ⟨a1, c1, rfl, hv1, hb1⟩) | (go_at_call 93; refine (HE.out _ _ _ _ (by first | assumption | exact (Below.refl _ _).drew) hv1 (by assumption)).mono ?_; rintro e w2 ⟨rfl, hb2⟩))
  go_wp2
  go_ret
  exact ⟨rfl, by assumption⟩
end Go.Proofs.YtlgefkaafoidmaaGreatDoor
namespace Go.Proofs.YtlgefkaafoidmaaGreatDoor
theorem ofInt_i64 (a : Nat) (ha : a < 9223372036854775808) : (BitVec.ofInt 64 (a : Int)).toNat = a := by
  rw [BitVec.ofInt_natCast, BitVec.toNat_ofNat]; exact Nat.mod_eq_of_lt (by omega)
theorem i64_or_nat (a b : Nat) (ha : a < 9223372036854775808) (hb : b < 9223372036854775808) : bits .or .i64 (a : Int) (b : Int) = ((a ||| b : Nat) : Int) := by
  have hx : a ||| b < 2 ^ 63 := Nat.or_lt_two_pow (by omega) (by omega)
  show IntKind.i64.wrap ((BitVec.ofInt 64 (a : Int) ||| BitVec.ofInt 64 (b : Int)).toNat : Int) = _
  rw [BitVec.toNat_or, ofInt_i64 a ha, ofInt_i64 b hb, IntKind.wrap_i64]
  omega
theorem i64_and_nat (a b : Nat) (ha : a < 9223372036854775808) (hb : b < 9223372036854775808) : bits .and .i64 (a : Int) (b : Int) = ((a &&& b : Nat) : Int) := by
  have hx : a &&& b < 2 ^ 63 := Nat.and_lt_two_pow _ (by omega)
  show IntKind.i64.wrap ((BitVec.ofInt 64 (a : Int) &&& BitVec.ofInt 64 (b : Int)).toNat : Int) = _
  rw [BitVec.toNat_and, ofInt_i64 a ha, ofInt_i64 b hb, IntKind.wrap_i64]
  omega
/-- a byte behind a number -/
theorem or_byte (a c : Nat) (hc : c < 256) (ha : a < 36028797018963968) : bits .or .i64 ((a : Int) * 256) (c : Int) = ((a * 256 + c : Nat) : Int) := by
  have e : ((a : Int) * 256) = ((a * 256 : Nat) : Int) := by omega
  rw [e, i64_or_nat _ _ (by omega) (by omega)]
  have h := Nat.shiftLeft_add_eq_or_of_lt (i := 8) (b := c) (by omega) a
  rw [Nat.shiftLeft_eq] at h
  rw [show a * 256 = a * 2 ^ 8 from rfl, ← h]
end Go.Proofs.YtlgefkaafoidmaaGreatDoor
