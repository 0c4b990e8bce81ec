/- Law 09's examples, awake. Law 09: what is small enough. -/
import Derived.Test.YtgdilkhaopnhaaaGreatDoorMJ
import Derived.Test.YtgdilkhaopnhaaaGreatDoorTpack
import Derived.Test.YtgdilkhaopnhaaaGreatDoorMK
import Derived.Lib.SmallJoins
import Derived.Test.YtgdilkhaopnhaaaGreatDoorMD
import Derived.Test.YtgdilkhaopnhaaaGreatDoorTchk
namespace Go.Proofs.YtgdilkhaopnhaaaGreatDoor
open Go.RowKit Go.WideShapes

theorem SlE.of_blk {α : Type} {E : Enc α} {A : Nat → Prop} {w : World} {g cap : Nat} {t : TypeId} {l : List α} (cs : List (List Value)) (h1 : cs.length = l.length) (h2 : ∀ (i : Nat) (x : α) (c : List Value), l[i]? = some x → cs[i]? = some c → E.rd A w c x)
    (hb : w.heap[g]? = some (.cells cs.flatten.toArray t (0, 0))) (hl : cs.flatten.length = l.length * E.size) (hA : A g) (hc : l.length ≤ cap) : SlE E A w (.slice (some ⟨g, 0, none⟩) l.length cap) l := by
  refine ⟨⟨cs, h1, h2, hl, .inr ⟨g, 0, cap, rfl, hc, hA, (Array.getElem?_eq_some_iff.1 hb).1, fun j hj => ?_⟩⟩⟩
  rw [(blk_cell hb).1]
  simp
def l9 : List OpD := [⟨4, 0, 3, ⟨#[]⟩, []⟩, ⟨5, 0, 0, ⟨#[]⟩, [97]⟩, ⟨12, 0, 3, ⟨#[]⟩, []⟩]
def t9 : TxD := ⟨⟨#[100, 48, 46, 49]⟩, l9⟩
def m9 : List OpD := [⟨5, 0, 0, ⟨#[]⟩, [97]⟩, ⟨2, 0, 0, ⟨#[]⟩, []⟩]
theorem do9a : txDo ⟨[], [], 0⟩ false t9 = ⟨⟨[97], [], 3⟩, true, 0⟩ := by kernel_rfl
theorem do9b : txDo ⟨[], [], 3⟩ true t9 = ⟨⟨[], [], 3⟩, true, 0⟩ := by kernel_rfl
theorem do9c : txDo ⟨[], [], 0⟩ true ⟨⟨#[120]⟩, m9⟩ = ⟨⟨[], [], 0⟩, false, 91⟩ := by kernel_rfl
theorem e9 : txE t9 = 0 := by kernel_rfl
theorem un9 : ∃ x, txUn (txL t9 3) = (x, 0) ∧ x.ops.length = 3 := ⟨(txUn (txL t9 3)).1, by kernel_rfl, by kernel_rfl⟩
theorem TDoOut.ways {x : TDoR} {w w' : World} {e : Ending} (h : TDoOut x w e w') : ∃ a c u q, e = .returned (.tuple #[.agg #[.slice a x.o.data.length c, .slice u x.o.keys.length q, .int .i64 x.o.seq], .bool x.there, .int .i64 x.e]) ∧
    Own8 w.heap.size w' (.slice a x.o.data.length c) (.slice u x.o.keys.length q) x.o ∧ Below w.heap.size w w' := by
  obtain ⟨dv, kv, rfl, hv, hb⟩ := h
  obtain ⟨⟨a, c, rfl⟩, u, q, rfl⟩ := own8_shape hv
  exact ⟨_, _, _, _, rfl, hv, hb⟩
theorem okl9 (s : Int) : (⟨[], [], s⟩ : ObD).okl := ⟨by simp, by simp, by simp⟩
theorem rb1 {w : World} {b : Nat} {x : UInt8} {cap : Nat} (h : w.cell? ⟨b, 0, none⟩ = some (.int .u8 x.toNat)) (hc : 1 ≤ cap) : RB (fun _ => True) w (.slice (some ⟨b, 0, none⟩) 1 cap) [x] :=
  ⟨rfl, .inr ⟨b, 0, cap, rfl, World.block_lt_of_cell? w _ h, trivial, hc, fun j hj => by
    have hj2 : j < 1 := hj
    obtain rfl : j = 0 := by omega
    exact h⟩⟩
def c9 (g : Nat) : List (List Value) := [[.int .i64 4, .int .i64 0, .int .i64 3, .string ⟨#[]⟩, .slice none 0 0], [.int .i64 5, .int .i64 0, .int .i64 0, .string ⟨#[]⟩, .slice (some ⟨g, 0, none⟩) 1 1], [.int .i64 12, .int .i64 0, .int .i64 3, .string ⟨#[]⟩, .slice none 0 0]]
def d9 (g : Nat) : List (List Value) := [[.int .i64 5, .int .i64 0, .int .i64 0, .string ⟨#[]⟩, .slice (some ⟨g, 0, none⟩) 1 1], [.int .i64 2, .int .i64 0, .int .i64 0, .string ⟨#[]⟩, .slice none 0 0]]
theorem ops9 {w : World} {g b : Nat} {t : TypeId} (hg : w.cell? ⟨g, 0, none⟩ = some (.int .u8 97)) (hb : w.heap[b]? = some (.cells (c9 g).flatten.toArray t (0, 0))) : SlE Enc.op (fun _ => True) w (.slice (some ⟨b, 0, none⟩) 3 3) l9 := by
  refine SlE.of_blk (l := l9) (c9 g) rfl (fun i x c hi hc => ?_) hb rfl trivial (Nat.le_refl _)
  match i, hi, hc with
  | 0, hi, hc => cases hi; cases hc; exact ⟨_, rfl, RB.nil _ _⟩
  | 1, hi, hc => cases hi; cases hc; exact ⟨_, rfl, rb1 hg (Nat.le_refl _)⟩
  | 2, hi, hc => cases hi; cases hc; exact ⟨_, rfl, RB.nil _ _⟩
theorem ops9b {w : World} {g b : Nat} {t : TypeId} (hg : w.cell? ⟨g, 0, none⟩ = some (.int .u8 97)) (hb : w.heap[b]? = some (.cells (d9 g).flatten.toArray t (0, 0))) : SlE Enc.op (fun _ => True) w (.slice (some ⟨b, 0, none⟩) 2 2) m9 := by
  refine SlE.of_blk (l := m9) (d9 g) rfl (fun i x c hi hc => ?_) hb rfl trivial (Nat.le_refl _)
  match i, hi, hc with
  | 0, hi, hc => cases hi; cases hc; exact ⟨_, rfl, rb1 hg (Nat.le_refl _)⟩
  | 1, hi, hc => cases hi; cases hc; exact ⟨_, rfl, RB.nil _ _⟩
theorem dat9 : ∀ op ∈ l9, op.data.length ≤ 50000 := by simp [l9]
theorem dat9b : ∀ op ∈ m9, op.data.length ≤ 50000 := by simp [m9]
set_option maxRecDepth 100000 in
set_option maxHeartbeats 16000000 in
theorem awake9_any (w : World) (hE : ErrT w) : Calls Tryz.prog 9 #[] w (Says true w) := by
  have HE := Lib.hid hE
  clear hE
  have kc := fun (w : World) (C : Array Value) (n c : Nat) => Go.Lib.run_convert_bytes_const (P := Tryz.prog) w 22 5 C n c Tryz.underlying22 Tryz.underlying5
  go_enter Tryz.func9, Tryz.ntmps9
  go_wp2_with fail
  obtain ⟨w3, hw3⟩ : ∃ w3, w3 = ((w.alloc (.cells #[.int .u8 97] 5 (1, 2))).alloc (.cells #[.int .i64 4, .int .i64 0, .int .i64 3, .string ⟨#[]⟩, .slice none 0 0, .int .i64 5, .int .i64 0, .int .i64 0, .string ⟨#[]⟩, .slice (some ⟨w.heap.size, 0, none⟩) 1 1, .int .i64 12, .int .i64 0, .int .i64 3, .string ⟨#[]⟩, .slice none 0 0] 43)).alloc (.cells #[.string ⟨#[100, 48, 46, 49]⟩, .slice (some ⟨w.heap.size + 1, 0, none⟩) 3 3] 28) := ⟨_, rfl⟩
  rw [← hw3]
  have hw : Below w.heap.size w w3 := by rw [hw3]; ((repeat' (first | exact Below.refl _ _ | refine below_drewN ?_ _ | refine Below.drew ?_ | refine Below.alloc ?_ ?_ _ | refine Below.trans ?_ (Below.mono (by assumption) ?_))); all_goals (first | exact Nat.le_refl _ | exact Below.size (by assumption) | omega | (simp; done) | (simp; omega)))
  have HG := Lib.hid (show w3.cell? ⟨w.heap.size, 0, none⟩ = some (.int .u8 97) from by rw [hw3]; exact (World.cell?_alloc_lt _ _ _ (by simp <;> omega)).trans ((World.cell?_alloc_lt _ _ _ (by simp)).trans (World.cell?_alloc_mark w _ _ _ 0)))
  have HL := Lib.hid (show w3.heap[w.heap.size + 1]? = some (.cells (c9 w.heap.size).flatten.toArray 43 (0, 0)) from by rw [hw3]; exact dnew (heap_alloc2_new _ _ _) _)
  have HT := Lib.hid (show w3.heap[w.heap.size + 2]? = some (.cells #[.string ⟨#[100, 48, 46, 49]⟩, .slice (some ⟨w.heap.size + 1, 0, none⟩) 3 3] 28 (0, 0)) from by rw [hw3]; have h := fun (W : World) o' => heap_alloc_new W o'; have := h ((w.alloc (.cells #[.int .u8 97] 5 (1, 2))).alloc (.cells #[.int .i64 4, .int .i64 0, .int .i64 3, .string ⟨#[]⟩, .slice none 0 0, .int .i64 5, .int .i64 0, .int .i64 0, .string ⟨#[]⟩, .slice (some ⟨w.heap.size, 0, none⟩) 1 1, .int .i64 12, .int .i64 0, .int .i64 3, .string ⟨#[]⟩, .slice none 0 0] 43)) (.cells #[.string ⟨#[100, 48, 46, 49]⟩, .slice (some ⟨w.heap.size + 1, 0, none⟩) 3 3] 28); simpa using this)
  have HW := Lib.hid hw
  clear hw hw3
  have hd := tdo_any (fun _ => True) (fun _ => True) _ _ ⟨[], [], 0⟩ false t9 w3 (obv_none _ _) (okl9 0) (ops9 HG.out HL.out) dat9 (HE.out.ext HW.out)
  rw [do9a] at hd
  refine hd.mono ?_
  clear hd
  intro e w4 h4
  obtain ⟨a4, c4, u4, q4, rfl, ho4, hb4⟩ := h4.ways
  have HO4 : Hid (ObV (fun b => w3.heap.size ≤ b) w4 (.agg #[.slice a4 1 c4, .slice u4 0 q4, .int .i64 3]) ⟨[97], [], 3⟩) := Lib.hid ho4.obv
  simp only [List.length_cons, List.length_nil, Nat.zero_add]
  have HG4 := Lib.hid (cellExt hb4 HG.out)
  have HL4 := Lib.hid (dblk hb4 HL.out)
  have HT4 := Lib.hid (dblk hb4 HT.out)
  have HW4 := Lib.hid (dcall HW.out hb4)
  clear h4 ho4 hb4 HG HL HT HW
  go_upto_region 4 with fail
  obtain ⟨w5, hw5⟩ : ∃ w5, w5 = w4.alloc (.cells #[.slice a4 1 c4, .slice u4 0 q4, .int .i64 3] 25) := ⟨_, rfl⟩
  rw [← hw5]
  have hb5 : Below w4.heap.size w4 w5 := by rw [hw5]; ((repeat' (first | exact Below.refl _ _ | refine below_drewN ?_ _ | refine Below.drew ?_ | refine Below.alloc ?_ ?_ _ | refine Below.trans ?_ (Below.mono (by assumption) ?_))); all_goals (first | exact Nat.le_refl _ | exact Below.size (by assumption) | omega | (simp; done) | (simp; omega)))
  have HA5 := Lib.hid (show w5.heap[w4.heap.size]? = some (.cells #[.slice a4 1 c4, .slice u4 0 q4, .int .i64 3] 25 (0, 0)) from by rw [hw5]; exact heap_alloc_new _ _)
  have HO5 := Lib.hid (HO4.out.ext hb5)
  have HG5 := Lib.hid (cellExt hb5 HG4.out)
  have HL5 := Lib.hid (dblk hb5 HL4.out)
  have HT5 := Lib.hid (dblk hb5 HT4.out)
  have HW5 := Lib.hid (dcall HW4.out hb5)
  clear hw5 hb5 HO4 HG4 HL4 HT4 HW4
  obtain ⟨x0, f0⟩ := blk_cell (i := 0) HT5.out
  obtain ⟨x1, f1⟩ := blk_cell (i := 1) HT5.out
  simp at x0 x1
  go_wp2_with fail
  have hd := tdo_any (fun _ => True) (fun _ => True) _ _ ⟨[], [], 3⟩ true t9 w5 ⟨_, _, rfl, RB.nil _ _, SlE.nil _ _ _⟩ (okl9 3) (ops9 HG5.out HL5.out) dat9 (HE.out.ext HW5.out)
  rw [do9b] at hd
  refine hd.mono ?_
  clear hd
  intro e w6 h6
  obtain ⟨a6, c6, u6, q6, rfl, ho6, hb6⟩ := h6.ways
  have HO6 : Hid (ObV (fun b => w5.heap.size ≤ b) w6 (.agg #[.slice a6 0 c6, .slice u6 0 q6, .int .i64 3]) ⟨[], [], 3⟩) := Lib.hid ho6.obv
  simp only [List.length_nil]
  have HP6 := Lib.hid (HO5.out.ext hb6)
  have HA6 := Lib.hid (dblk hb6 HA5.out)
  have HG6 := Lib.hid (cellExt hb6 HG5.out)
  have HL6 := Lib.hid (dblk hb6 HL5.out)
  have HT6 := Lib.hid (dblk hb6 HT5.out)
  have HW6 := Lib.hid (dcall HW5.out hb6)
  clear h6 ho6 hb6 HO5 HA5 HG5 HL5 HT5 HW5 x0 f0 x1 f1
  go_upto_region 5 with fail
  obtain ⟨w7, hw7⟩ : ∃ w7, w7 = w6.alloc (.cells #[.slice a6 0 c6, .slice u6 0 q6, .int .i64 3] 25) := ⟨_, rfl⟩
  rw [← hw7]
  have hb7 : Below w6.heap.size w6 w7 := by rw [hw7]; ((repeat' (first | exact Below.refl _ _ | refine below_drewN ?_ _ | refine Below.drew ?_ | refine Below.alloc ?_ ?_ _ | refine Below.trans ?_ (Below.mono (by assumption) ?_))); all_goals (first | exact Nat.le_refl _ | exact Below.size (by assumption) | omega | (simp; done) | (simp; omega)))
  have HB7 := Lib.hid (show w7.heap[w6.heap.size]? = some (.cells #[.slice a6 0 c6, .slice u6 0 q6, .int .i64 3] 25 (0, 0)) from by rw [hw7]; exact heap_alloc_new _ _)
  have HP7 := Lib.hid (HP6.out.ext hb7)
  have HA7 := Lib.hid (dblk hb7 HA6.out)
  have HG7 := Lib.hid (cellExt hb7 HG6.out)
  have HL7 := Lib.hid (dblk hb7 HL6.out)
  have HT7 := Lib.hid (dblk hb7 HT6.out)
  have HW7 := Lib.hid (dcall HW6.out hb7)
  clear hw7 hb7 HO6 HP6 HA6 HG6 HL6 HT6 HW6
  have k5 : w7.cell? ⟨w.heap.size + 1, 5, none⟩ = some (.int .i64 5) := (blk_cell (i := 5) HL7.out).1
  have k6 : w7.cell? ⟨w.heap.size + 1, 6, none⟩ = some (.int .i64 0) := (blk_cell (i := 6) HL7.out).1
  have k7 : w7.cell? ⟨w.heap.size + 1, 7, none⟩ = some (.int .i64 0) := (blk_cell (i := 7) HL7.out).1
  have k8 : w7.cell? ⟨w.heap.size + 1, 8, none⟩ = some (.string ⟨#[]⟩) := (blk_cell (i := 8) HL7.out).1
  have k9 : w7.cell? ⟨w.heap.size + 1, 9, none⟩ = some (.slice (some ⟨w.heap.size, 0, none⟩) 1 1) := (blk_cell (i := 9) HL7.out).1
  go_wp2_with fail
  obtain ⟨w8, hw8⟩ : ∃ w8, w8 = w7.alloc (.cells #[.int .i64 5, .int .i64 0, .int .i64 0, .string ⟨#[]⟩, .slice (some ⟨w.heap.size, 0, none⟩) 1 1, .int .i64 2, .int .i64 0, .int .i64 0, .string ⟨#[]⟩, .slice none 0 0] 43) := ⟨_, rfl⟩
  rw [← hw8]
  have hb8 : Below w7.heap.size w7 w8 := by rw [hw8]; ((repeat' (first | exact Below.refl _ _ | refine below_drewN ?_ _ | refine Below.drew ?_ | refine Below.alloc ?_ ?_ _ | refine Below.trans ?_ (Below.mono (by assumption) ?_))); all_goals (first | exact Nat.le_refl _ | exact Below.size (by assumption) | omega | (simp; done) | (simp; omega)))
  have HM8 := Lib.hid (show w8.heap[w7.heap.size]? = some (.cells (d9 w.heap.size).flatten.toArray 43 (0, 0)) from by rw [hw8]; exact heap_alloc_new _ _)
  have HP8 := Lib.hid (HP7.out.ext hb8)
  have HA8 := Lib.hid (dblk hb8 HA7.out)
  have HB8 := Lib.hid (dblk hb8 HB7.out)
  have HG8 := Lib.hid (cellExt hb8 HG7.out)
  have HL8 := Lib.hid (dblk hb8 HL7.out)
  have HT8 := Lib.hid (dblk hb8 HT7.out)
  have HW8 := Lib.hid (dcall HW7.out hb8)
  clear hw8 HP7 HA7 HB7 HG7 HL7 HT7 HW7 k5 k6 k7 k8 k9
  have hd := tdo_any (fun _ => True) (fun _ => True) _ _ ⟨[], [], 0⟩ true ⟨⟨#[120]⟩, m9⟩ w8 (obv_none _ _) (okl9 0) (ops9b HG8.out HM8.out) dat9b (HE.out.ext HW8.out)
  rw [do9c] at hd
  refine hd.mono ?_
  clear hd hb8
  intro e w9 h9
  obtain ⟨a9, c9', u9, q9, rfl, -, hb9⟩ := h9.ways
  simp only [List.length_nil]
  have HP9 := Lib.hid (HP8.out.ext hb9)
  have HA9 := Lib.hid (dblk hb9 HA8.out)
  have HB9 := Lib.hid (dblk hb9 HB8.out)
  have HG9 := Lib.hid (cellExt hb9 HG8.out)
  have HL9 := Lib.hid (dblk hb9 HL8.out)
  have HT9 := Lib.hid (dblk hb9 HT8.out)
  have HW9 := Lib.hid (dcall HW8.out hb9)
  clear h9 hb9 HP8 HA8 HB8 HG8 HL8 HT8 HW8 HM8
  go_upto_region 6 with fail
  obtain ⟨w10, hw10⟩ : ∃ w10, w10 = w9.alloc (.cells #[.slice a9 0 c9', .slice u9 0 q9, .int .i64 0] 25) := ⟨_, rfl⟩
  rw [← hw10]
  have hb10 : Below w9.heap.size w9 w10 := by rw [hw10]; ((repeat' (first | exact Below.refl _ _ | refine below_drewN ?_ _ | refine Below.drew ?_ | refine Below.alloc ?_ ?_ _ | refine Below.trans ?_ (Below.mono (by assumption) ?_))); all_goals (first | exact Nat.le_refl _ | exact Below.size (by assumption) | omega | (simp; done) | (simp; omega)))
  have HP10 := Lib.hid (HP9.out.ext hb10)
  have HA10 := Lib.hid (dblk hb10 HA9.out)
  have HB10 := Lib.hid (dblk hb10 HB9.out)
  have HG10 := Lib.hid (cellExt hb10 HG9.out)
  have HL10 := Lib.hid (dblk hb10 HL9.out)
  have HT10 := Lib.hid (dblk hb10 HT9.out)
  have HW10 := Lib.hid (dcall HW9.out hb10)
  clear hw10 hb10 HP9 HA9 HB9 HG9 HL9 HT9 HW9
  obtain ⟨x0, f0⟩ := blk_cell (i := 0) HT10.out
  obtain ⟨x1, f1⟩ := blk_cell (i := 1) HT10.out
  simp at x0 x1
  go_wp2_with fail
  have hp := tpack_ok (fun _ => True) t9 _ w10 (ops9 HG10.out HL10.out) e9
  obtain ⟨xt, hx, hx3⟩ := un9
  have hlen : (txL t9 3).length ≤ 100000 := of_decide_eq_true (by kernel_rfl)
  have h3 : t9.ops.length = 3 := rfl
  rw [h3] at hp
  generalize txL t9 3 = L at *
  refine hp.mono ?_
  clear hp h3
  rintro e w11 ⟨v11, rfl, ho11, hb11⟩
  have HP11 := Lib.hid (HP10.out.ext hb11)
  have HA11 := Lib.hid (dblk hb11 HA10.out)
  have HB11 := Lib.hid (dblk hb11 HB10.out)
  have HG11 := Lib.hid (cellExt hb11 HG10.out)
  have HL11 := Lib.hid (dblk hb11 HL10.out)
  have HT11 := Lib.hid (dblk hb11 HT10.out)
  have HW11 := Lib.hid (dcall HW10.out hb11)
  obtain ⟨a11, c11, rfl⟩ := ho11.rb.shape
  have HL0 := Lib.hid ho11.rb
  have HXX := Lib.hid hx
  clear hb11 ho11 HP10 HA10 HB10 HG10 HL10 HT10 HW10 x0 f0 x1 f1 hx
  go_wp2_with fail
  have hu := tunpack_any _ _ L w11 HL0.out hlen
  rw [HXX.out] at hu
  refine hu.mono ?_
  clear hu
  rintro e w12 ⟨v12, rfl, hs12, hb12⟩
  obtain ⟨a12, c12, rfl⟩ := hs12.shape
  rw [show xt.ops.length = 3 from hx3]
  have HP12 := Lib.hid (HP11.out.ext hb12)
  have HA12 := Lib.hid (dblk hb12 HA11.out)
  have HB12 := Lib.hid (dblk hb12 HB11.out)
  have HG12 := Lib.hid (cellExt hb12 HG11.out)
  have HL12 := Lib.hid (dblk hb12 HL11.out)
  have HT12 := Lib.hid (dblk hb12 HT11.out)
  have HW12 := Lib.hid (dcall HW11.out hb12)
  clear hb12 hs12 hx3 hlen HXX HL0 HP11 HA11 HB11 HG11 HL11 HT11 HW11
  go_upto_region 7 with fail
  obtain ⟨w13, hw13⟩ : ∃ w13, w13 = w12.alloc (.cells #[.string xt.obj, .slice a12 3 c12] 28) := ⟨_, rfl⟩
  rw [← hw13]
  have hb13 : Below w12.heap.size w12 w13 := by rw [hw13]; ((repeat' (first | exact Below.refl _ _ | refine below_drewN ?_ _ | refine Below.drew ?_ | refine Below.alloc ?_ ?_ _ | refine Below.trans ?_ (Below.mono (by assumption) ?_))); all_goals (first | exact Nat.le_refl _ | exact Below.size (by assumption) | omega | (simp; done) | (simp; omega)))
  obtain ⟨u1, -⟩ := blk_cell (i := 1) (show w13.heap[w12.heap.size]? = some (.cells #[.string xt.obj, .slice a12 3 c12] 28 (0, 0)) from by rw [hw13]; exact heap_alloc_new _ _)
  have HP13 := Lib.hid (HP12.out.ext hb13)
  have HG13 := Lib.hid (cellExt hb13 HG12.out)
  have HL13 := Lib.hid (dblk hb13 HL12.out)
  have HW13 := Lib.hid (dcall HW12.out hb13)
  obtain ⟨x0, -⟩ := blk_cell (i := 0) (dblk hb13 HT12.out)
  obtain ⟨x1, -⟩ := blk_cell (i := 1) (dblk hb13 HT12.out)
  obtain ⟨y0, -⟩ := blk_cell (i := 0) (dblk hb13 HA12.out)
  obtain ⟨y2, -⟩ := blk_cell (i := 2) (dblk hb13 HA12.out)
  obtain ⟨z0, -⟩ := blk_cell (i := 0) (dblk hb13 HB12.out)
  simp at u1 x0 x1 y0 y2 z0
  have s0 : (Go.convert 22 9 (.slice a4 1 c4)).run Tryz.prog w13 = .ok (.string ⟨[97].toArray⟩) w13 := cnv_bytes (obv_data HP13.out) _ (Below.refl _ _)
  clear hw13 hb13 HP12 HA12 HB12 HG12 HL12 HT12 HW12
  go_wp2_with fail
  refine (tcheck_any (fun _ => True) t9 _ _ (ops9 HG13.out HL13.out)).mono ?_
  rw [e9]
  rintro e w14 ⟨rfl, hb14⟩
  have HW14 := Lib.hid (dcall HW13.out hb14)
  clear hb14
  go_wp2
  go_ret
  exact ⟨rfl, HW14.out⟩
end Go.Proofs.YtgdilkhaopnhaaaGreatDoor
namespace Go.Proofs.YtgdilkhaopnhaaaGreatDoor
open Go.RowKit Go.WideShapes

def kyP (k : KyD) : Prop := k.value.length ≤ 3000 ∧ k.name.size ≤ 100
def opsP (o : OpD) : Prop := o.data.length ≤ 3000 ∧ o.name.size ≤ 100
structure Few9 (o : ObD) (t : TxD) : Prop where
  data : o.data.length ≤ 200
  keys : o.keys.length ≤ 200
  ops : t.ops.length ≤ 40
  obj : t.obj.size ≤ 100
  key : ∀ k ∈ o.keys, kyP k
  op : ∀ x ∈ t.ops, opsP x
theorem Few9.okl {o : ObD} {t : TxD} (h : Few9 o t) : o.okl := ⟨by have := h.data; omega, by have := h.keys; omega, fun k hk => by have := (h.key k hk).1; omega⟩
theorem Few9.dat {o : ObD} {t : TxD} (h : Few9 o t) : ∀ x ∈ t.ops, x.data.length ≤ 50000 := fun x hx => by have := (h.op x hx).1; omega
def Few9R (o : ObD) (t : TxD) (w : World) (e : Ending) (w' : World) : Prop := ∃ b, e = .returned (.bool b) ∧ (b = true → Few9 o t) ∧ Below w.heap.size w w'
theorem all_take_succ {α : Type} {P : α → Prop} {l : List α} {k : Nat} (h : ∀ x ∈ l.take k, P x) (hk : k < l.length) (h1 : P l[k]) : ∀ x ∈ l.take (k + 1), P x := by
  intro o ho
  rw [List.take_succ_eq_append_getElem hk] at ho
  rcases List.mem_append.1 ho with ho | ho
  · exact h o ho
  · simp at ho
    subst ho
    exact h1
set_option maxRecDepth 100000 in
set_option maxHeartbeats 8000000 in
theorem few9_any (A B : Nat → Prop) (v va : Value) (o : ObD) (t : TxD) (w : World) (hv : ObV A w v o) (h : SlE Enc.op B w va t.ops) : Calls Tryz.prog 10 #[v, .agg #[.string t.obj, va]] w (Few9R o t w) := by
  obtain ⟨dv, kv, rfl, hd, hk⟩ := hv
  obtain ⟨da, dc, rfl⟩ := hd.shape
  obtain ⟨ka, kc, rfl⟩ := hk.shape
  obtain ⟨ta, tc, rfl⟩ := h.shape
  obtain ⟨od, ks, os⟩ := o
  obtain ⟨ob, ops⟩ := t
  simp only at *
  have HK := Lib.hid hk
  have HS := Lib.hid h
  clear hd hk h
  by_cases h1 : (200 : Int) < od.length
  · go_enter Tryz.func10, Tryz.ntmps10
    go_wp2
    go_ret
    exact ⟨false, rfl, by simp, by ((repeat' (first | exact Below.refl _ _ | refine below_drewN ?_ _ | refine Below.drew ?_ | refine Below.alloc ?_ ?_ _ | refine Below.trans ?_ (Below.mono (by assumption) ?_))); all_goals (first | exact Nat.le_refl _ | exact Below.size (by assumption) | omega | (simp; done) | (simp; omega)))⟩
  by_cases h2 : (200 : Int) < ks.length
  · go_enter Tryz.func10, Tryz.ntmps10
    go_wp2
    go_ret
    exact ⟨false, rfl, by simp, by ((repeat' (first | exact Below.refl _ _ | refine below_drewN ?_ _ | refine Below.drew ?_ | refine Below.alloc ?_ ?_ _ | refine Below.trans ?_ (Below.mono (by assumption) ?_))); all_goals (first | exact Nat.le_refl _ | exact Below.size (by assumption) | omega | (simp; done) | (simp; omega)))⟩
  by_cases h3 : (40 : Int) < ops.length
  · go_enter Tryz.func10, Tryz.ntmps10
    go_wp2
    go_ret
    exact ⟨false, rfl, by simp, by ((repeat' (first | exact Below.refl _ _ | refine below_drewN ?_ _ | refine Below.drew ?_ | refine Below.alloc ?_ ?_ _ | refine Below.trans ?_ (Below.mono (by assumption) ?_))); all_goals (first | exact Nat.le_refl _ | exact Below.size (by assumption) | omega | (simp; done) | (simp; omega)))⟩
  by_cases h4 : (100 : Int) < ob.size
  · go_enter Tryz.func10, Tryz.ntmps10
    go_wp2
    go_ret
    exact ⟨false, rfl, by simp, by ((repeat' (first | exact Below.refl _ _ | refine below_drewN ?_ _ | refine Below.drew ?_ | refine Below.alloc ?_ ?_ _ | refine Below.trans ?_ (Below.mono (by assumption) ?_))); all_goals (first | exact Nat.le_refl _ | exact Below.size (by assumption) | omega | (simp; done) | (simp; omega)))⟩
  go_enter Tryz.func10, Tryz.ntmps10
  go_wp2
  obtain ⟨w0, hw0⟩ : ∃ w0, w0 = (w.alloc (.cells #[.slice da od.length dc, .slice ka ks.length kc, .int .i64 os] 25)).alloc (.cells #[.string ob, .slice ta ops.length tc] 28) := ⟨_, rfl⟩
  rw [← hw0]
  have hb0 : Below w.heap.size w w0 := by rw [hw0]; ((repeat' (first | exact Below.refl _ _ | refine below_drewN ?_ _ | refine Below.drew ?_ | refine Below.alloc ?_ ?_ _ | refine Below.trans ?_ (Below.mono (by assumption) ?_))); all_goals (first | exact Nat.le_refl _ | exact Below.size (by assumption) | omega | (simp; done) | (simp; omega)))
  have HW := Lib.hid hb0
  have P0 := Lib.hid (show w0.heap[w.heap.size]? = some (.cells #[.slice da od.length dc, .slice ka ks.length kc, .int .i64 os] 25 (0, 0)) from by rw [hw0]; exact dnew (heap_alloc_new _ _) _)
  have T0 := Lib.hid (show w0.heap[w.heap.size + 1]? = some (.cells #[.string ob, .slice ta ops.length tc] 28 (0, 0)) from by rw [hw0]; exact heap_alloc2_new _ _ _)
  have HK0 := Lib.hid (HK.out.ext hb0)
  have HS0 := Lib.hid (HS.out.ext hb0)
  obtain ⟨y0, e0⟩ := blk_cell (i := 0) (P0.out)
  obtain ⟨y1, e1⟩ := blk_cell (i := 1) (P0.out)
  obtain ⟨y2, e2⟩ := blk_cell (i := 2) (P0.out)
  simp at y0 y1 y2
  obtain ⟨t0, -⟩ := blk_cell (i := 0) T0.out
  obtain ⟨t1, -⟩ := blk_cell (i := 1) T0.out
  simp at t0 t1
  clear hw0 hb0 HK HS
  go_loopw [5] (fun q wr => ∃ k : Nat, k ≤ ks.length ∧ q = .int .i64 k ∧ w0 = wr ∧ ∀ x ∈ ks.take k, kyP x) (fun q _ => ks.length - (intOf q).toNat)
  case atStart => exact ⟨0, Nat.zero_le _, rfl, rfl, fun o ho => by simp at ho⟩
  case round =>
    obtain ⟨k, hk, rfl, rfl, hf⟩ := hrel
    have HF := Lib.hid hf
    clear hf
    by_cases hlt : k < ks.length
    · obtain ⟨b, off, x, rfl, hb, -, c3, c4, hx⟩ := Keys.at HK0.out hlt
      obtain ⟨xa, xc, rfl⟩ := hx.shape
      have HF1 : Hid (kyP ks[k] → ∀ x ∈ ks.take (k + 1), kyP x) := Lib.hid (all_take_succ HF.out hlt)
      generalize ks[k] = ky at *
      clear hx
      by_cases d1 : (3000 : Int) < ky.value.length
      · go_wp2
        go_ret
        exact ⟨false, rfl, by simp, HW.out⟩
      · by_cases d2 : (100 : Int) < ky.name.size
        · go_wp2
          go_ret
          exact ⟨false, rfl, by simp, HW.out⟩
        · go_wp2
          go_roundw
          case rel => exact ⟨k + 1, by omega, by go_num, trivial, HF1.out ⟨by omega, by omega⟩⟩
          case measure => simp [intOf]; omega
    · have HKS : Hid (∀ x ∈ ks, kyP x) := Lib.hid (by have := HF.out; rw [List.take_of_length_le (by omega)] at this; exact this)
      clear HF
      go_wp2
      go_loopw [6] (fun q wr => ∃ k : Nat, k ≤ ops.length ∧ q = .int .i64 k ∧ w0 = wr ∧ ∀ x ∈ ops.take k, opsP x) (fun q _ => ops.length - (intOf q).toNat)
      case atStart => exact ⟨0, Nat.zero_le _, rfl, rfl, fun o ho => by simp at ho⟩
      case round =>
        obtain ⟨j, hj, rfl, rfl, hf⟩ := hrel
        have HF := Lib.hid hf
        clear hf
        by_cases hjt : j < ops.length
        · obtain ⟨b, off, x, rfl, hb, -, c0, c1, c2, c3, c4, hx⟩ := Ops.at HS0.out hjt
          obtain ⟨xa, xc, rfl⟩ := hx.shape
          have HF1 : Hid (opsP ops[j] → ∀ x ∈ ops.take (j + 1), opsP x) := Lib.hid (all_take_succ HF.out hjt)
          generalize ops[j] = op at *
          clear hx
          by_cases d1 : (3000 : Int) < op.data.length
          · go_wp2
            go_ret
            exact ⟨false, rfl, by simp, HW.out⟩
          · by_cases d2 : (100 : Int) < op.name.size
            · go_wp2
              go_ret
              exact ⟨false, rfl, by simp, HW.out⟩
            · go_wp2
              go_roundw
              case rel => exact ⟨j + 1, by omega, by go_num, trivial, HF1.out ⟨by omega, by omega⟩⟩
              case measure => simp [intOf]; omega
        · have HOS : Hid (∀ x ∈ ops, opsP x) := Lib.hid (by have := HF.out; rw [List.take_of_length_le (by omega)] at this; exact this)
          clear HF
          go_wp2
          go_ret
          exact ⟨true, rfl, fun _ => ⟨by show od.length ≤ 200; omega, by show ks.length ≤ 200; omega, by show ops.length ≤ 40; omega, by show ob.size ≤ 100; omega, HKS.out, HOS.out⟩, HW.out⟩
end Go.Proofs.YtgdilkhaopnhaaaGreatDoor
