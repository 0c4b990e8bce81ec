/- Numbers as bytes of fixed width, most significant first; both ways. No program is named. The walk of wire.put: a number's bytes behind all; wire.Num, wire.Blob. Small laws on blocks that a walk keeps in sight: behind calls and allocs. Rows of the call's own whose data are the call's own too and stand apart from the row; append of one datum. No program is named. The sum of bytes: the table's four-bit steps are the definition's single steps; each step is one to one. No program is named. Frames and readers of bytes: the plain law. No program is named. The walks of slices.Equal at bytes, frame.sealed, frame.Next. Bits of int: a byte put behind a number. No program is named. The walks of wire.Reader's methods. The walks of wire.Reader's Num, Blob, Left, Err, End; wire.Read. -/
import Derived.Test.YtgdilkhaopnhaaaGreatDoorMA
import Derived.Maps.AppendAt
import Derived.Laws.BitsAllLaws
import Derived.Laws.BitsLemmas
import Derived.Laws.CopyOwn
import Derived.Laws.MakeOwn
import Derived.OwnWalk
namespace Go.Proofs.YtgdilkhaopnhaaaGreatDoor

/-- a number's w last bytes -/
def be : Nat → Nat → List UInt8
  | 0, _ => []
  | w + 1, n => be w (n / 256) ++ [UInt8.ofNat n]
/-- the number that bytes say -/
def nb (l : List UInt8) : Nat := l.foldl (fun a b => a * 256 + b.toNat) 0
theorem be_length (w n : Nat) : (be w n).length = w := by
  induction w generalizing n with
  | zero => rfl
  | succ w ih => simp [be, ih]
theorem nb_snoc (l : List UInt8) (b : UInt8) : nb (l ++ [b]) = nb l * 256 + b.toNat := by simp [nb]
theorem nb_nil : nb [] = 0 := rfl
theorem byte_of (n : Nat) : (UInt8.ofNat n).toNat = n % 256 := by simp
theorem rev_ind {P : List UInt8 → Prop} (h0 : P []) (h1 : ∀ l b, P l → P (l ++ [b])) : ∀ l, P l := by
  have key : ∀ (n : Nat) (l : List UInt8), l.length = n → P l := by
    intro n
    induction n with
    | zero => intro l h; rw [List.length_eq_zero_iff.1 h]; exact h0
    | succ n ih =>
      intro l h
      have hne : l ≠ [] := by intro e; subst e; simp at h
      rw [← List.dropLast_concat_getLast hne]
      exact h1 _ _ (ih _ (by simp [h]))
  exact fun l => key _ l rfl
theorem nb_be (w n : Nat) : nb (be w n) = n % 256 ^ w := by
  induction w generalizing n with
  | zero => simp [be, nb, Nat.mod_one]
  | succ w ih =>
    rw [be, nb_snoc, ih, byte_of, Nat.pow_succ, Nat.mul_comm (256 ^ w) 256, Nat.mod_mul]
    omega
theorem nb_lt (l : List UInt8) : nb l < 256 ^ l.length := by
  refine rev_ind (P := fun l => nb l < 256 ^ l.length) (by simp [nb]) (fun l b ih => ?_) l
  · show nb (l ++ [b]) < 256 ^ (l ++ [b]).length
    rw [nb_snoc, List.length_append, List.length_singleton, Nat.pow_succ]
    have := b.toNat_lt
    have h2 : (nb l + 1) * 256 ≤ 256 ^ l.length * 256 := Nat.mul_le_mul_right _ ih
    omega
theorem be_nb (l : List UInt8) : be l.length (nb l) = l := by
  refine rev_ind (P := fun l => be l.length (nb l) = l) rfl (fun l b ih => ?_) l
  · show be (l ++ [b]).length (nb (l ++ [b])) = l ++ [b]
    rw [List.length_append, List.length_singleton, be, nb_snoc]
    have hb := b.toNat_lt
    have h1 : (nb l * 256 + b.toNat) / 256 = nb l := by omega
    have h2 : UInt8.ofNat (nb l * 256 + b.toNat) = b := by
      apply UInt8.toNat_inj.1
      rw [byte_of]
      omega
    rw [h1, h2, ih]
/-- byte i of w -/
theorem be_at (w n i : Nat) (h : i < w) : (be w n)[i]'(by rw [be_length]; exact h) = UInt8.ofNat (n / 256 ^ (w - 1 - i)) := by
  induction w generalizing n with
  | zero => omega
  | succ w ih =>
    simp only [be]
    rcases Nat.lt_or_ge i w with g | g
    · rw [List.getElem_append_left (by rw [be_length]; exact g), ih (n / 256) g, Nat.div_div_eq_div_mul]
      have : 256 * 256 ^ (w - 1 - i) = 256 ^ (w + 1 - 1 - i) := by
        rw [show w + 1 - 1 - i = (w - 1 - i) + 1 by omega, Nat.pow_succ, Nat.mul_comm]
      rw [this]
    · obtain rfl : i = w := by omega
      rw [List.getElem_append_right (by rw [be_length]; exact Nat.le_refl _)]
      simp [be_length]
theorem be_take_succ (w n k : Nat) (h : k < w) : (be w n).take (k + 1) = (be w n).take k ++ [UInt8.ofNat (n / 256 ^ (w - 1 - k))] := by
  rw [List.take_succ_eq_append_getElem (by rw [be_length]; exact h), be_at w n k h]
end Go.Proofs.YtgdilkhaopnhaaaGreatDoor
namespace Go.Proofs.YtgdilkhaopnhaaaGreatDoor
open Go.RowKit

set_option maxRecDepth 100000 in
theorem wide_any (W : Nat) (h1 : 1 ≤ W) (h7 : W ≤ 7) (w : World) : Calls Tryz.prog 63 #[.int .i64 W] w fun e w' => e = .returned (.int .i64 W) ∧ w = w' := by
  have e1 : max (W : Int) 1 = W := by omega
  have e2 : min (W : Int) 7 = W := by omega
  go_enter Tryz.func63, Tryz.ntmps63
  go_wp2
  go_ret
  exact ⟨rfl, rfl⟩
theorem shr_byte (n j : Nat) : ((UInt8.ofNat (n / 256 ^ j)).toNat : Int) = (n : Int) / 2 ^ (8 * j) % 256 := by
  have e : (2 : Int) ^ (8 * j) = ((256 ^ j : Nat) : Int) := by rw [Int.pow_mul, Int.natCast_pow]; rfl
  rw [byte_of, e]
  omega
theorem top_of (W n : Nat) (h1 : 1 ≤ W) (h7 : W ≤ 7) (hn : n < 256 ^ W) : ∃ Z : Int, wrap64 (2 ^ (8 * W)) = Z ∧ (n : Int) < Z ∧ Z ≤ 72057594037927936 := by
  obtain rfl | rfl | rfl | rfl | rfl | rfl | rfl : W = 1 ∨ W = 2 ∨ W = 3 ∨ W = 4 ∨ W = 5 ∨ W = 6 ∨ W = 7 := by omega
  all_goals
    refine ⟨_, rfl, ?_⟩
    simp only [Nat.reducePow, Nat.reduceMul, Int.reducePow] at hn ⊢
    unfold wrap64
    omega
set_option maxRecDepth 100000 in
set_option maxHeartbeats 1600000 in
theorem put_any (W n : Nat) (h1 : 1 ≤ W) (h7 : W ≤ 7) (hn : n < 256 ^ W) (base : Nat) (v : Value) (l : List UInt8) (w : World) (hv : OB base w v l) (hbase : base ≤ w.heap.size) (hl : l.length ≤ 1000000) :
    Calls Tryz.prog 67 #[v, .int .i64 W, .int .i64 n] w fun e w' => ∃ v', e = .returned v' ∧ OB base w' v' (l ++ be W n) ∧ Below base w w' := by
  obtain ⟨i0, hi, hz0, hz1, hz2⟩ := info_parts infoByte
  have HV := Lib.hid hv
  obtain ⟨Z, hZ, hnZ, hZb⟩ := top_of W n h1 h7 hn
  clear hv hn
  go_enter Tryz.func67, Tryz.ntmps67
  go_wp2_with fail
  refine (wide_any W h1 h7 _).mono ?_
  rintro e w1 ⟨rfl, rfl⟩
  go_wp2_with fail
  clear hZ hnZ hZb
  go_loopw [0, 20] (fun u q wr => ∃ k : Nat, k ≤ W ∧ q = .int .i64 k ∧ OB base wr u (l ++ (be W n).take k) ∧ Below base w wr) (fun _ q _ => W - (intOf q).toNat)
  case atStart => exact ⟨0, by omega, rfl, by simpa using HV.out, Below.refl _ _⟩
  case round =>
    obtain ⟨k, hk, rfl, ho, hb⟩ := hrel
    have HO := Lib.hid ho
    clear ho
    have hlen : (l ++ (be W n).take k).length = l.length + k := by simp [be_length]; omega
    have HLN := Lib.hid hlen
    have hs := hb.size
    by_cases hlt : k < W
    · clear hlen
      have HK := Lib.hid (be_take_succ W n k hlt)
      have HB := Lib.hid (shr_byte n (W - 1 - k))
      go_wp2_with (first | (at_builtin; refine wpList_append_own _ rfl _ _ 22 rfl base 5 i0 (.int .u8 0) 1 1 Tryz.underlying22 hi hz0 hz1 hz2 rfl (by decide) _ _ _ rfl (HO.out.alloc _) ⟨wr.heap.size, 0, none⟩ 1 1 [.int .u8 ((n : Int) / 2 ^ (8 * (W - 1 - k)) % 256)] rfl rfl (cells_new wr [.int .u8 ((n : Int) / 2 ^ (8 * (W - 1 - k)) % 256)] _) ?c1 ?c2 ?c3 ?c4 ?_) | go_in)
      case c1 => simp [Value.oneCell']
      case c2 => have := HLN.out; unfold maxLen; omega
      case c3 => have := HLN.out; omega
      case c4 => simp; omega
      intro v1 w1 ho hg hn
      have HO1 : Hid (OB base w1 v1 (l ++ (be W n).take (k + 1))) := by
        refine OB.cast ho (by rw [HK.out]; simp; omega) (by rw [HK.out]; simp [bv, ← HB.out])
      have hb1 : Below base w w1 := (hb.alloc (by omega) _).grown hg (by simp; omega) fun j hj => (HO.out.lt j hj).1
      clear ho hg hn
      go_wp2
      go_roundw
      case rel => exact ⟨k + 1, by omega, by go_num, HO1.out, hb1⟩
      case measure => simp [intOf]; omega
    · obtain rfl : k = W := by omega
      have HT : Hid ((be k n).take k = be k n) := by
        show List.take k (be k n) = be k n
        exact List.take_of_length_le (by rw [be_length]; exact Nat.le_refl _)
      go_wp2
      go_ret
      have := HO.out
      rw [HT.out] at this
      exact ⟨_, rfl, this, hb⟩

set_option maxRecDepth 100000 in
theorem num_any (W n : Nat) (h1 : 1 ≤ W) (h7 : W ≤ 7) (hn : n < 256 ^ W) (A : Nat → Prop) (v : Value) (l : List UInt8) (w : World) (hv : RB A w v l) (hl : l.length ≤ 1000000) :
    Calls Tryz.prog 43 #[v, .int .i64 W, .int .i64 n] w (NewB w (l ++ be W n)) := by
  have HV := Lib.hid hv
  have HN := Lib.hid hn
  clear hv hn
  go_enter Tryz.func43, Tryz.ntmps43
  go_wp2_with fail
  refine (cloneB_any A _ l _ hl HV.out).mono ?_
  rintro e w1 ⟨v1, rfl, ho, hb1⟩
  have HO := Lib.hid ho
  clear ho
  go_wp2_with fail
  refine (put_any W n h1 h7 HN.out w.heap.size _ l _ HO.out hb1.size hl).mono ?_
  rintro e w2 ⟨v2, rfl, ho, hb2⟩
  have HO2 := Lib.hid ho
  clear ho
  go_wp2
  go_ret
  exact ⟨_, rfl, HO2.out, hb1.trans hb2⟩
theorem RB.cutAll {A : Nat → Prop} {w : World} {a : Option Addr} {c : Nat} {l : List UInt8} (h : RB A w (.slice a l.length c) l) : l.length ≤ c := by
  rcases h.2 with ⟨e, h0⟩ | ⟨b, off, cap, e, hb, hA, hc, _⟩
  · omega
  · simp only [Value.slice.injEq] at e
    omega
set_option maxRecDepth 100000 in
set_option maxHeartbeats 800000 in
theorem blob_any (A B : Nat → Prop) (v x : Value) (l m : List UInt8) (w : World) (hv : RB A w v l) (hx : RB B w x m) (hl : l.length ≤ 500000) (hm : m.length ≤ 65535) :
    Calls Tryz.prog 42 #[v, x] w (NewB w (l ++ be 2 m.length ++ m)) := by
  obtain ⟨i0, hi, hz0, hz1, hz2⟩ := info_parts infoByte
  have HV := Lib.hid hv
  obtain ⟨xa, xc, rfl⟩ := hx.shape
  have hxc := hx.cutAll
  have HX := Lib.hid hx
  have hmn : min (m.length : Int) 65535 = m.length := by omega
  clear hv hx
  go_enter Tryz.func42, Tryz.ntmps42
  go_wp2_with fail
  refine (cloneB_any A _ l _ (by omega) HV.out).mono ?_
  rintro e w1 ⟨v1, rfl, ho, hb1⟩
  have HO := Lib.hid ho
  clear ho
  go_wp2_with fail
  refine (put_any 2 m.length (by omega) (by omega) (by omega) w.heap.size _ l _ HO.out hb1.size (by omega)).mono ?_
  rintro e w2 ⟨v2, rfl, ho, hb2⟩
  have HO2 := Lib.hid ho
  have hb12 := hb1.trans hb2
  have hsz := hb12.size
  clear ho
  go_wp2_with (first | (at_builtin; refine wpList_append_sl rfl _ _ 22 rfl w.heap.size 5 i0 (.int .u8 0) 1 1 Tryz.underlying22 hi hz0 hz1 hz2 rfl (by decide) _ _ _ rfl HO2.out B (.slice xa m.length xc) m.length (m.map bv) rfl ?c1 (one_bytes m) ?c2 ?c3 ?c4 ?_) | go_in)
  case c1 => exact SlA.ext HX.out hb12
  case c2 => simp [be_length]; unfold maxLen; omega
  case c3 => simp [be_length]; omega
  case c4 => omega
  intro v3 w3 ho hg
  have HO3 : Hid (OB w.heap.size w3 v3 (l ++ be 2 m.length ++ m)) := OB.cast ho (by simp; omega) (by simp)
  have hb3 : Below w.heap.size w w3 := hb12.grown hg hsz fun j hj => (HO2.out.lt j hj).1
  clear ho hg
  go_wp2
  go_ret
  exact ⟨_, rfl, HO3.out, hb3⟩
end Go.Proofs.YtgdilkhaopnhaaaGreatDoor
namespace Go.Proofs.YtgdilkhaopnhaaaGreatDoor
open Go.RowKit Go.WideShapes

theorem OB.shape3 {base : Nat} {w : World} {v : Value} {l : List UInt8} (h : OB base w v l) : ∃ a n c, v = .slice a n c := by
  obtain ⟨a, c, rfl⟩ := h.rb.shape
  exact ⟨_, _, _, rfl⟩
theorem below_call {w W W' : World} (h : Below w.heap.size w W) (hb : Below W.heap.size W W') : Below w.heap.size w W' := h.trans (hb.mono h.size)
theorem below_new {w W : World} (h : Below w.heap.size w W) (o : Obj) : Below w.heap.size w (W.alloc o) := h.alloc h.size o
theorem blkk {W W' : World} {k : Nat} {o : Obj} (hb : Below W.heap.size W W') (h : W.heap[k]? = some o) : W'.heap[k]? = some o := (hb.block k (Array.getElem?_eq_some_iff.1 h).1).trans h
theorem blka {W : World} {k : Nat} {o : Obj} (h : W.heap[k]? = some o) (o' : Obj) : (W.alloc o').heap[k]? = some o := (Below.heap_alloc _ _ _ (Array.getElem?_eq_some_iff.1 h).1).trans h
end Go.Proofs.YtgdilkhaopnhaaaGreatDoor
namespace Go.Proofs.YtgdilkhaopnhaaaGreatDoor
open Go.RowKit Go.WideShapes

/-- a row of the call's own; what its data lead to lies in blocks from base on, apart from the row's own -/
structure EnR {α : Type} (E : Enc α) (t : TypeId) (base : Nat) (w : World) (v : Value) (l : List α) : Prop where
  mk ::
  ex : ∃ cs : List (List Value), cs.length = l.length ∧ (∀ (i : Nat) (x : α) (c : List Value), l[i]? = some x → cs[i]? = some c → E.rd (fun b => base ≤ b ∧ v.ownBlock ≠ some b) w c x) ∧ w.ownsRow base t E.size v l.length cs.flatten
section
variable {α : Type} {E : Enc α} {t : TypeId} {base : Nat} {w w' : World} {v v' : Value} {l : List α}
theorem EnR.nil (E : Enc α) (t : TypeId) (base : Nat) (w : World) : EnR E t base w (.slice none 0 0) [] := ⟨⟨[], rfl, fun i x c h => by simp at h, World.ownsRow_nil _ _ _ _⟩⟩
theorem owns_same {n size : Nat} {e : TypeId} {xs : List Value} (h : w.ownsRow base e size v n xs) (hs : Same (fun b => base ≤ b) w w') : w'.ownsRow base e size v n xs := by
  refine ⟨h.1, h.2.imp id ?_⟩
  rintro ⟨g, cap, cur, rfl, h1, h2, h3⟩
  exact ⟨g, cap, cur, rfl, h1, by rw [hs.block g h1 (Array.getElem?_eq_some_iff.1 h2).1]; exact h2, h3⟩
theorem EnR.same (h : EnR E t base w v l) (hs : Same (fun b => base ≤ b) w w') : EnR E t base w' v l := by
  obtain ⟨cs, h1, h2, h3⟩ := h.ex
  exact ⟨⟨cs, h1, fun i x c hi hc => E.mono (h2 i x c hi hc) (hs.weak fun b hb => hb.1), owns_same h3 hs⟩⟩
theorem EnR.same2 (h : EnR E t base w v l) (hs : Same (fun b => base ≤ b ∧ b < w.heap.size) w w') : EnR E t base w' v l := by
  obtain ⟨cs, h1, h2, h3⟩ := h.ex
  refine ⟨⟨cs, h1, fun i x c hi hc => ?_, ?_⟩⟩
  · exact E.weak (E.mono (E.weak (h2 i x c hi hc) (A' := fun b => (base ≤ b ∧ v.ownBlock ≠ some b) ∧ b < w.heap.size) fun b hl hb => ⟨hb, hl⟩) (hs.weak fun b hb => ⟨hb.1.1, hb.2⟩)) fun b _ hb => hb.1
  · refine ⟨h3.1, h3.2.imp id ?_⟩
    rintro ⟨g, cap, cur, rfl, h4, h5, h6⟩
    exact ⟨g, cap, cur, rfl, h4, by rw [hs.block g ⟨h4, (Array.getElem?_eq_some_iff.1 h5).1⟩ (Array.getElem?_eq_some_iff.1 h5).1]; exact h5, h6⟩
theorem EnR.ext (h : EnR E t base w v l) (hb : Below w.heap.size w w') : EnR E t base w' v l := h.same (Same.of_ext hb)
theorem EnR.shape (h : EnR E t base w v l) : ∃ a c, v = .slice a l.length c := by
  obtain ⟨cs, h1, h2, h3⟩ := h.ex
  exact owns_shape h3
theorem EnR.sle (h : EnR E t base w v l) : SlE E (fun b => base ≤ b) w v l := by
  obtain ⟨cs, h1, h2, h3⟩ := h.ex
  exact SlE.of_flat h1 (fun i x c hi hc => E.weak (h2 i x c hi hc) fun b _ hb => hb.1) (SlA.of_owns h3)
theorem EnR.lt (h : EnR E t base w v l) : ∀ g, v.ownBlock = some g → base ≤ g ∧ g < w.heap.size := by
  obtain ⟨cs, h1, h2, h3⟩ := h.ex
  exact fun g hg => h3.lt g hg
end
section
variable {P : Program} {ops : Array Oper} {rest : List Oper} {o : Oper} {a : Act} {Q : Exit → Act → World → Prop}
/-- 'append(out, x)': out of the call's own, x one datum that leads to the call's own memory -/
theorem wpList_pushR {α : Type} (W : World) (hgd : o.guard = none) (s x : Operand) (t : TypeId) (ho : o.op = .call { callee := .builtin .append, args := #[s, x], argTypes := #[t, t] })
    (E : Enc α) (base : Nat) (e : TypeId) (i : TypeInfo) (z : Value) (bytes : Nat) (ht : P.underlying t = some (.slice e)) (hi : P.info? e = some i) (hz : i.zero = some z)
    (hsize : i.size = E.size) (hby : i.bytes = bytes) (hzs : z.cells.size = E.size) (hsz : 0 < E.size) (hbb : bytes ≤ 1000)
    (v : Value) (l : List α) (hs : a.eval s = v) (hown : EnR E e base W v l) (c : List Value) (tt : TypeId) (y : α)
    (hx : a.eval x = .slice (some ⟨W.heap.size, 0, none⟩) 1 1) (hrd : E.rd (fun b => base ≤ b ∧ v.ownBlock ≠ some b) W c y)
    (hl : l.length ≤ 1000000) (hbase : base ≤ W.heap.size)
    (h : ∀ v' w', EnR E e base w' v' (l ++ [y]) → Below base W w' → wpList P ops Q rest (a.put o.dst v') w') : wpList P ops Q (o :: rest) a (W.alloc (.cells c.toArray tt)) := by
  obtain ⟨cs, h1, h2, h3⟩ := hown.ex
  have hal : Below W.heap.size W (W.alloc (.cells c.toArray tt)) := (Below.refl _ _).alloc (Nat.le_refl _) _
  refine wpList_append_own_at _ hgd s x t ho base e i z E.size bytes ht hi hz hsize hby hzs hsz v l.length cs.flatten hs (owns_ext h3 hal) ⟨W.heap.size, 0, none⟩ 1 1 c hx (by rw [Nat.one_mul]; exact E.len hrd) (cells_new W c tt) (E.one hrd) (by unfold maxLen; omega) ?_ (Nat.le_trans hbase hal.size) ?_
  · exact Nat.le_trans (Nat.mul_le_mul (show l.length + 1 ≤ 1000001 by omega) hbb) (by decide)
  · intro v' w' h4 h5 _ h6
    have hb : Below base W w' := ((Below.refl base W).alloc hbase _).grown h5 (by simp; omega) fun j hj => (h3.lt j hj).1
    have hsame : Same (fun b => base ≤ b ∧ v.ownBlock ≠ some b) W w' := by
      refine ⟨hb.size, fun b hb hl => ?_⟩
      rw [h5.block b (by simp; omega) fun e => hb.2 e.symm, Below.heap_alloc _ _ _ hl]
    have hmv : ∀ b, b < W.heap.size → (base ≤ b ∧ v.ownBlock ≠ some b) → (base ≤ b ∧ v'.ownBlock ≠ some b) := fun b hl hb => by
      refine ⟨hb.1, ?_⟩
      rcases h6 with e | e
      · rw [e]; exact hb.2
      · rw [e]
        simp only [World.size_alloc, ne_eq, Option.some.injEq]
        omega
    have key : ∀ c y, E.rd (fun b => base ≤ b ∧ v.ownBlock ≠ some b) W c y → E.rd (fun b => base ≤ b ∧ v'.ownBlock ≠ some b) w' c y := fun c y h =>
      E.weak (E.mono (E.weak h (A' := fun b => (base ≤ b ∧ v.ownBlock ≠ some b) ∧ b < W.heap.size) fun b hl hb => ⟨hb, hl⟩) (hsame.weak fun b hb => hb.1)) fun b _ hb => hmv b hb.2 hb.1
    refine h v' w' ⟨⟨cs ++ [c], by simp [h1], fun i y d hi hd => ?_, by simpa using h4⟩⟩ hb
    by_cases hlt : i < l.length
    · rw [List.getElem?_append_left hlt] at hi
      rw [List.getElem?_append_left (by omega)] at hd
      exact key _ _ (h2 i y d hi hd)
    · have hil := (List.getElem?_eq_some_iff.1 hi).1
      simp only [List.length_append, List.length_singleton] at hil
      have : i = l.length := by omega
      subst this
      rw [List.getElem?_append_right (by omega)] at hi hd
      simp [h1] at hi hd
      subst hi hd
      exact key _ _ hrd
end
end Go.Proofs.YtgdilkhaopnhaaaGreatDoor
namespace Go.Proofs.YtgdilkhaopnhaaaGreatDoor

namespace Crc
def poly : BitVec 32 := 2197175160#32
def s1 (r : BitVec 32) : BitVec 32 := if r.getLsbD 0 then (r >>> 1) ^^^ poly else r >>> 1
def s4 (r : BitVec 32) : BitVec 32 := s1 (s1 (s1 (s1 r)))
def tab : List Nat := [0, 274646895, 549293790, 820201905, 1098587580, 1361435347, 1640403810, 1905808397, 2197175160, 2460548119, 2722870694, 2987750089, 3280807620, 3553878443, 3811616794, 4084100981]
theorem s1_xor (a b : BitVec 32) : s1 (a ^^^ b) = s1 a ^^^ s1 b := by
  unfold s1
  rw [BitVec.getLsbD_xor, BitVec.ushiftRight_xor_distrib]
  cases a.getLsbD 0 <;> cases b.getLsbD 0 <;> simp
  · rw [BitVec.xor_assoc]
  · rw [BitVec.xor_assoc, BitVec.xor_assoc, BitVec.xor_comm (b >>> 1)]
  · rw [BitVec.xor_assoc, ← BitVec.xor_assoc poly, BitVec.xor_comm poly, BitVec.xor_assoc (b >>> 1), BitVec.xor_self, BitVec.xor_zero]
theorem s4_xor (a b : BitVec 32) : s4 (a ^^^ b) = s4 a ^^^ s4 b := by unfold s4; rw [s1_xor, s1_xor, s1_xor, s1_xor]
theorem s1_even {r : BitVec 32} (h : r.getLsbD 0 = false) : s1 r = r >>> 1 := by unfold s1; rw [h]; rfl
theorem s4_high (r : BitVec 32) (h : ∀ i, i < 4 → r.getLsbD i = false) : s4 r = r >>> 4 := by
  have k : ∀ (j : Nat), j < 4 → (r >>> j).getLsbD 0 = false := fun j hj => by rw [BitVec.getLsbD_ushiftRight]; exact h _ (by omega)
  have e1 : s1 r = r >>> 1 := s1_even (h 0 (by omega))
  have e2 : s1 (r >>> 1) = r >>> 2 := by rw [s1_even (k 1 (by omega)), ← BitVec.shiftRight_add]
  have e3 : s1 (r >>> 2) = r >>> 3 := by rw [s1_even (k 2 (by omega)), ← BitVec.shiftRight_add]
  have e4 : s1 (r >>> 3) = r >>> 4 := by rw [s1_even (k 3 (by omega)), ← BitVec.shiftRight_add]
  unfold s4
  rw [e1, e2, e3, e4]
theorem tab_s4 : ∀ t : Fin 16, s4 (BitVec.ofNat 32 t.val) = BitVec.ofNat 32 (tab.getD t.val 0) := by decide +kernel
theorem split (r : BitVec 32) : r = (r >>> 4 <<< 4) ^^^ BitVec.ofNat 32 (r.toNat % 16) := by
  apply BitVec.eq_of_getLsbD_eq
  intro i hi
  have e : (BitVec.ofNat 32 (r.toNat % 16)).getLsbD i = (decide (i < 4) && r.getLsbD i) := by
    rw [BitVec.getLsbD_ofNat]
    have : r.toNat % 16 = r.toNat % 2 ^ 4 := rfl
    rw [this, Nat.testBit_mod_two_pow]
    simp only [hi, decide_true, Bool.true_and]
    rfl
  rw [BitVec.getLsbD_xor, BitVec.getLsbD_shiftLeft, BitVec.getLsbD_ushiftRight, e]
  by_cases h : i < 4
  · simp [h]
  · simp [h, hi, show 4 + (i - 4) = i by omega]
theorem high_low (r : BitVec 32) : ∀ i, i < 4 → (r >>> 4 <<< 4).getLsbD i = false := fun i hi => by rw [BitVec.getLsbD_shiftLeft]; simp [hi]
theorem high_shift (r : BitVec 32) : (r >>> 4 <<< 4) >>> 4 = r >>> 4 := by
  apply BitVec.eq_of_getLsbD_eq
  intro i hi
  rw [BitVec.getLsbD_ushiftRight, BitVec.getLsbD_shiftLeft, BitVec.getLsbD_ushiftRight]
  by_cases h : 4 + i < 32
  · simp [h]
  · have : r.getLsbD (4 + i) = false := BitVec.getLsbD_of_ge r _ (by omega)
    simp [h, this]
/-- four single steps are one look into the table -/
theorem nib (r : BitVec 32) : (r >>> 4) ^^^ BitVec.ofNat 32 (tab.getD (r.toNat % 16) 0) = s4 r := by
  have h := tab_s4 ⟨r.toNat % 16, Nat.mod_lt _ (by decide)⟩
  conv => rhs; rw [split r]
  rw [s4_xor, s4_high _ (high_low r), high_shift, h]

theorem s1_inj {a b : BitVec 32} (h : s1 a = s1 b) : a = b := by
  have top : ∀ r : BitVec 32, (s1 r).getLsbD 31 = r.getLsbD 0 := fun r => by
    unfold s1
    have hz : (r >>> 1).getLsbD 31 = false := by rw [BitVec.getLsbD_ushiftRight]; exact BitVec.getLsbD_of_ge r _ (by omega)
    cases h0 : r.getLsbD 0
    · simp only [Bool.false_eq_true, if_false]; exact hz
    · simp only [if_true]
      rw [BitVec.getLsbD_xor, hz]
      decide
  have h0 : a.getLsbD 0 = b.getLsbD 0 := by rw [← top, ← top, h]
  have hs : a >>> 1 = b >>> 1 := by
    unfold s1 at h
    rw [h0] at h
    cases hb : b.getLsbD 0
    · rw [hb] at h; simpa using h
    · rw [hb] at h
      simp only [if_true] at h
      have h2 := congrArg (· ^^^ poly) h
      simpa [BitVec.xor_assoc] using h2
  apply BitVec.eq_of_getLsbD_eq
  intro i hi
  cases i with
  | zero => exact h0
  | succ i =>
    have := congrArg (fun x => x.getLsbD i) hs
    simp only [BitVec.getLsbD_ushiftRight] at this
    rwa [Nat.add_comm] at this
theorem s4_inj {a b : BitVec 32} (h : s4 a = s4 b) : a = b := s1_inj (s1_inj (s1_inj (s1_inj h)))

/-- what becomes of the register by one byte -/
def stepB (r : BitVec 32) (c : UInt8) : BitVec 32 := s4 (s4 (r ^^^ BitVec.ofNat 32 c.toNat))
def reg (r : BitVec 32) (l : List UInt8) : BitVec 32 := l.foldl stepB r
def sum (l : List UInt8) : BitVec 32 := ~~~ reg (BitVec.allOnes 32) l
theorem xor_right_inj {a b c : BitVec 32} (h : a ^^^ c = b ^^^ c) : a = b := by
  have := congrArg (· ^^^ c) h
  simpa [BitVec.xor_assoc] using this
theorem step_inj {a b : BitVec 32} {c : UInt8} (h : stepB a c = stepB b c) : a = b := xor_right_inj (s4_inj (s4_inj h))
theorem step_byte {r : BitVec 32} {c d : UInt8} (h : stepB r c = stepB r d) : c = d := by
  have h1 := s4_inj (s4_inj h)
  rw [BitVec.xor_comm, BitVec.xor_comm r] at h1
  have h2 := xor_right_inj h1
  have h3 := congrArg BitVec.toNat h2
  simp only [BitVec.toNat_ofNat] at h3
  have hc : c.toNat < 256 := c.toNat_lt
  have hd : d.toNat < 256 := d.toNat_lt
  have : c.toNat = d.toNat := by omega
  exact UInt8.toNat_inj.1 this
theorem reg_inj {l : List UInt8} : ∀ {a b : BitVec 32}, reg a l = reg b l → a = b := by
  induction l with
  | nil => intro a b h; exact h
  | cons c l ih => intro a b h; exact step_inj (ih h)
/-- one byte that turns turns the sum -/
theorem sum_turn {a b : List UInt8} {c d : UInt8} (h : sum (a ++ c :: b) = sum (a ++ d :: b)) : c = d := by
  have h1 : reg (BitVec.allOnes 32) (a ++ c :: b) = reg (BitVec.allOnes 32) (a ++ d :: b) := by
    have := congrArg (fun x => ~~~ x) h
    simpa [sum] using this
  unfold reg at h1
  simp only [List.foldl_append, List.foldl_cons] at h1
  exact step_byte (reg_inj (l := b) h1)
end Crc
end Go.Proofs.YtgdilkhaopnhaaaGreatDoor
namespace Go.Proofs.YtgdilkhaopnhaaaGreatDoor

def le4 (s : Nat) : List UInt8 := [UInt8.ofNat s, UInt8.ofNat (s / 256), UInt8.ofNat (s / 65536), UInt8.ofNat (s / 16777216)]
def tailB (l : List UInt8) : List UInt8 := le4 (Crc.sum l).toNat
def hdr (k n : Nat) : List UInt8 := 90 :: UInt8.ofNat k :: be 2 n
def frm (k : Nat) (b : List UInt8) : List UInt8 := hdr k b.length ++ tailB (hdr k b.length) ++ b ++ tailB b
def byteAt (l : List UInt8) (i : Nat) : Nat := (l.getD i 0).toNat
structure NextR where
  kind : Nat
  body : List UInt8
  rest : List UInt8
  e : Nat
def nextB (b : List UInt8) : NextR :=
  if b.length < 8 then ⟨0, [], [], 10⟩
  else if byteAt b 0 ≠ 90 then ⟨0, [], [], 11⟩
  else if tailB (b.take 4) ≠ (b.drop 4).take 4 then ⟨0, [], [], 20⟩
  else if 8192 < byteAt b 2 * 256 + byteAt b 3 then ⟨0, [], [], 11⟩
  else if b.length < byteAt b 2 * 256 + byteAt b 3 + 12 then ⟨0, [], [], 10⟩
  else if tailB ((b.drop 8).take (byteAt b 2 * 256 + byteAt b 3)) ≠ (b.drop (8 + (byteAt b 2 * 256 + byteAt b 3))).take 4 then ⟨0, [], [], 20⟩
  else ⟨byteAt b 1, (b.drop 8).take (byteAt b 2 * 256 + byteAt b 3), b.drop (8 + (byteAt b 2 * 256 + byteAt b 3) + 4), 0⟩

theorem le4_length (s : Nat) : (le4 s).length = 4 := rfl
theorem tailB_length (l : List UInt8) : (tailB l).length = 4 := rfl
theorem hdr_length (k n : Nat) : (hdr k n).length = 4 := by simp [hdr, be_length]
theorem frm_length (k : Nat) (b : List UInt8) : (frm k b).length = b.length + 12 := by
  simp only [frm, List.length_append, hdr_length, tailB_length]; omega
theorem le4_inj {s t : Nat} (hs : s < 4294967296) (ht : t < 4294967296) (h : le4 s = le4 t) : s = t := by
  simp only [le4, List.cons.injEq, and_true] at h
  have e : ∀ a b : Nat, UInt8.ofNat a = UInt8.ofNat b → a % 256 = b % 256 := fun a b hh => by
    have := congrArg UInt8.toNat hh
    simpa using this
  have h0 := e _ _ h.1
  have h1 := e _ _ h.2.1
  have h2 := e _ _ h.2.2.1
  have h3 := e _ _ h.2.2.2
  omega
theorem tailB_inj {a b : List UInt8} (h : tailB a = tailB b) : Crc.sum a = Crc.sum b :=
  BitVec.eq_of_toNat_eq (le4_inj (Crc.sum a).isLt (Crc.sum b).isLt h)
theorem be2 (n : Nat) : be 2 n = [UInt8.ofNat (n / 256), UInt8.ofNat n] := rfl
theorem hdr_eq (k n : Nat) : hdr k n = [90, UInt8.ofNat k, UInt8.ofNat (n / 256), UInt8.ofNat n] := rfl

theorem next_frm_gen (k : Nat) (b r : List UInt8) (hk : k < 256) (hb : b.length ≤ 8192) : nextB (frm k b ++ r) = ⟨k, b, r, 0⟩ := by
  have hn : byteAt (frm k b ++ r) 2 * 256 + byteAt (frm k b ++ r) 3 = b.length := by
    simp [byteAt, frm, hdr_eq]
    omega
  have h0 : byteAt (frm k b ++ r) 0 = 90 := by simp [byteAt, frm, hdr_eq]
  have h1 : byteAt (frm k b ++ r) 1 = k := by simp [byteAt, frm, hdr_eq]; omega
  have hl : (frm k b ++ r).length = b.length + 12 + r.length := by simp [frm_length]
  have t4 : (frm k b ++ r).take 4 = hdr k b.length := by
    simp only [frm, List.append_assoc]
    exact List.take_left' (hdr_length k _)
  have d4 : (frm k b ++ r).drop 4 = tailB (hdr k b.length) ++ (b ++ (tailB b ++ r)) := by
    simp only [frm, List.append_assoc]
    exact List.drop_left' (hdr_length k _)
  have t44 : ((frm k b ++ r).drop 4).take 4 = tailB (hdr k b.length) := by
    rw [d4]
    exact List.take_left' (tailB_length _)
  have d8 : (frm k b ++ r).drop 8 = b ++ (tailB b ++ r) := by
    rw [show (8 : Nat) = 4 + 4 from rfl, ← List.drop_drop, d4]
    exact List.drop_left' (tailB_length _)
  have db : (frm k b ++ r).drop (8 + b.length) = tailB b ++ r := by
    rw [← List.drop_drop, d8]
    exact List.drop_left' rfl
  have db4 : (frm k b ++ r).drop (8 + b.length + 4) = r := by
    rw [← List.drop_drop, db]
    exact List.drop_left' (tailB_length _)
  unfold nextB
  rw [hn, h0, h1, hl, t4, t44, d8, db, db4, if_neg (by omega), if_neg (by omega), if_neg (by simp), if_neg (by omega), if_neg (by omega), if_neg]
  · rw [List.take_left' rfl]
  · rw [List.take_left' rfl, List.take_left' (tailB_length _)]
    simp
theorem next_frm (k : Nat) (b : List UInt8) (hk : k < 256) (hb : b.length ≤ 8192) : nextB (frm k b) = ⟨k, b, [], 0⟩ := by
  have := next_frm_gen k b [] hk hb
  simpa using this

/-! A reader of bytes: what is left, and the first error (0: none). -/
structure Rd where
  l : List UInt8
  e : Nat
namespace Rd
def take (n : Nat) (r : Rd) : List UInt8 × Rd := if r.e ≠ 0 then ([], r) else if r.l.length < n then ([], ⟨[], 10⟩) else (r.l.take n, ⟨r.l.drop n, 0⟩)
def num (w : Nat) (r : Rd) : Nat × Rd := (nb (r.take w).1, (r.take w).2)
def fail (x : Nat) (r : Rd) : Rd := if r.e = 0 ∧ x ≠ 0 then ⟨[], x⟩ else r
def blob (most : Nat) (r : Rd) : List UInt8 × Rd :=
  if most < (r.num 2).1 then ([], (r.num 2).2.fail 11) else (r.num 2).2.take (r.num 2).1
def fin (r : Rd) : Rd := if 0 < r.l.length then r.fail 11 else r
/-- an error leaves no bytes -/
def ok (r : Rd) : Prop := r.e ≠ 0 → r.l = []
theorem ok_mk (l : List UInt8) : ok ⟨l, 0⟩ := fun h => absurd rfl h
theorem take_ok {r : Rd} (h : r.ok) (n : Nat) : (r.take n).2.ok := by
  unfold take
  split
  · exact h
  · split
    · exact fun _ => rfl
    · exact fun h => absurd rfl h
theorem fail_ok {r : Rd} (h : r.ok) (x : Nat) : (r.fail x).ok := by
  unfold fail
  split
  · exact fun _ => rfl
  · exact h
theorem num_ok {r : Rd} (h : r.ok) (w : Nat) : (r.num w).2.ok := take_ok h w
theorem blob_ok {r : Rd} (h : r.ok) (m : Nat) : (r.blob m).2.ok := by
  unfold blob
  split
  · exact fail_ok (num_ok h 2) 11
  · exact take_ok (num_ok h 2) _
theorem take_len (r : Rd) (n : Nat) : (r.take n).1.length ≤ r.l.length ∧ (r.take n).1.length ≤ n ∧ (r.take n).2.l.length ≤ r.l.length := by
  unfold take
  split
  · simp
  · split
    · simp
    · simp
      omega
theorem num_len (r : Rd) (w : Nat) : (r.num w).2.l.length ≤ r.l.length := (take_len r w).2.2
theorem fail_len (r : Rd) (x : Nat) : (r.fail x).l.length ≤ r.l.length := by
  unfold fail
  split
  · simp
  · exact Nat.le_refl _
theorem num_lt (r : Rd) (w : Nat) : (r.num w).1 < 256 ^ w := by
  have h := nb_lt (r.take w).1
  exact Nat.lt_of_lt_of_le h (Nat.pow_le_pow_right (by decide) (take_len r w).2.1)
theorem blob_len (r : Rd) (m : Nat) : (r.blob m).1.length ≤ m ∧ (r.blob m).2.l.length ≤ r.l.length := by
  unfold blob
  split
  · exact ⟨by simp, Nat.le_trans (fail_len _ _) (num_len r 2)⟩
  · have h := take_len (r.num 2).2 (r.num 2).1
    exact ⟨by omega, Nat.le_trans h.2.2 (num_len r 2)⟩
theorem num_be (w n : Nat) (l : List UInt8) (hn : n < 256 ^ w) : num w ⟨be w n ++ l, 0⟩ = (n, ⟨l, 0⟩) := by
  unfold num take
  have hl : ¬ (be w n ++ l).length < w := by simp [be_length]
  simp only [ne_eq, not_true_eq_false, if_false, hl]
  rw [List.take_left' (be_length w n), List.drop_left' (be_length w n), nb_be, Nat.mod_eq_of_lt hn]
theorem blob_be (m : Nat) (x l : List UInt8) (hx : x.length ≤ m) (hm : x.length < 65536) : blob m ⟨be 2 x.length ++ (x ++ l), 0⟩ = (x, ⟨l, 0⟩) := by
  unfold blob
  rw [num_be 2 _ _ (by simpa using hm)]
  rw [if_neg (by simpa using hx)]
  unfold take
  simp
end Rd
end Go.Proofs.YtgdilkhaopnhaaaGreatDoor
namespace Go.Proofs.YtgdilkhaopnhaaaGreatDoor
open Go.RowKit

theorem RB.cell {A : Nat → Prop} {w : World} {a : Option Addr} {c : Nat} {l : List UInt8} (h : RB A w (.slice a l.length c) l) {k : Nat} (hk : k < l.length) : ∃ b off, a = some ⟨b, off, none⟩ ∧ b < w.heap.size ∧ A b ∧ w.cell? ⟨b, off + k, none⟩ = some (.int .u8 (l[k].toNat : Int)) := by
  obtain ⟨b, off, rfl, h1, h2, h3, h4⟩ := SlA.at h (by omega)
  refine ⟨b, off, rfl, h1, h2, ?_⟩
  rw [h4 k (by omega), List.getElem?_map, List.getElem?_eq_getElem hk]
  rfl
theorem take_ext {l m : List UInt8} {k : Nat} (hl : k < l.length) (hm : k < m.length) (h : l.take k = m.take k) (e : l[k] = m[k]) : l.take (k + 1) = m.take (k + 1) := by
  rw [List.take_succ_eq_append_getElem hl, List.take_succ_eq_append_getElem hm, h, e]
theorem ne_at {l m : List UInt8} {k : Nat} (hl : k < l.length) (hm : k < m.length) (e : l[k] ≠ m[k]) : decide (l = m) = false := by
  rw [decide_eq_false_iff_not]
  rintro rfl
  exact e rfl
theorem RB.take {A : Nat → Prop} {w : World} {b off c n : Nat} {l : List UInt8} (h : RB A w (.slice (some ⟨b, off, none⟩) l.length c) l) (hn : n ≤ l.length) (c' : Nat) (hc : n ≤ c') (hz : 0 < l.length := by first | omega | (simp; omega)) : RB A w (.slice (some ⟨b, off, none⟩) n c') (l.take n) := by
  have hl : (l.take n).length = n := by simp; omega
  rcases h.2 with ⟨⟨a0, e⟩, h0⟩ | ⟨b1, o1, c1, e, hb, hA, h1, hx⟩
  · simp only [Value.slice.injEq] at e
    omega
  · simp only [Value.slice.injEq, Option.some.injEq, Addr.mk.injEq] at e
    obtain ⟨⟨rfl, rfl, -⟩, -, rfl⟩ := e
    refine ⟨by simp, .inr ⟨b, off, c', by rw [hl], hb, hA, by rw [hl]; exact hc, fun j hj => ?_⟩⟩
    rw [hl] at hj
    rw [hx j (by omega), List.map_take, List.getElem?_take, if_pos (by omega)]
theorem RB.drop {A : Nat → Prop} {w : World} {b off c n : Nat} {l : List UInt8} (h : RB A w (.slice (some ⟨b, off, none⟩) l.length c) l) (hn : n ≤ l.length) (c' : Nat) (hc : l.length - n ≤ c') (hz : 0 < l.length := by first | omega | (simp; omega)) : RB A w (.slice (some ⟨b, off + n, none⟩) (l.length - n) c') (l.drop n) := by
  have hl : (l.drop n).length = l.length - n := by simp
  rcases h.2 with ⟨⟨a0, e⟩, h0⟩ | ⟨b1, o1, c1, e, hb, hA, h1, hx⟩
  · simp only [Value.slice.injEq] at e
    omega
  · simp only [Value.slice.injEq, Option.some.injEq, Addr.mk.injEq] at e
    obtain ⟨⟨rfl, rfl, -⟩, -, rfl⟩ := e
    refine ⟨by simp, .inr ⟨b, off + n, c', by rw [hl], hb, hA, by rw [hl]; exact hc, fun j hj => ?_⟩⟩
    rw [hl] at hj
    rw [Nat.add_assoc, hx (n + j) (by omega), List.map_drop, List.getElem?_drop]
theorem RB.empty_at {A : Nat → Prop} {w : World} {b off c : Nat} (hb : b < w.heap.size) (hA : A b) : RB A w (.slice (some ⟨b, off, none⟩) 0 c) [] :=
  ⟨by simp, .inr ⟨b, off, c, rfl, hb, hA, by simp, fun j hj => by simp at hj⟩⟩
theorem RB.drop' {A : Nat → Prop} {w : World} {b off c n : Nat} {l : List UInt8} (h : RB A w (.slice (some ⟨b, off, none⟩) l.length c) l) (hn : n ≤ l.length) (c' : Nat) (hc : l.length - n ≤ c') (hb : b < w.heap.size) (hA : A b) : RB A w (.slice (some ⟨b, off + n, none⟩) (l.length - n) c') (l.drop n) := by
  rcases Nat.eq_zero_or_pos l.length with h0 | h0
  · obtain rfl := List.eq_nil_of_length_eq_zero h0
    simp only [List.length_nil, List.drop_nil, Nat.zero_sub]
    exact RB.empty_at hb hA
  · exact RB.drop h hn c' hc h0
theorem RB.len {A : Nat → Prop} {w : World} {a : Option Addr} {c n : Nat} {l : List UInt8} (h : RB A w (.slice a n c) l) : l.length = n := by
  obtain ⟨a', c', e⟩ := h.shape
  simp only [Value.slice.injEq] at e
  exact e.2.1.symm
theorem RB.in_ {A : Nat → Prop} {w : World} {b off c n : Nat} {l : List UInt8} (h : RB A w (.slice (some ⟨b, off, none⟩) n c) l) (hz : 0 < n := by omega) : b < w.heap.size ∧ A b ∧ l.length = n ∧ n ≤ c := by
  rcases h.2 with ⟨⟨a0, e⟩, h0⟩ | ⟨b1, o1, c1, e, hb, hA, h1, hx⟩
  · simp only [Value.slice.injEq] at e
    omega
  · simp only [Value.slice.injEq, Option.some.injEq, Addr.mk.injEq] at e
    obtain ⟨⟨rfl, rfl, -⟩, rfl, rfl⟩ := e
    exact ⟨hb, hA, rfl, h1⟩
end Go.Proofs.YtgdilkhaopnhaaaGreatDoor
namespace Go.Proofs.YtgdilkhaopnhaaaGreatDoor
theorem ofInt_i64 (a : Nat) (ha : a < 9223372036854775808) : (BitVec.ofInt 64 (a : Int)).toNat = a := by
  rw [BitVec.ofInt_natCast, BitVec.toNat_ofNat]; exact Nat.mod_eq_of_lt (by omega)
theorem i64_or_nat (a b : Nat) (ha : a < 9223372036854775808) (hb : b < 9223372036854775808) : bits .or .i64 (a : Int) (b : Int) = ((a ||| b : Nat) : Int) := by
  have hx : a ||| b < 2 ^ 63 := Nat.or_lt_two_pow (by omega) (by omega)
  show IntKind.i64.wrap ((BitVec.ofInt 64 (a : Int) ||| BitVec.ofInt 64 (b : Int)).toNat : Int) = _
  rw [BitVec.toNat_or, ofInt_i64 a ha, ofInt_i64 b hb, IntKind.wrap_i64]
  omega
theorem i64_and_nat (a b : Nat) (ha : a < 9223372036854775808) (hb : b < 9223372036854775808) : bits .and .i64 (a : Int) (b : Int) = ((a &&& b : Nat) : Int) := by
  have hx : a &&& b < 2 ^ 63 := Nat.and_lt_two_pow _ (by omega)
  show IntKind.i64.wrap ((BitVec.ofInt 64 (a : Int) &&& BitVec.ofInt 64 (b : Int)).toNat : Int) = _
  rw [BitVec.toNat_and, ofInt_i64 a ha, ofInt_i64 b hb, IntKind.wrap_i64]
  omega
/-- a byte behind a number -/
theorem or_byte (a c : Nat) (hc : c < 256) (ha : a < 36028797018963968) : bits .or .i64 ((a : Int) * 256) (c : Int) = ((a * 256 + c : Nat) : Int) := by
  have e : ((a : Int) * 256) = ((a * 256 : Nat) : Int) := by omega
  rw [e, i64_or_nat _ _ (by omega) (by omega)]
  have h := Nat.shiftLeft_add_eq_or_of_lt (i := 8) (b := c) (by omega) a
  rw [Nat.shiftLeft_eq] at h
  rw [show a * 256 = a * 2 ^ 8 from rfl, ← h]
end Go.Proofs.YtgdilkhaopnhaaaGreatDoor
namespace Go.Proofs.YtgdilkhaopnhaaaGreatDoor
open Go.RowKit Go.WideShapes

/-- a reader behind a pointer: its bytes lie in blocks of A -/
structure IsRd (A : Nat → Prop) (w : World) (p : Nat) (r : Rd) : Prop where
  mk ::
  ex : ∃ v, w.heap[p]? = some (.cells #[v, .int .i64 (r.e : Nat)] 104 (0, 0)) ∧ RB A w v r.l
  apart : ¬ A p
theorem IsRd.lt {A : Nat → Prop} {w : World} {p : Nat} {r : Rd} (h : IsRd A w p r) : p < w.heap.size := by
  obtain ⟨v, hb, _⟩ := h.ex
  exact (Array.getElem?_eq_some_iff.1 hb).1
theorem IsRd.ext {A : Nat → Prop} {w w' : World} {p : Nat} {r : Rd} (h : IsRd A w p r) (hb : Below w.heap.size w w') : IsRd A w' p r := by
  obtain ⟨v, h1, h2⟩ := h.ex
  exact ⟨⟨v, (hb.block _ h.lt).trans h1, h2.ext hb⟩, h.apart⟩
/-- where nothing of A or the reader's block has turned -/
theorem IsRd.same {A B : Nat → Prop} {w w' : World} {p : Nat} {r : Rd} (h : IsRd A w p r) (hs : Same B w w') (hB : B p) (hA : ∀ b, A b → B b) : IsRd A w' p r := by
  obtain ⟨v, h1, h2⟩ := h.ex
  exact ⟨⟨v, (hs.block _ hB h.lt).trans h1, SlA.mono h2 (hs.weak hA)⟩, h.apart⟩
theorem make_bytes (n : Nat) (hn : n ≤ 1000000) (W : World) : (Instr.makeSlice 22 (.int .i64 (n : Int)) (.int .i64 (n : Int))).run Tryz.prog W = .ok (.slice (some ⟨W.heap.size, 0, none⟩) n n) (W.alloc (.cells (List.replicate n (Value.int .u8 0)).toArray 5)) := by
  obtain ⟨i0, hi, hz0, hz1, hz2⟩ := info_parts infoByte
  have h := run_make (P := Tryz.prog) W 22 5 i0 (.int .u8 0) Tryz.underlying22 hi hz0 .i64 .i64 n n (by omega) (by omega) (by rw [hz2]; omega) (by omega)
  have e : madeCells (Value.int .u8 0).cells n = (List.replicate n (Value.int .u8 0)).toArray := by
    apply Array.ext
    · simp [madeCells]
    · intro i h1 h2
      simp [madeCells, Value.cells, Nat.mod_one]
  rw [h, hz1]
  simp only [Int.toNat_natCast, Nat.mul_one]
  rw [e]

set_option maxRecDepth 100000 in
set_option maxHeartbeats 800000 in
theorem fail_any (A : Nat → Prop) (p : Nat) (r : Rd) (x : Nat) (w : World) (h : IsRd A w p r) (_hx : x < 1000) (_he : r.e < 1000) :
    Calls Tryz.prog 35 #[.pointer (some ⟨p, 0, none⟩), .int .i64 x] w fun e w' => e = .returned (.tuple #[]) ∧ IsRd A w' p (r.fail x) ∧ Fr (fun k => k = p) w w' := by
  obtain ⟨v, hb, hv⟩ := h.ex
  have HA := Lib.hid h.apart
  have hpl := h.lt
  have HV := Lib.hid hv
  obtain ⟨c0, f0⟩ := blk_cell (i := 0) hb
  obtain ⟨c1, f1⟩ := blk_cell (i := 1) hb
  simp at c0 c1
  have HB := Lib.hid hb
  clear h hv hb
  by_cases h0 : r.e = 0
  · by_cases h1 : x = 0
    · have HF : Hid (r.fail x = r) := if_neg (fun h => h.2 h1)
      have t1 : ((r.e : Int) == 0) = true := by simp [h0]
      have t2 : ((x : Int) != 0) = false := by simp [h1]
      clear h0 h1
      go_enter Tryz.func35, Tryz.ntmps35
      go_wp2
      go_end0
      rw [HF.out]
      exact ⟨rfl, ⟨⟨v, HB.out, HV.out⟩, HA.out⟩, Fr.refl _ _⟩
    · have HF : Hid (r.fail x = ⟨[], x⟩) := if_pos ⟨h0, h1⟩
      have t1 : ((r.e : Int) == 0) = true := by simp [h0]
      have t2 : ((x : Int) != 0) = true := by simp [h1]
      clear h0 h1
      go_enter Tryz.func35, Tryz.ntmps35
      go_wp2
      go_end0
      rw [HF.out]
      refine ⟨rfl, ⟨⟨.slice none 0 0, ?_, RB.nil _ _⟩, HA.out⟩, ?_⟩
      · have := HB.out
        simp [World.setCell, Array.getElem?_modify, this]
      · exact Fr.setCell (S := fun k => k = p) (a := ⟨p, 0, none⟩) (Fr.setCell (S := fun k => k = p) (a := ⟨p, 1, none⟩) (Fr.refl _ _) (fun _ => rfl) _) (fun _ => rfl) _
  · have HF : Hid (r.fail x = r) := if_neg (fun h => h0 h.1)
    have t1 : ((r.e : Int) == 0) = false := by simp [h0]
    clear h0
    go_enter Tryz.func35, Tryz.ntmps35
    go_wp2
    go_end0
    rw [HF.out]
    exact ⟨rfl, ⟨⟨v, HB.out, HV.out⟩, HA.out⟩, Fr.refl _ _⟩

def failV (p : Nat) : Value := .func (.func 35) #[.pointer (some ⟨p, 0, none⟩)] #[]
/-- what a method that takes bytes leaves -/
def TakeP (A : Nat → Prop) (p : Nat) (w : World) (x : List UInt8 × Rd) (e : Ending) (w' : World) : Prop :=
  ∃ v, e = .returned v ∧ RB (fun b => w.heap.size ≤ b) w' v x.1 ∧ IsRd A w' p x.2 ∧ Fr (fun k => k = p) w w'
theorem splice_full (n : Nat) (z : Value) (cs : List Value) (h : cs.length = n) : splice (List.replicate n z) 0 cs = cs := by
  unfold splice
  rw [List.take_zero, List.nil_append, List.drop_of_length_le (by simp; omega), List.append_nil]
theorem setCell_blk {w : World} {p : Nat} {t : TypeId} {a b v : Value} (h : w.heap[p]? = some (.cells #[a, b] t (0, 0))) : (w.setCell ⟨p, 0, none⟩ v).heap[p]? = some (.cells #[v, b] t (0, 0)) := by
  simp [World.setCell, Array.getElem?_modify, h]
set_option maxRecDepth 100000 in
set_option maxHeartbeats 1600000 in
theorem take_any (A : Nat → Prop) (p n : Nat) (r : Rd) (w : World) (h : IsRd A w p r) (hn : n ≤ 100000) (hl : r.l.length ≤ 100000) (he : r.e < 1000) :
    Calls Tryz.prog 62 #[.pointer (some ⟨p, 0, none⟩), .int .i64 n, .func (.func 35) #[.pointer (some ⟨p, 0, none⟩)] #[]] w (TakeP A p w (r.take n)) := by
  obtain ⟨v, hb, hv⟩ := h.ex
  have HA := Lib.hid h.apart
  have hpl := h.lt
  have HH := Lib.hid h
  obtain ⟨a, c, rfl⟩ := hv.shape
  have HV := Lib.hid hv
  have hcap := hv.cutAll
  obtain ⟨c0, f0⟩ := blk_cell (i := 0) hb
  obtain ⟨c1, f1⟩ := blk_cell (i := 1) hb
  simp at c0 c1
  have HB := Lib.hid hb
  clear h hv hb
  by_cases h0 : r.e = 0
  · have t1 : ((r.e : Int) != 0) = false := by simp [h0]
    rcases Nat.lt_or_ge r.l.length n with h1 | h1
    · have HF : Hid (r.take n = ([], r.fail 10)) := by
        show r.take n = _
        unfold Rd.take Rd.fail
        rw [if_neg (fun h => h h0), if_pos h1, if_pos ⟨h0, by decide⟩]
      clear h0
      go_enter Tryz.func62, Tryz.ntmps62
      go_wp2_with fail
      refine (fail_any A p r 10 _ HH.out (by omega) he).mono ?_
      rintro e w1 ⟨rfl, hr1, hf1⟩
      have HR1 := Lib.hid hr1
      have HF1 := Lib.hid hf1
      clear hr1 hf1 c0 c1 f0 f1
      go_wp2
      go_ret
      rw [HF.out]
      exact ⟨_, rfl, RB.nil _ _, HR1.out, HF1.out⟩
    · have HF : Hid (r.take n = (r.l.take n, ⟨r.l.drop n, 0⟩)) := by
        show r.take n = _
        unfold Rd.take
        rw [if_neg (fun h => h h0), if_neg (by omega)]
      have hmk := fun W => make_bytes n (by omega) W
      obtain ⟨X, hX⟩ : ∃ X, X = (r.l.take n).map bv := ⟨_, rfl⟩
      have hXl : X.length = n := by rw [hX]; simp; omega
      have HXl := Lib.hid hXl
      have HX := Lib.hid hX
      have HXc : Hid (∀ b off, a = some ⟨b, off, none⟩ → ∀ j u, X[j]? = some u → w.cell? ⟨b, off + j, none⟩ = some u ∧ b < w.heap.size) := by
        rintro b off rfl j u hj
        have hjn : j < n := by rw [← hXl]; exact (List.getElem?_eq_some_iff.1 hj).1
        obtain ⟨b', off', e, hbl, -, hc⟩ := HV.out.cell (k := j) (by omega)
        simp only [Option.some.injEq, Addr.mk.injEq] at e
        obtain ⟨rfl, rfl, -⟩ := e
        refine ⟨?_, hbl⟩
        have hx2 : X[j]? = some (Value.int .u8 (r.l[j]'(by omega)).toNat) := by
          refine (congrArg (fun Y : List Value => Y[j]?) hX).trans ?_
          show ((r.l.take n).map bv)[j]? = _
          rw [List.getElem?_map, List.getElem?_take, if_pos hjn, List.getElem?_eq_getElem (by omega)]
          rfl
        rw [hc, ← hj, hx2]
      have hX1 : Hid (∀ u ∈ X, u.oneCell' = true) := by
        show ∀ u ∈ X, _
        rw [hX]
        exact one_bytes _
      have hn8x : (Tryz.prog.info? 5).map (·.size) = some 1 := by kernel_rfl
      have hn8 := Lib.hid hn8x
      clear hn8x
      have hE : Hid (r = ⟨r.l, 0⟩) := by
        show r = _
        cases r
        simp only at h0
        rw [h0]
      have H0 := Lib.hid h0
      clear h0 hX hXl
      by_cases hcn : c = n
      · obtain rfl : c = r.l.length := by omega
        have HD : Hid (r.l.drop n = []) := List.drop_of_length_le (by omega)
        obtain rfl := hcn
        have HVz : Hid (RB A w (.slice a 0 0) []) := by
          exact RB.zero _ _ _
        go_enter Tryz.func62, Tryz.ntmps62
        go_wp2_with (first | (with_reducible refine wpList_copy_splice rfl (.tmp 28) (.tmp 32) 22 22 rfl 5 Tryz.underlying22 hn8.out _ _ _ _ _ _ rfl rfl w.heap.size 0 (List.replicate r.l.length (.int .u8 0)) 5 (heap_alloc_new w _) X ?k1 ?k2 ?k3 hX1.out w.heap.size w ?k4 (Nat.le_refl _) ?_) | go_in)
        case k1 => rw [HXl.out]; exact (Nat.min_eq_right (by omega)).symm
        case k2 =>
          intro hp
          rw [HXl.out] at hp
          obtain ⟨b', off', e, -⟩ := HV.out.cell (k := 0) (by omega)
          first
            | exact ⟨rfl, _, e, fun j u hu => by rw [add_plain]; obtain ⟨h1, h2⟩ := HXc.out _ _ e j u hu; rw [World.cell?_alloc_lt w _ _ h2, h1]⟩
            | exact ⟨_, e, fun j u hu => by rw [add_plain]; obtain ⟨h1, h2⟩ := HXc.out _ _ e j u hu; first | exact h1 | rw [World.cell?_alloc_lt w _ _ h2, h1]⟩
            | (simp only [Option.some.injEq, Addr.mk.injEq] at e; obtain ⟨rfl, rfl, -⟩ := e; intro j u hu; exact (HXc.out _ _ rfl j u hu).1)
        case k3 => rw [HXl.out]; simp
        case k4 => exact (Below.refl _ _).alloc (Nat.le_refl _) _
        intro w1 hg1 hb1
        have c0' := cellB hb1 hpl c0
        have f0' : w1.frozen? ⟨p, 0, none⟩ = false := (hb1.frozen (p := ⟨p, 0, none⟩) hpl).trans f0
        have hbw : w1.heap[p]? = _ := (hb1.block p hpl).trans HB.out
        have hrow : Hid (∀ u, RB (fun b => w.heap.size ≤ b) (w1.setCell ⟨p, 0, none⟩ u) (.slice (some ⟨w.heap.size, 0, none⟩) r.l.length r.l.length) (r.l.take r.l.length)) := fun u => by
          have hg := hg1.out
          rw [splice_full _ _ _ HXl.out] at hg
          have hgn : w.heap.size ≠ p := by omega
          have hg2 : (w1.setCell ⟨p, 0, none⟩ u).heap[w.heap.size]? = _ := (Below.heap_setCell w1 ⟨p, 0, none⟩ u _ hgn).trans hg
          refine ⟨by simp, .inr ⟨w.heap.size, 0, r.l.length, ?_, ?_, Nat.le_refl _, by simp; try omega, fun j hj => ?_⟩⟩
          · congr 1
            simp
            try omega
          · exact (Array.getElem?_eq_some_iff.1 hg2).1
          · rw [Nat.zero_add, (blk_cell hg2).1, HX.out]
            simp
        clear c0 f0 hg1
        have HBW := Lib.hid hbw
        clear hbw
        go_wp2
        go_ret
        have hbw := HBW.out
        have hrow := hrow.out
        rw [HF.out, HD.out]
        exact ⟨_, rfl, hrow _, ⟨⟨_, setCell_blk (by have hq := hbw; rw [H0.out] at hq; exact hq), RB.ext HVz.out hb1 |> fun h => SlA.mono h (Same.setCell (Same.refl _ _) HA.out _)⟩, HA.out⟩, Fr.setCell (S := fun k => k = p) (a := ⟨p, 0, none⟩) (Fr.ext hb1) (fun _ => rfl) _⟩
      · obtain ⟨b, off, rfl, hbl, hA, -⟩ : ∃ b off, a = some ⟨b, off, none⟩ ∧ b < w.heap.size ∧ A b ∧ True := by
          rcases HV.out.2 with ⟨⟨a0, e⟩, h0⟩ | ⟨b, off, c2, e, hbl, hA, -, -⟩
          · simp only [Value.slice.injEq] at e
            omega
          · simp only [Value.slice.injEq] at e
            exact ⟨b, off, e.1, hbl, hA, trivial⟩
        have HVd : Hid (RB A w (.slice (some ⟨b, off + n, none⟩) (r.l.length - n) (c - n)) (r.l.drop n)) := RB.drop' HV.out h1 _ (by omega) hbl hA
        go_enter Tryz.func62, Tryz.ntmps62
        go_wp2_with (first | (with_reducible refine wpList_copy_splice rfl (.tmp 28) (.tmp 32) 22 22 rfl 5 Tryz.underlying22 hn8.out _ _ _ _ _ _ rfl rfl w.heap.size 0 (List.replicate n (.int .u8 0)) 5 (heap_alloc_new w _) X ?k1 ?k2 ?k3 hX1.out w.heap.size w ?k4 (Nat.le_refl _) ?_) | go_in)
        case k1 => rw [HXl.out]; exact (Nat.min_eq_right (by omega)).symm
        case k2 =>
          intro hp
          rw [HXl.out] at hp
          obtain ⟨b', off', e, -⟩ := HV.out.cell (k := 0) (by omega)
          first
            | exact ⟨rfl, _, e, fun j u hu => by rw [add_plain]; obtain ⟨h1, h2⟩ := HXc.out _ _ e j u hu; rw [World.cell?_alloc_lt w _ _ h2, h1]⟩
            | exact ⟨_, e, fun j u hu => by rw [add_plain]; obtain ⟨h1, h2⟩ := HXc.out _ _ e j u hu; first | exact h1 | rw [World.cell?_alloc_lt w _ _ h2, h1]⟩
            | (simp only [Option.some.injEq, Addr.mk.injEq] at e; obtain ⟨rfl, rfl, -⟩ := e; intro j u hu; exact (HXc.out _ _ rfl j u hu).1)
        case k3 => rw [HXl.out]; simp
        case k4 => exact (Below.refl _ _).alloc (Nat.le_refl _) _
        intro w1 hg1 hb1
        have c0' := cellB hb1 hpl c0
        have f0' : w1.frozen? ⟨p, 0, none⟩ = false := (hb1.frozen (p := ⟨p, 0, none⟩) hpl).trans f0
        have hbw : w1.heap[p]? = _ := (hb1.block p hpl).trans HB.out
        have hrow : Hid (∀ u, RB (fun b => w.heap.size ≤ b) (w1.setCell ⟨p, 0, none⟩ u) (.slice (some ⟨w.heap.size, 0, none⟩) n n) (r.l.take n)) := fun u => by
          have hg := hg1.out
          rw [splice_full _ _ _ HXl.out] at hg
          have hgn : w.heap.size ≠ p := by omega
          have hg2 : (w1.setCell ⟨p, 0, none⟩ u).heap[w.heap.size]? = _ := (Below.heap_setCell w1 ⟨p, 0, none⟩ u _ hgn).trans hg
          refine ⟨by simp, .inr ⟨w.heap.size, 0, n, ?_, ?_, Nat.le_refl _, by simp; try omega, fun j hj => ?_⟩⟩
          · congr 1
            simp
            try omega
          · exact (Array.getElem?_eq_some_iff.1 hg2).1
          · rw [Nat.zero_add, (blk_cell hg2).1, HX.out]
            simp
        clear c0 f0 hg1
        have HBW := Lib.hid hbw
        clear hbw
        go_wp2
        go_ret
        have hbw := HBW.out
        have hrow := hrow.out
        rw [HF.out]
        exact ⟨_, rfl, hrow _, ⟨⟨_, setCell_blk (by have hq := hbw; rw [H0.out] at hq; exact hq), RB.ext HVd.out hb1 |> fun h => SlA.mono h (Same.setCell (Same.refl _ _) HA.out _)⟩, HA.out⟩, Fr.setCell (S := fun k => k = p) (a := ⟨p, 0, none⟩) (Fr.ext hb1) (fun _ => rfl) _⟩
  · have HF : Hid (r.take n = ([], r)) := if_pos h0
    have t1 : ((r.e : Int) != 0) = true := by simp [h0]
    clear h0
    go_enter Tryz.func62, Tryz.ntmps62
    go_wp2
    go_ret
    rw [HF.out]
    exact ⟨_, rfl, RB.nil _ _, HH.out, Fr.refl _ _⟩
end Go.Proofs.YtgdilkhaopnhaaaGreatDoor
namespace Go.Proofs.YtgdilkhaopnhaaaGreatDoor
open Go.RowKit Go.WideShapes

/-- what a method that takes a number leaves -/
def NumP (A : Nat → Prop) (p : Nat) (w : World) (x : Nat × Rd) (e : Ending) (w' : World) : Prop :=
  e = .returned (.int .i64 (x.1 : Nat)) ∧ IsRd A w' p x.2 ∧ Fr (fun k => k = p) w w'
theorem nb_take_succ (t : List UInt8) (k : Nat) (h : k < t.length) : nb (t.take (k + 1)) = nb (t.take k) * 256 + t[k].toNat := by
  rw [List.take_succ_eq_append_getElem h, nb_snoc]
set_option maxRecDepth 100000 in
set_option maxHeartbeats 1600000 in
theorem rnum_any (A : Nat → Prop) (p W : Nat) (r : Rd) (w : World) (h : IsRd A w p r) (h1 : 1 ≤ W) (h7 : W ≤ 7) (hl : r.l.length ≤ 100000) (he : r.e < 1000) :
    Calls Tryz.prog 34 #[.pointer (some ⟨p, 0, none⟩), .int .i64 W] w (NumP A p w (r.num W)) := by
  have HH := Lib.hid h
  have hpl := h.lt
  have HT : Hid (r.num W = (nb (r.take W).1, (r.take W).2)) := rfl
  have ht : (r.take W).1.length ≤ 7 := Nat.le_trans (Rd.take_len r W).2.1 h7
  clear h
  go_enter Tryz.func34, Tryz.ntmps34
  go_wp2_with fail
  refine (wide_any W h1 h7 _).mono ?_
  rintro e w1 ⟨rfl, rfl⟩
  go_wp2_with fail
  refine (take_any A p W r _ HH.out (by omega) hl he).mono ?_
  rintro e w2 ⟨v, rfl, hv, hr, hf⟩
  have HR := Lib.hid hr
  have HF := Lib.hid hf
  clear hr hf
  generalize r.take W = t at *
  obtain ⟨t, r2⟩ := t
  simp only at hv HR ht HT
  obtain ⟨a, c, rfl⟩ := hv.shape
  have HV := Lib.hid hv
  clear hv
  go_wp2
  go_loop [5, 15] (fun n q => ∃ k : Nat, k ≤ t.length ∧ q = .int .i64 k ∧ n = .int .i64 (nb (t.take k) : Nat)) (fun _ q => t.length - (intOf q).toNat)
  case atStart => exact ⟨0, by omega, rfl, rfl⟩
  case round =>
    obtain ⟨k, hk, rfl, rfl⟩ := hrel
    by_cases hlt : k < t.length
    · obtain ⟨b, off, rfl, hbl, -, hc⟩ := HV.out.cell hlt
      have HS := Lib.hid (nb_take_succ t k hlt)
      have hnb := nb_lt (t.take k)
      have hp : 256 ^ (t.take k).length ≤ 256 ^ 6 := Nat.pow_le_pow_right (by decide) (by simp; omega)
      have hnb2 : nb (t.take k) < 281474976710656 := Nat.lt_of_lt_of_le hnb hp
      have hb := (t[k]).toNat_lt
      have ho := or_byte (nb (t.take k)) (t[k]).toNat hb (by omega)
      have HO : Hid (((nb (t.take k) * 256 + (t[k]).toNat : Nat) : Int) = (nb (t.take (k + 1)) : Nat)) := by
        show _ = _
        rw [HS.out]
      generalize nb (t.take k) * 256 + (t[k]).toNat = S at *
      generalize nb (t.take k) = N at *
      generalize (t[k]).toNat = B at *
      clear hnb hp
      go_wp2
      go_round
      case rel => exact ⟨k + 1, by omega, by go_num, by rw [HO.out]⟩
      case measure => simp [intOf]; omega
    · obtain rfl : k = t.length := by omega
      go_wp2
      go_ret
      rw [HT.out]
      exact ⟨rfl, HR.out, HF.out⟩
set_option maxRecDepth 100000 in
set_option maxHeartbeats 1600000 in
theorem rblob_any (A : Nat → Prop) (p m : Nat) (r : Rd) (w : World) (h : IsRd A w p r) (hm : m ≤ 10000) (hl : r.l.length ≤ 100000) (he : r.e < 1000) (he2 : (r.num 2).2.e < 1000) :
    Calls Tryz.prog 33 #[.pointer (some ⟨p, 0, none⟩), .int .i64 m] w (TakeP A p w (r.blob m)) := by
  have HH := Lib.hid h
  have hpl := h.lt
  have hk := Rd.num_lt r 2
  have hl2 := Rd.num_len r 2
  have hbl : r.blob m = if m < (r.num 2).1 then ([], (r.num 2).2.fail 11) else (r.num 2).2.take (r.num 2).1 := rfl
  have HBL0 := Lib.hid hbl
  have hmx : max (m : Int) 0 = m := by omega
  clear h hbl
  go_enter Tryz.func33, Tryz.ntmps33
  go_wp2_with fail
  refine (rnum_any A p 2 r _ HH.out (by omega) (by omega) hl he).mono ?_
  rintro e w1 ⟨rfl, hr, hf⟩
  have HR := Lib.hid hr
  have HF := Lib.hid hf
  clear hr hf
  generalize r.num 2 = t at *
  obtain ⟨n, r2⟩ := t
  simp only at HR hk hl2 HBL0 he2
  have HBL : Hid (r.blob m = if m < n then ([], r2.fail 11) else r2.take n) := HBL0
  clear HBL0
  have hs1 := HF.out.size
  by_cases hlt : m < n
  · have HB2 := Lib.hid (HBL.out.trans (if_pos hlt))
    clear HBL
    go_wp2_with fail
    refine (fail_any A p r2 11 _ HR.out (by omega) he2).mono ?_
    rintro e w2 ⟨rfl, hr, hf⟩
    have HR2 := Lib.hid hr
    have HF2 := Lib.hid hf
    clear hr hf
    have hz : Hid ((r2.fail 11).take n = ([], r2.fail 11)) := by
      show _ = _
      unfold Rd.take
      rw [if_pos]
      unfold Rd.fail
      split
      · decide
      · rename_i hh
        intro h0
        exact hh ⟨h0, by decide⟩
    have he3 : (r2.fail 11).e < 1000 := by
      unfold Rd.fail
      split
      · decide
      · exact he2
    have hl3 := Rd.fail_len r2 11
    go_wp2_with fail
    refine (take_any A p n (r2.fail 11) _ HR2.out (by omega) (by omega) he3).mono ?_
    rintro e w3 ⟨v, rfl, hv, hr, hf⟩
    have HR3 := Lib.hid hr
    have HF3 := Lib.hid hf
    have HV := Lib.hid hv
    clear hr hf hv
    go_wp2
    go_ret
    rw [HB2.out]
    have h1 := HR3.out
    have h2 := HV.out
    rw [hz.out] at h1 h2
    exact ⟨_, rfl, SlA.weak h2 fun b hb => Nat.le_trans hs1 (Nat.le_trans HF2.out.size hb), h1, (HF.out.trans HF2.out fun _ _ h => h).trans HF3.out fun _ _ h => h⟩
  · have HB2 := Lib.hid (HBL.out.trans (if_neg hlt))
    clear HBL
    go_wp2_with fail
    refine (take_any A p n r2 _ HR.out (by omega) (by omega) he2).mono ?_
    rintro e w3 ⟨v, rfl, hv, hr, hf⟩
    have HR3 := Lib.hid hr
    have HF3 := Lib.hid hf
    have HV := Lib.hid hv
    clear hr hf hv
    go_wp2
    go_ret
    rw [HB2.out]
    exact ⟨_, rfl, SlA.weak HV.out fun b hb => Nat.le_trans hs1 hb, HR3.out, HF.out.trans HF3.out fun _ _ h => h⟩

set_option maxRecDepth 100000 in
theorem left_any (A : Nat → Prop) (p : Nat) (r : Rd) (w : World) (h : IsRd A w p r) :
    Calls Tryz.prog 64 #[.pointer (some ⟨p, 0, none⟩)] w fun e w' => e = .returned (.int .i64 (r.l.length : Nat)) ∧ w = w' := by
  obtain ⟨v, hb, hv⟩ := h.ex
  obtain ⟨a, c, rfl⟩ := hv.shape
  obtain ⟨c0, f0⟩ := blk_cell (i := 0) hb
  simp at c0
  clear h hv hb
  go_enter Tryz.func64, Tryz.ntmps64
  go_wp2
  go_ret
  exact ⟨rfl, rfl⟩
set_option maxRecDepth 100000 in
theorem err_any (A : Nat → Prop) (p : Nat) (r : Rd) (w : World) (h : IsRd A w p r) :
    Calls Tryz.prog 36 #[.pointer (some ⟨p, 0, none⟩)] w fun e w' => e = .returned (.int .i64 (r.e : Nat)) ∧ w = w' := by
  obtain ⟨v, hb, hv⟩ := h.ex
  obtain ⟨c1, f1⟩ := blk_cell (i := 1) hb
  simp at c1
  clear h hv hb
  go_enter Tryz.func36, Tryz.ntmps36
  go_wp2
  go_ret
  exact ⟨rfl, rfl⟩
set_option maxRecDepth 100000 in
set_option maxHeartbeats 800000 in
theorem end_any (A : Nat → Prop) (p : Nat) (r : Rd) (w : World) (h : IsRd A w p r) (hl : r.l.length ≤ 100000) (he : r.e < 1000) :
    Calls Tryz.prog 37 #[.pointer (some ⟨p, 0, none⟩)] w fun e w' => e = .returned (.int .i64 (r.fin.e : Nat)) ∧ IsRd A w' p r.fin ∧ Fr (fun k => k = p) w w' := by
  have HH := Lib.hid h
  clear h
  go_enter Tryz.func37, Tryz.ntmps37
  go_wp2_with fail
  refine (left_any A p r _ HH.out).mono ?_
  rintro e w1 ⟨rfl, rfl⟩
  rcases Nat.eq_zero_or_pos r.l.length with h0 | h0
  · have HF : Hid (r.fin = r) := if_neg (by omega)
    have hle : (r.l.length : Int) ≤ 0 := by omega
    clear h0
    go_wp2_with fail
    refine (err_any A p r _ HH.out).mono ?_
    rintro e w1 ⟨rfl, rfl⟩
    go_wp2
    go_ret
    rw [HF.out]
    exact ⟨rfl, HH.out, Fr.refl _ _⟩
  · have HF : Hid (r.fin = r.fail 11) := if_pos h0
    go_wp2_with fail
    refine (fail_any A p r 11 _ HH.out (by omega) he).mono ?_
    rintro e w2 ⟨rfl, hr, hf⟩
    have HR := Lib.hid hr
    have HFR := Lib.hid hf
    clear hr hf
    go_wp2_with fail
    refine (err_any A p _ _ HR.out).mono ?_
    rintro e w1 ⟨rfl, rfl⟩
    go_wp2
    go_ret
    rw [HF.out]
    exact ⟨rfl, HR.out, HFR.out⟩
set_option maxRecDepth 100000 in
theorem read_any (A : Nat → Prop) (v : Value) (l : List UInt8) (w : World) (hv : RB A w v l) (hl : l.length ≤ 100000) :
    Calls Tryz.prog 32 #[v] w fun e w' => ∃ p, e = .returned (.pointer (some ⟨p, 0, none⟩)) ∧ IsRd (fun b => w.heap.size ≤ b ∧ b < p) w' p ⟨l, 0⟩ ∧ w.heap.size ≤ p ∧ Below w.heap.size w w' := by
  have HV := Lib.hid hv
  clear hv
  go_enter Tryz.func32, Tryz.ntmps32
  go_wp2_with fail
  refine (cloneB_any A _ l _ (by omega) HV.out).mono ?_
  rintro e w1 ⟨v1, rfl, ho, hb1⟩
  obtain ⟨a, c, rfl⟩ := ho.rb.shape
  have HO := Lib.hid ho
  have hs1 := hb1.size
  clear ho
  go_wp2
  go_ret
  refine ⟨w1.heap.size, rfl, ⟨⟨.slice a l.length c, heap_alloc_new _ _, ?_⟩, by omega⟩, hs1, hb1.alloc hs1 _⟩
  refine SlA.weak (RB.ext (SlA.cut HO.out.rb) ((Below.refl _ _).alloc (Nat.le_refl _) _)) fun b hb => hb
end Go.Proofs.YtgdilkhaopnhaaaGreatDoor
