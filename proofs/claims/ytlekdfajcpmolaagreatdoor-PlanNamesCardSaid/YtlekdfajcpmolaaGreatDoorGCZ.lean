/- Numbers as digits: with noughts ahead, digit by digit. No program is named. Bytes as a text: the conversion's law. No function is named. The walks of plan.Head, journal.Name, entry.Name, and of the reference's: names. -/
import Derived.Lib.ItoaNum
import Derived.Test.YtlekdfajcpmolaaGreatDoorGAB
import Derived.Laws.IdiomStrings
import Derived.Laws.Concat
import Derived.Test.YtlekdfajcpmolaaGreatDoorGCC
import Derived.Test.YtlekdfajcpmolaaGreatDoorLaidS
import Derived.Shelf.Strconv.Itoa3
import Derived.Shelf.Strings.Repeat
namespace Go.Proofs.YtlekdfajcpmolaaGreatDoor
open Go

/-- so many digits of a number -/
def dgs : Nat → Nat → List UInt8
  | 0, _ => []
  | k + 1, n => dgs k (n / 10) ++ [UInt8.ofNat (48 + n % 10)]
theorem dgs_len : ∀ (k n : Nat), (dgs k n).length = k
  | 0, _ => rfl
  | k + 1, n => by simp [dgs, dgs_len k]
theorem dgs_zero : ∀ (k : Nat), dgs k 0 = List.replicate k 48
  | 0 => rfl
  | k + 1 => by
    rw [dgs, Nat.zero_div, dgs_zero k, List.replicate_succ']
    rfl
/-- one digit more ahead -/
theorem dgs_cons : ∀ (k n : Nat), dgs (k + 1) n = UInt8.ofNat (48 + n / 10 ^ k % 10) :: dgs k n
  | 0, n => by simp [dgs]
  | k + 1, n => by
    have h := dgs_cons k (n / 10)
    rw [dgs, h, List.cons_append]
    congr 3
    rw [Nat.div_div_eq_div_mul, Nat.pow_succ, Nat.mul_comm]
theorem dec_len_le : ∀ (k n : Nat), n < 10 ^ (k + 1) → (Lib.decDigits n).length ≤ k + 1
  | 0, n, h => by rw [Lib.decDigits, dif_pos (by simpa using h)]; simp
  | k + 1, n, h => by
    rw [Lib.decDigits]
    split
    · simp
    · have := dec_len_le k (n / 10) (by rw [Nat.pow_succ] at h; omega)
      simp only [List.length_append, List.length_singleton]
      omega
theorem dec_pos (n : Nat) : 1 ≤ (Lib.decDigits n).length := by
  rw [Lib.decDigits]
  split <;> simp
/-- noughts, then the digits -/
theorem dgs_dec : ∀ (k n : Nat), n < 10 ^ (k + 1) → List.replicate (k + 1 - (Lib.decDigits n).length) 48 ++ Lib.decDigits n = dgs (k + 1) n
  | 0, n, h => by
    have h : n < 10 := by simpa using h
    rw [Lib.decDigits, dif_pos h]
    simp [dgs, Nat.mod_eq_of_lt h]
  | k + 1, n, h => by
    by_cases h1 : n < 10
    · rw [Lib.decDigits, dif_pos h1, dgs, Nat.div_eq_of_lt h1, dgs_zero, Nat.mod_eq_of_lt h1]
      simp
    · have ih := dgs_dec k (n / 10) (by rw [Nat.pow_succ] at h; omega)
      have hl := dec_len_le k (n / 10) (by rw [Nat.pow_succ] at h; omega)
      have e : Lib.decDigits n = Lib.decDigits (n / 10) ++ [UInt8.ofNat (48 + n % 10)] := by rw [Lib.decDigits, dif_neg h1]
      rw [e, dgs, ← ih, List.length_append, List.length_singleton, ← List.append_assoc]
      congr 3
      omega
end Go.Proofs.YtlekdfajcpmolaaGreatDoor
namespace Go.Proofs.YtlekdfajcpmolaaGreatDoor
open Go.RowKit Go.WideShapes

theorem conv_bs {A : Nat → Prop} {w : World} {v : Value} {l : List UInt8} (h : RB A w v l) (W : World) (hW : Below w.heap.size w W) : (Go.convert 28 9 v).run Tryz.prog W = .ok (.string ⟨l.toArray⟩) W := by
  obtain ⟨a, c, rfl⟩ := h.shape
  cases a with
  | none =>
    obtain ⟨h0, -, -⟩ := SlA.none_ h
    obtain rfl := List.eq_nil_of_length_eq_zero h0
    exact run_convert_bytes_nil W _ 5 Tryz.underlying28 Tryz.underlying5 _ _ _ Tryz.underlying9
  | some p =>
    refine run_convert_bytes_back W 28 9 5 p c l Tryz.underlying28 Tryz.underlying5 Tryz.underlying9 fun j hj => ?_
    exact cellExt hW ((SlA.src h).2.2 j _ (bv_at hj))
/-- one byte that was just laid -/
theorem conv_one (W : World) (z : Int) (b : UInt8) (h : z = (b.toNat : Int)) :
    (Go.convert 28 9 (.slice (some ⟨W.heap.size, 0, none⟩) 1 1)).run Tryz.prog (W.alloc (.cells #[.int .u8 z] 5)) = .ok (.string ⟨#[b]⟩) (W.alloc (.cells #[.int .u8 z] 5)) := by
  subst h
  refine run_convert_bytes_back _ 28 9 5 ⟨W.heap.size, 0, none⟩ 1 [b] Tryz.underlying28 Tryz.underlying5 Tryz.underlying9 fun j hj => ?_
  have hj0 : j = 0 := by simp at hj; omega
  subst hj0
  have := (blk_cell (i := 0) (heap_alloc_new W (.cells #[.int .u8 (b.toNat : Int)] 5))).1
  exact this
end Go.Proofs.YtlekdfajcpmolaaGreatDoor
namespace Go.Proofs.YtlekdfajcpmolaaGreatDoor
open Go.RowKit Go.WideShapes Go.Sort

/-- bytes as a text -/
def bsS (l : List UInt8) : ByteArray := ⟨l.toArray⟩
theorem bsS_size (l : List UInt8) : (bsS l).size = l.length := by simp [bsS, ByteArray.size]
theorem bsS_add (l m : List UInt8) : (⟨l.toArray⟩ : ByteArray) ++ (⟨m.toArray⟩ : ByteArray) = bsS (l ++ m) := by
  rw [ByteArray.mk_append_mk]
  simp [bsS]
/-- an image's digit -/
def dg1 (i : Int) : Nat := (min (max i 0) 9).toNat
def headS (i : Int) : ByteArray := bsS (104 :: dgs 1 (dg1 i))
theorem dec1 {d : Nat} (h : d ≤ 9) : Lib.decDigits d = dgs 1 d := by
  rw [Lib.decDigits, dif_pos (by omega)]
  simp [dgs, Nat.mod_eq_of_lt (by omega : d < 10)]
theorem size_mk (l : List UInt8) : (⟨l.toArray⟩ : ByteArray).size = l.length := by simp [ByteArray.size]
set_option maxRecDepth 100000 in
theorem phead_any (i : Int) (w : World) : Calls Tryz.prog 22 #[.int .i64 i] w fun e w' => e = .returned (.string (headS i)) ∧ w = w' := by
  obtain ⟨d, hd⟩ : ∃ d : Nat, min (max i 0) 9 = (d : Int) := ⟨dg1 i, by unfold dg1; omega⟩
  have hd9 : d ≤ 9 := by omega
  have HD : Hid (dg1 i = d) := Lib.hid (by unfold dg1; omega)
  have hcl := fun W => Go.Proofs.Any.strconv_Itoa_small (ρ := Tryz.itoaL_ren) { Tryz.itoaL with } d (by omega) W
  have HC : Hid (∀ W, Calls Tryz.prog 68 #[.int .i64 (d : Nat)] W fun e w' => e = .returned (.string ⟨(Lib.decDigits d).toArray⟩) ∧ w' = W) := Lib.hid hcl
  have hs := fun W => run_string_add_sum (P := Tryz.prog) W ⟨#[104]⟩ ⟨(Lib.decDigits d).toArray⟩ (by show 1 + (⟨(Lib.decDigits d).toArray⟩ : ByteArray).size ≤ _; rw [size_mk, dec1 hd9, dgs_len]; decide)
  have HE : Hid ((⟨#[104]⟩ : ByteArray) ++ (⟨(Lib.decDigits d).toArray⟩ : ByteArray) = headS i) := Lib.hid (by
    rw [show (⟨#[104]⟩ : ByteArray) = ⟨[104].toArray⟩ from rfl, bsS_add, headS, HD.out, dec1 hd9]
    rfl)
  clear hcl
  go_enter Tryz.func22, Tryz.ntmps22
  go_wp2_with fail
  refine (HC.out _).mono ?_
  rintro e w' ⟨rfl, rfl⟩
  go_wp2
  go_ret
  rw [HE.out]
  exact ⟨rfl, rfl⟩
theorem dg_byte (m : Nat) : (48 : Int) + (m : Int) % 10 = ((UInt8.ofNat (48 + m % 10)).toNat : Int) := by
  have h : (UInt8.ofNat (48 + m % 10)).toNat = (48 + m % 10) % 256 := by simp
  rw [h]
  omega
set_option maxRecDepth 100000 in
set_option maxHeartbeats 1600000 in
theorem rdigits_any (n many : Nat) (hm : many ≤ 20) (hn : n ≤ 1000000000) (w : World) : Calls Tryz.prog 64 #[.int .i64 n, .int .i64 many] w fun e w' => e = .returned (.string (bsS (dgs many n))) ∧ Below w.heap.size w w' := by
  go_enter Tryz.func64, Tryz.ntmps64
  go_wp2
  go_loopw [0, 5, 6] (fun a s i wr => ∃ k : Nat, k ≤ many ∧ i = .int .i64 k ∧ a = .int .i64 (n / 10 ^ k : Nat) ∧ s = .string (bsS (dgs k n)) ∧ Below w.heap.size w wr) (fun _ _ i _ => many - (intOf i).toNat)
  case atStart => exact ⟨0, Nat.zero_le _, rfl, by simp, rfl, Below.refl _ _⟩
  case round =>
    obtain ⟨k, hk, rfl, rfl, rfl, hbr⟩ := hrel
    have HB := Lib.hid hbr
    by_cases hlt : k < many
    · have HX : Hid (n / 10 ^ (k + 1) = n / 10 ^ k / 10) := Lib.hid (by rw [Nat.pow_succ, Nat.div_div_eq_div_mul])
      have HY := Lib.hid (dgs_cons k n)
      have hle : n / 10 ^ k ≤ 1000000000 := Nat.le_trans (Nat.div_le_self _ _) hn
      have hln : (bsS (dgs k n)).size = k := by rw [bsS_size, dgs_len]
      generalize n / 10 ^ k = m at *
      have hdb := dg_byte m
      generalize UInt8.ofNat (48 + m % 10) = B at *
      have hcv := conv_one wr _ B hdb
      have hs := fun W => run_string_add_sum (P := Tryz.prog) W ⟨#[B]⟩ (bsS (dgs k n)) (by rw [hln]; show 1 + k ≤ _; omega)
      have HZ : Hid ((⟨#[B]⟩ : ByteArray) ++ bsS (dgs k n) = bsS (dgs (k + 1) n)) := Lib.hid (by
        rw [HY.out, show (⟨#[B]⟩ : ByteArray) = ⟨[B].toArray⟩ from rfl, bsS, bsS_add]
        rfl)
      clear hdb
      have hk5 : (k : Int) < many := by omega
      clear hbr hln
      go_wp2
      go_roundw
      case rel => exact ⟨k + 1, by omega, by go_num, by rw [HX.out]; go_num, by rw [HZ.out], (HB.out.alloc HB.out.size _)⟩
      case measure => simp [intOf]; omega
    · obtain rfl : k = many := by omega
      clear hbr
      go_wp2
      go_ret
      exact ⟨rfl, HB.out⟩
set_option maxRecDepth 100000 in
theorem rhead_any (i : Int) (w : World) : Calls Tryz.prog 17 #[.int .i64 i] w fun e w' => e = .returned (.string (headS i)) ∧ Below w.heap.size w w' := by
  obtain ⟨d, hd⟩ : ∃ d : Nat, min (max i 0) 9 = (d : Int) := ⟨dg1 i, by unfold dg1; omega⟩
  have hd9 : d ≤ 9 := by omega
  have HD : Hid (dg1 i = d) := Lib.hid (by unfold dg1; omega)
  have hs := fun W => run_string_add_sum (P := Tryz.prog) W ⟨#[104]⟩ (bsS (dgs 1 d)) (by rw [bsS_size, dgs_len]; decide)
  have HE : Hid ((⟨#[104]⟩ : ByteArray) ++ bsS (dgs 1 d) = headS i) := Lib.hid (by
    rw [show (⟨#[104]⟩ : ByteArray) = ⟨[104].toArray⟩ from rfl, bsS, bsS_add, headS, HD.out]
    rfl)
  go_enter Tryz.func17, Tryz.ntmps17
  go_wp2_with fail
  refine (rdigits_any d 1 (by decide) (by omega) _).mono ?_
  rintro e w' ⟨rfl, hb⟩
  have HB := Lib.hid hb
  clear hb
  go_wp2
  go_ret
  rw [HE.out]
  exact ⟨rfl, HB.out⟩
theorem rep0 : ∀ c : Nat, Lib.repeatL [48] c = List.replicate c (48 : UInt8)
  | 0 => rfl
  | c + 1 => by
    rw [Lib.repeatL, rep0 c, List.replicate_succ]
    rfl
theorem repX : Builder.Extra Tryz.prog Tryz.repL_ren where
  sizeBuilder := by kernel_rfl
  liesBuilder := by kernel_rfl
  t5 := Tryz.underlying5
  a5 := Tryz.isAgg5
  z5 := Tryz.sizeOf5
  v5 := Tryz.zeroValue5
  infoByte := by kernel_rfl
  cellsByte := by kernel_rfl
  sizeByte := by kernel_rfl
  neB5 := by decide
theorem below_gr (w : World) (q : Nat) (os : Array Obj) : Below w.heap.size w (grow (w.drewN q) os) := by
  refine ⟨rfl, rfl, rfl, by simp [grow, World.drewN], fun b hb => ?_⟩
  simp only [grow]
  exact Array.getElem?_append_left hb
end Go.Proofs.YtlekdfajcpmolaaGreatDoor
