/- Numbers as digits: with noughts ahead, digit by digit. No program is named. The walks of plan.Head, journal.Name, entry.Name, and of the reference's: names. A loop over an iterator whose values read so in the world in which they are handed on; the body always goes on. No function is named. -/
import Derived.Lib.ItoaNum
import Derived.Test.YtfeonfihlleoeaaDoorGAF
import Derived.Test.YtfeonfihlleoeaaDoorLaidS
import Derived.Test.YtfeonfihlleoeaaDoorGAO
import Derived.Laws.Concat
import Derived.Shelf.Strconv.Itoa3
import Derived.Shelf.Strings.Repeat
import Derived.RangeFuncNested
import Derived.RangeFuncBound
import Derived.RangeFuncCalls
import Derived.RangeFuncLeaves
import Derived.RangeFuncBox
import Derived.RangeFuncFrom
import Derived.Test.YtfeonfihlleoeaaDoorGAB
namespace Go.Proofs.YtfeonfihlleoeaaDoor
open Go

/-- so many digits of a number -/
def dgs : Nat → Nat → List UInt8
  | 0, _ => []
  | k + 1, n => dgs k (n / 10) ++ [UInt8.ofNat (48 + n % 10)]
theorem dgs_len : ∀ (k n : Nat), (dgs k n).length = k
  | 0, _ => rfl
  | k + 1, n => by simp [dgs, dgs_len k]
theorem dgs_zero : ∀ (k : Nat), dgs k 0 = List.replicate k 48
  | 0 => rfl
  | k + 1 => by
    rw [dgs, Nat.zero_div, dgs_zero k, List.replicate_succ']
    rfl
/-- one digit more ahead -/
theorem dgs_cons : ∀ (k n : Nat), dgs (k + 1) n = UInt8.ofNat (48 + n / 10 ^ k % 10) :: dgs k n
  | 0, n => by simp [dgs]
  | k + 1, n => by
    have h := dgs_cons k (n / 10)
    rw [dgs, h, List.cons_append]
    congr 3
    rw [Nat.div_div_eq_div_mul, Nat.pow_succ, Nat.mul_comm]
theorem dec_len_le : ∀ (k n : Nat), n < 10 ^ (k + 1) → (Lib.decDigits n).length ≤ k + 1
  | 0, n, h => by rw [Lib.decDigits, dif_pos (by simpa using h)]; simp
  | k + 1, n, h => by
    rw [Lib.decDigits]
    split
    · simp
    · have := dec_len_le k (n / 10) (by rw [Nat.pow_succ] at h; omega)
      simp only [List.length_append, List.length_singleton]
      omega
theorem dec_pos (n : Nat) : 1 ≤ (Lib.decDigits n).length := by
  rw [Lib.decDigits]
  split <;> simp
/-- noughts, then the digits -/
theorem dgs_dec : ∀ (k n : Nat), n < 10 ^ (k + 1) → List.replicate (k + 1 - (Lib.decDigits n).length) 48 ++ Lib.decDigits n = dgs (k + 1) n
  | 0, n, h => by
    have h : n < 10 := by simpa using h
    rw [Lib.decDigits, dif_pos h]
    simp [dgs, Nat.mod_eq_of_lt h]
  | k + 1, n, h => by
    by_cases h1 : n < 10
    · rw [Lib.decDigits, dif_pos h1, dgs, Nat.div_eq_of_lt h1, dgs_zero, Nat.mod_eq_of_lt h1]
      simp
    · have ih := dgs_dec k (n / 10) (by rw [Nat.pow_succ] at h; omega)
      have hl := dec_len_le k (n / 10) (by rw [Nat.pow_succ] at h; omega)
      have e : Lib.decDigits n = Lib.decDigits (n / 10) ++ [UInt8.ofNat (48 + n % 10)] := by rw [Lib.decDigits, dif_neg h1]
      rw [e, dgs, ← ih, List.length_append, List.length_singleton, ← List.append_assoc]
      congr 3
      omega
/-- other numbers have other digits -/
theorem dgs_inj : ∀ (k : Nat) {m n : Nat}, m < 10 ^ k → n < 10 ^ k → dgs k m = dgs k n → m = n
  | 0, m, n, hm, hn, _ => by simp at hm hn; omega
  | k + 1, m, n, hm, hn, h => by
    rw [dgs, dgs] at h
    have h2 := List.append_inj h (by rw [dgs_len, dgs_len])
    have h3 := dgs_inj k (m := m / 10) (n := n / 10) (by rw [Nat.pow_succ] at hm; omega) (by rw [Nat.pow_succ] at hn; omega) h2.1
    have h4 : UInt8.ofNat (48 + m % 10) = UInt8.ofNat (48 + n % 10) := by simpa using h2.2
    have h5 := congrArg UInt8.toNat h4
    simp at h5
    omega
end Go.Proofs.YtfeonfihlleoeaaDoor
namespace Go.Proofs.YtfeonfihlleoeaaDoor
open Go.RowKit Go.WideShapes Go.Sort

/-- bytes as a text -/
def bsS (l : List UInt8) : ByteArray := ⟨l.toArray⟩
theorem bsS_size (l : List UInt8) : (bsS l).size = l.length := by simp [bsS, ByteArray.size]
theorem bsS_add (l m : List UInt8) : (⟨l.toArray⟩ : ByteArray) ++ (⟨m.toArray⟩ : ByteArray) = bsS (l ++ m) := by
  rw [ByteArray.mk_append_mk]
  simp [bsS]
/-- an image's digit -/
def dg1 (i : Int) : Nat := (min (max i 0) 9).toNat
def headS (i : Int) : ByteArray := bsS (104 :: dgs 1 (dg1 i))
def jrnS (i : Int) : ByteArray := bsS (106 :: dgs 1 (dg1 i))
theorem dec1 {d : Nat} (h : d ≤ 9) : Lib.decDigits d = dgs 1 d := by
  rw [Lib.decDigits, dif_pos (by omega)]
  simp [dgs, Nat.mod_eq_of_lt (by omega : d < 10)]
theorem size_mk (l : List UInt8) : (⟨l.toArray⟩ : ByteArray).size = l.length := by simp [ByteArray.size]
set_option maxRecDepth 100000 in
theorem phead_any (i : Int) (w : World) : Calls Tryd.prog 24 #[.int .i64 i] w fun e w' => e = .returned (.string (headS i)) ∧ w = w' := by
  obtain ⟨d, hd⟩ : ∃ d : Nat, min (max i 0) 9 = (d : Int) := ⟨dg1 i, by unfold dg1; omega⟩
  have hd9 : d ≤ 9 := by omega
  have HD : Hid (dg1 i = d) := Lib.hid (by unfold dg1; omega)
  have hcl := fun W => Go.Proofs.Any.strconv_Itoa_small (ρ := Tryd.itoaL_ren) { Tryd.itoaL with } d (by omega) W
  have HC : Hid (∀ W, Calls Tryd.prog 29 #[.int .i64 (d : Nat)] W fun e w' => e = .returned (.string ⟨(Lib.decDigits d).toArray⟩) ∧ w' = W) := Lib.hid hcl
  have hs := fun W => run_string_add_sum (P := Tryd.prog) W ⟨#[104]⟩ ⟨(Lib.decDigits d).toArray⟩ (by show 1 + (⟨(Lib.decDigits d).toArray⟩ : ByteArray).size ≤ _; rw [size_mk, dec1 hd9, dgs_len]; decide)
  have HE : Hid ((⟨#[104]⟩ : ByteArray) ++ (⟨(Lib.decDigits d).toArray⟩ : ByteArray) = headS i) := Lib.hid (by
    rw [show (⟨#[104]⟩ : ByteArray) = ⟨[104].toArray⟩ from rfl, bsS_add, headS, HD.out, dec1 hd9]
    rfl)
  clear hcl
  go_enter Tryd.func24, Tryd.ntmps24
  go_wp2_with fail
  refine (HC.out _).mono ?_
  rintro e w' ⟨rfl, rfl⟩
  go_wp2
  go_ret
  rw [HE.out]
  exact ⟨rfl, rfl⟩
theorem cut1 (a : UInt8) (l : List UInt8) : (bsS (a :: l)).extract 1 (bsS (a :: l)).size = bsS l := by
  unfold bsS
  rw [size_mk]
  apply ByteArray.ext
  simp [ByteArray.data_extract]
set_option maxRecDepth 100000 in
theorem jname_any (i : Int) (w : World) : Calls Tryd.prog 10 #[.int .i64 i] w fun e w' => e = .returned (.string (jrnS i)) ∧ w = w' := by
  have HE : Hid ((⟨#[106]⟩ : ByteArray) ++ (headS i).extract 1 (headS i).size = jrnS i) := Lib.hid (by
    unfold headS
    rw [cut1, show (⟨#[106]⟩ : ByteArray) = ⟨[106].toArray⟩ from rfl, bsS, bsS_add]
    rfl)
  have hsz : (headS i).size = 2 := by simp [headS, bsS_size, dgs_len]
  have hxs : ((headS i).extract 1 (headS i).size).size = 1 := by simp [hsz]
  have hs := fun W => run_string_add_sum (P := Tryd.prog) W ⟨#[106]⟩ ((headS i).extract 1 (headS i).size) (by rw [hxs]; decide)
  have HS := Lib.hid hsz
  have hs1 : 1 ≤ (headS i).size := by omega
  clear hsz hxs
  go_enter Tryd.func10, Tryd.ntmps10
  go_wp2_with fail
  refine (phead_any i _).mono ?_
  rintro e w' ⟨rfl, rfl⟩
  go_wp2
  go_ret
  rw [HE.out]
  exact ⟨rfl, rfl⟩

theorem dg_byte (m : Nat) : (48 : Int) + (m : Int) % 10 = ((UInt8.ofNat (48 + m % 10)).toNat : Int) := by
  have h : (UInt8.ofNat (48 + m % 10)).toNat = (48 + m % 10) % 256 := by simp
  rw [h]
  omega
set_option maxRecDepth 100000 in
set_option maxHeartbeats 1600000 in
theorem rdigits_any (n many : Nat) (hm : many ≤ 20) (hn : n ≤ 1000000000) (w : World) : Calls Tryd.prog 38 #[.int .i64 n, .int .i64 many] w fun e w' => e = .returned (.string (bsS (dgs many n))) ∧ Below w.heap.size w w' := by
  go_enter Tryd.func38, Tryd.ntmps38
  go_wp2
  go_loopw [0, 5, 6] (fun a s i wr => ∃ k : Nat, k ≤ many ∧ i = .int .i64 k ∧ a = .int .i64 (n / 10 ^ k : Nat) ∧ s = .string (bsS (dgs k n)) ∧ Below w.heap.size w wr) (fun _ _ i _ => many - (intOf i).toNat)
  case atStart => exact ⟨0, Nat.zero_le _, rfl, by simp, rfl, Below.refl _ _⟩
  case round =>
    obtain ⟨k, hk, rfl, rfl, rfl, hbr⟩ := hrel
    have HB := Lib.hid hbr
    by_cases hlt : k < many
    · have HX : Hid (n / 10 ^ (k + 1) = n / 10 ^ k / 10) := Lib.hid (by rw [Nat.pow_succ, Nat.div_div_eq_div_mul])
      have HY := Lib.hid (dgs_cons k n)
      have hle : n / 10 ^ k ≤ 1000000000 := Nat.le_trans (Nat.div_le_self _ _) hn
      have hln : (bsS (dgs k n)).size = k := by rw [bsS_size, dgs_len]
      generalize n / 10 ^ k = m at *
      have hdb := dg_byte m
      generalize UInt8.ofNat (48 + m % 10) = B at *
      have hcv := conv_one wr _ B hdb
      have hs := fun W => run_string_add_sum (P := Tryd.prog) W ⟨#[B]⟩ (bsS (dgs k n)) (by rw [hln]; show 1 + k ≤ _; omega)
      have HZ : Hid ((⟨#[B]⟩ : ByteArray) ++ bsS (dgs k n) = bsS (dgs (k + 1) n)) := Lib.hid (by
        rw [HY.out, show (⟨#[B]⟩ : ByteArray) = ⟨[B].toArray⟩ from rfl, bsS, bsS_add]
        rfl)
      clear hdb
      have hk5 : (k : Int) < many := by omega
      clear hbr hln
      go_wp2
      go_roundw
      case rel => exact ⟨k + 1, by omega, by go_num, by rw [HX.out]; go_num, by rw [HZ.out], (HB.out.alloc HB.out.size _)⟩
      case measure => simp [intOf]; omega
    · obtain rfl : k = many := by omega
      clear hbr
      go_wp2
      go_ret
      exact ⟨rfl, HB.out⟩
set_option maxRecDepth 100000 in
theorem rhead_any (i : Int) (w : World) : Calls Tryd.prog 25 #[.int .i64 i] w fun e w' => e = .returned (.string (headS i)) ∧ Below w.heap.size w w' := by
  obtain ⟨d, hd⟩ : ∃ d : Nat, min (max i 0) 9 = (d : Int) := ⟨dg1 i, by unfold dg1; omega⟩
  have hd9 : d ≤ 9 := by omega
  have HD : Hid (dg1 i = d) := Lib.hid (by unfold dg1; omega)
  have hs := fun W => run_string_add_sum (P := Tryd.prog) W ⟨#[104]⟩ (bsS (dgs 1 d)) (by rw [bsS_size, dgs_len]; decide)
  have HE : Hid ((⟨#[104]⟩ : ByteArray) ++ bsS (dgs 1 d) = headS i) := Lib.hid (by
    rw [show (⟨#[104]⟩ : ByteArray) = ⟨[104].toArray⟩ from rfl, bsS, bsS_add, headS, HD.out]
    rfl)
  go_enter Tryd.func25, Tryd.ntmps25
  go_wp2_with fail
  refine (rdigits_any d 1 (by decide) (by omega) _).mono ?_
  rintro e w' ⟨rfl, hb⟩
  have HB := Lib.hid hb
  clear hb
  go_wp2
  go_ret
  rw [HE.out]
  exact ⟨rfl, HB.out⟩
set_option maxRecDepth 100000 in
theorem rjname_any (i : Int) (w : World) : Calls Tryd.prog 11 #[.int .i64 i] w fun e w' => e = .returned (.string (jrnS i)) ∧ Below w.heap.size w w' := by
  have HE : Hid ((⟨#[106]⟩ : ByteArray) ++ (headS i).extract 1 (headS i).size = jrnS i) := Lib.hid (by
    unfold headS
    rw [cut1, show (⟨#[106]⟩ : ByteArray) = ⟨[106].toArray⟩ from rfl, bsS, bsS_add]
    rfl)
  have hsz : (headS i).size = 2 := by simp [headS, bsS_size, dgs_len]
  have hxs : ((headS i).extract 1 (headS i).size).size = 1 := by simp [hsz]
  have hs := fun W => run_string_add_sum (P := Tryd.prog) W ⟨#[106]⟩ ((headS i).extract 1 (headS i).size) (by rw [hxs]; decide)
  have HS := Lib.hid hsz
  have hs1 : 1 ≤ (headS i).size := by omega
  clear hsz hxs
  go_enter Tryd.func11, Tryd.ntmps11
  go_wp2_with fail
  refine (rhead_any i _).mono ?_
  rintro e w' ⟨rfl, hb⟩
  have HB := Lib.hid hb
  clear hb
  go_wp2
  go_ret
  rw [HE.out]
  exact ⟨rfl, HB.out⟩
/-- the key of an entry's number -/
def sq9 (i : Int) : Nat := (min (max i 0) 999999999).toNat
def enK (i : Int) : ByteArray := bsS (101 :: dgs 9 (sq9 i))
theorem rep0 : ∀ c : Nat, Lib.repeatL [48] c = List.replicate c (48 : UInt8)
  | 0 => rfl
  | c + 1 => by
    rw [Lib.repeatL, rep0 c, List.replicate_succ]
    rfl
theorem repX : Builder.Extra Tryd.prog Tryd.repL_ren where
  sizeBuilder := by kernel_rfl
  liesBuilder := by kernel_rfl
  t5 := Tryd.underlying5
  a5 := Tryd.isAgg5
  z5 := Tryd.sizeOf5
  v5 := Tryd.zeroValue5
  infoByte := by kernel_rfl
  cellsByte := by kernel_rfl
  sizeByte := by kernel_rfl
  neB5 := by decide
theorem below_gr (w : World) (q : Nat) (os : Array Obj) : Below w.heap.size w (grow (w.drewN q) os) := by
  refine ⟨rfl, rfl, rfl, by simp [grow, World.drewN], fun b hb => ?_⟩
  simp only [grow]
  exact Array.getElem?_append_left hb
set_option maxRecDepth 100000 in
set_option maxHeartbeats 1600000 in
theorem ename_any (i : Int) (w : World) (hL : LayW w) : Calls Tryd.prog 20 #[.int .i64 i] w fun e w' => e = .returned (.string (enK i)) ∧ Below w.heap.size w w' := by
  obtain ⟨d, hd⟩ : ∃ d : Nat, min (max i 0) 999999999 = (d : Int) := ⟨sq9 i, by unfold sq9; omega⟩
  have hd9 : d ≤ 999999999 := by omega
  have HD : Hid (sq9 i = d) := Lib.hid (by unfold sq9; omega)
  have hl9 : (Lib.decDigits d).length ≤ 9 := dec_len_le 8 d (by omega)
  have hl1 := dec_pos d
  have hdd := dgs_dec 8 d (by omega)
  obtain ⟨c, hc⟩ : ∃ c, c = 9 - (Lib.decDigits d).length := ⟨_, rfl⟩
  have hsz : (⟨(Lib.decDigits d).toArray⟩ : ByteArray).size = (Lib.decDigits d).length := size_mk _
  have hrz : (⟨(Lib.repeatL [48] c).toArray⟩ : ByteArray).size = c := by rw [size_mk, rep0, List.length_replicate]
  have hs := fun W => run_string_add_sum (P := Tryd.prog) W ⟨#[101]⟩ ⟨(Lib.repeatL [48] c).toArray⟩ (by rw [hrz]; show 1 + c ≤ _; omega)
  have hez : ((⟨#[101]⟩ : ByteArray) ++ (⟨(Lib.repeatL [48] c).toArray⟩ : ByteArray)).size = 1 + c := by rw [ByteArray.size_append, hrz]; rfl
  have hs2 := fun W => run_string_add_sum (P := Tryd.prog) W ((⟨#[101]⟩ : ByteArray) ++ (⟨(Lib.repeatL [48] c).toArray⟩ : ByteArray)) ⟨(Lib.decDigits d).toArray⟩ (by rw [hez, hsz]; omega)
  have HE : Hid ((⟨#[101]⟩ : ByteArray) ++ (⟨(Lib.repeatL [48] c).toArray⟩ : ByteArray) ++ (⟨(Lib.decDigits d).toArray⟩ : ByteArray) = enK i) := Lib.hid (by
    rw [show (⟨#[101]⟩ : ByteArray) = ⟨[101].toArray⟩ from rfl, bsS_add, bsS, bsS_add, rep0, enK, HD.out, ← hdd, hc]
    rfl)
  have hi := fun W (h : Lib.TabIs Tryd.prog W "internal/strconv.uint64pow10" .u64 Lib.pow10Tab) => Go.Proofs.Any.strconv_Itoa (ρ := Tryd.itoaL_ren) Tryd.itoaL (d : Int) (by omega) (by omega) W h
  rw [Lib.itoa_nonneg] at hi
  have HC : Hid (∀ W, LayW W → Calls Tryd.prog 29 #[.int .i64 (d : Nat)] W fun e w' => e = .returned (.string ⟨(Lib.decDigits d).toArray⟩) ∧ Below W.heap.size W w') := Lib.hid fun W h => (hi W h.pow).mono fun e w' ⟨h1, k, os, h2⟩ => ⟨h1, h2 ▸ below_gr W k os⟩
  have HR : Hid (∀ W, Calls Tryd.prog 30 #[.string ⟨#[48]⟩, .int .i64 (c : Nat)] W fun e w' => e = .returned (.string ⟨(Lib.repeatL [48] c).toArray⟩) ∧ Below W.heap.size W w') := Lib.hid fun W => Go.Proofs.Any.strings_Repeat (ρ := Tryd.repL_ren) Tryd.repL repX ⟨#[48]⟩ c W (by omega) (by show 1 * c ≤ _; omega)
  have hw : IntKind.i64.wrap ((9 : Int) - (Lib.decDigits d).length) = (c : Int) := by rw [IntKind.wrap_i64]; omega
  have hw2 : (9 : Int) - (Lib.decDigits d).length = (c : Int) := by omega
  have HL := Lib.hid hL
  have HDD := Lib.hid hdd
  clear hL hdd hi hrz hez hc
  go_enter Tryd.func20, Tryd.ntmps20
  go_wp2_with fail
  refine (HC.out _ HL.out).mono ?_
  rintro e w1 ⟨rfl, hb1⟩
  have HB1 := Lib.hid hb1
  clear hb1
  go_wp2_with fail
  refine (HR.out _).mono ?_
  rintro e w2 ⟨rfl, hb2⟩
  have HB2 := Lib.hid (HB1.out.trans (hb2.mono HB1.out.size))
  clear hb2
  go_wp2
  go_ret
  rw [HE.out]
  exact ⟨rfl, HB2.out⟩
set_option maxRecDepth 100000 in
set_option maxHeartbeats 1600000 in
theorem rename_any (x : Int) (w : World) : Calls Tryd.prog 22 #[.int .i64 x] w fun e w' => e = .returned (.string (enK x)) ∧ Below w.heap.size w w' := by
  obtain ⟨n, hd⟩ : ∃ d : Nat, min (max x 0) 999999999 = (d : Int) := ⟨sq9 x, by unfold sq9; omega⟩
  have hn : n ≤ 1000000000 := by omega
  have HD : Hid (sq9 x = n) := Lib.hid (by unfold sq9; omega)
  go_enter Tryd.func22, Tryd.ntmps22
  go_wp2
  go_loopw [3, 4, 5] (fun a s i wr => ∃ k : Nat, k ≤ 9 ∧ i = .int .i64 k ∧ a = .int .i64 (n / 10 ^ k : Nat) ∧ s = .string (bsS (dgs k n)) ∧ Below w.heap.size w wr) (fun _ _ i _ => 9 - (intOf i).toNat)
  case atStart => exact ⟨0, Nat.zero_le _, rfl, by simp, rfl, Below.refl _ _⟩
  case round =>
    obtain ⟨k, hk, rfl, rfl, rfl, hbr⟩ := hrel
    have HB := Lib.hid hbr
    by_cases hlt : k < 9
    · have HX : Hid (n / 10 ^ (k + 1) = n / 10 ^ k / 10) := Lib.hid (by rw [Nat.pow_succ, Nat.div_div_eq_div_mul])
      have HY := Lib.hid (dgs_cons k n)
      have hle : n / 10 ^ k ≤ 1000000000 := Nat.le_trans (Nat.div_le_self _ _) hn
      have hln : (bsS (dgs k n)).size = k := by rw [bsS_size, dgs_len]
      generalize n / 10 ^ k = m at *
      have hdb := dg_byte m
      generalize UInt8.ofNat (48 + m % 10) = B at *
      have hcv := conv_one wr _ B hdb
      have hs := fun W => run_string_add_sum (P := Tryd.prog) W ⟨#[B]⟩ (bsS (dgs k n)) (by rw [hln]; show 1 + k ≤ _; omega)
      have HZ : Hid ((⟨#[B]⟩ : ByteArray) ++ bsS (dgs k n) = bsS (dgs (k + 1) n)) := Lib.hid (by
        rw [HY.out, show (⟨#[B]⟩ : ByteArray) = ⟨[B].toArray⟩ from rfl, bsS, bsS_add]
        rfl)
      clear hdb
      have hk5 : (k : Int) < 9 := by omega
      clear hbr hln
      go_wp2
      go_roundw
      case rel => exact ⟨k + 1, by omega, by go_num, by rw [HX.out]; go_num, by rw [HZ.out], (HB.out.alloc HB.out.size _)⟩
      case measure => simp [intOf]; omega
    · obtain rfl : k = 9 := by omega
      have hs := fun W => run_string_add_sum (P := Tryd.prog) W ⟨#[101]⟩ (bsS (dgs 9 n)) (by rw [bsS_size, dgs_len]; decide)
      have HE : Hid ((⟨#[101]⟩ : ByteArray) ++ bsS (dgs 9 n) = enK x) := Lib.hid (by
        rw [show (⟨#[101]⟩ : ByteArray) = ⟨[101].toArray⟩ from rfl, bsS, bsS_add, enK, HD.out]
        rfl)
      clear hbr
      go_wp2
      go_ret
      rw [HE.out]
      exact ⟨rfl, HB.out⟩
end Go.Proofs.YtfeonfihlleoeaaDoor
namespace Go.Proofs.YtfeonfihlleoeaaDoor
open Go.RowKit

/-- an iterator: its values read so when they are handed on, and still when it ends -/
def SeqPre {α : Type} (F : Fence) (n : Nat) (P : Program) (g : Nat) (lb : Array Value) (encs : α → Array Value) (Pre : α → World → Prop) (Kp : World → World → Prop) (S : List α → World → Prop) (N : Nat) (w : World) : Prop :=
  ∀ (l : Nat) (J : List α → World → Prop) (W : World), Below w.heap.size w W → (∀ s A B, J s A → Below A.heap.size A B → J s B) →
    (∀ pre x W1, J pre W1 → Pre x W1 → pre.length < N → YieldAt F (n - 1) P l (encs x) W1 fun e W' => e = .returned (.bool true) ∧ J (pre ++ [x]) W' ∧ Kp W1 W') →
    J [] W → CallsIn F n P g (#[.func (.yield l) #[] #[]] ++ lb) W fun e W' => (∃ v, e = .returned v) ∧ ∃ xs, J xs W' ∧ S xs W'
section
variable {F : Fence} {n : Nat} {P : Program}
theorem range_pre {α : Type} {g : Operand} {ps : Array Tmp} {assign body : Code} {Q : Exit → Act → World → Prop} {a : Act} {w : World} (hro : F.round = none) (h1 : 1 ≤ n) {gf : Nat} {lb : Array Value}
    (hg : a.eval g = .func (.func gf) #[] lb) (hF : F.fn gf) (eg : ∀ args w, (callFunc gf args).run P w = .ok (.enter gf args) w)
    {encs : α → Array Value} {Pre : α → World → Prop} {Kp : World → World → Prop} {S : List α → World → Prop} {N : Nat} {w0 : World} (hseq : SeqPre F (n - 1) P gf lb encs Pre Kp S N w0)
    (hKt : ∀ {A B C : World}, Kp A B → Kp B C → Kp A C) (hKb : ∀ (W : World) (l : Nat) (o o' : Obj), W.heap[l]? = some o → o.isCells = false → Kp W (W.putObj l o')) (hb0 : Below w0.heap.size w0 w) (hps : ∀ x, (encs x).size = ps.size)
    (I : List α → World → Prop) (hIb : ∀ s A B, I s A → Below A.heap.size A B → I s B) (hIp : ∀ s (W : World) l o o', I s W → w.heap.size ≤ l → W.heap[l]? = some o → o.isCells = false → o.isWalk = false → I s (W.putObj l o'))
    (hKe : ∀ (A B : World), Below A.heap.size A B → Kp A B) (hPb : ∀ x A B, Pre x A → Below A.heap.size A B → Pre x B) (bx : α → Obj) (_hbx : ∀ x, (bx x).isCells = true)
    (hPp : ∀ x (W : World) l o o', Pre x W → W.heap[l]? = some o → o.isCells = false → Pre x (W.putObj l o')) (hSp : ∀ xs (W : World) l o o', S xs W → W.heap[l]? = some o → o.isCells = false → S xs (W.putObj l o')) (h0 : I [] w) (a₁ : α → Nat → Act)
    (hassign : ∀ (l : Nat) (x : α) (W : World) (K : Act → World → Prop), K (a₁ x W.heap.size) (W.alloc (bx x)) →
      assign.wpIn (F.inRound l) (n - 1 - 1) P (Exit.then K (fun _ _ _ => False)) { tmps := (ps.zip (encs x)).foldl (fun t (p, v) => t.setIfInBounds p v) a.tmps, defers := [] } W)
    (hbody : ∀ (l : Nat) (pre : List α) (x : α) (W : World) (q : Nat), I pre W → Pre x W → W.heap[q]? = some (bx x) → w.heap.size ≤ q → pre.length < N → body.wpIn (F.inRound l) (n - 1 - 1) P (fun e _ W' => e = .normal ∧ KeepsOthers W W' ∧ Kp W W' ∧ I (pre ++ [x]) W') (a₁ x q) W)
    (hdone : ∀ (D : Nat) (xs : List α) (W : World), w.heap.size ≤ D → S xs W → I xs W → W.heap[D]? = some (.deferred (some [])) → Q .normal { a with defers := { target := .collected D, args := #[] } :: a.defers } W) :
    (Code.rangeFunc g ps assign body).wpIn F n P Q a w := by
  refine wpIn_rangeFunc fun fn hfn => ?_
  rw [hro]
  let D := w.heap.size
  let L := w.heap.size + 1
  let rec0 : LoopState → Loop := fun st => { state := st, pending := none, fn, tmps := a.tmps, params := ps, assign, body, defers := D }
  obtain ⟨W1, hW1⟩ : ∃ W1, W1 = (w.alloc (.deferred (some []))).alloc (.loop (rec0 .ready)) := ⟨_, rfl⟩
  have hgrow : Below w.heap.size w W1 := by rw [hW1]; exact ((Below.refl _ w).alloc (Nat.le_refl _) _).alloc (by simp) _
  have hD : W1.heap[D]? = some (.deferred (some [])) := by rw [hW1]; exact (Below.heap_alloc _ _ _ (by show w.heap.size < _; simp)).trans (heap_alloc_new w _)
  have hL : W1.heap[L]? = some (.loop (rec0 .ready)) := by
    rw [hW1]
    have := heap_alloc_new (w.alloc (.deferred (some []))) (.loop (rec0 .ready))
    rwa [World.size_alloc] at this
  -- what holds between the rounds
  let J : List α → World → Prop := fun pre W => I pre W ∧ W.heap[L]? = some (.loop (rec0 .ready)) ∧ W.heap[D]? = some (.deferred (some []))
  have hJb : ∀ s A B, J s A → Below A.heap.size A B → J s B := fun s A B ⟨hi, hl, hd⟩ hb =>
    ⟨hIb s A B hi hb, (hb.block _ (Array.getElem?_eq_some_iff.1 hl).1).trans hl, (hb.block _ (Array.getElem?_eq_some_iff.1 hd).1).trans hd⟩
  have hround : ∀ pre x W, J pre W → Pre x W → pre.length < N → YieldAt F (n - 1 - 1) P L (encs x) W fun e W' => e = .returned (.bool true) ∧ J (pre ++ [x]) W' ∧ Kp W W' := by
    rintro pre x W ⟨hi, hl, hd⟩ hx hlen
    have hba : Below W.heap.size W (W.alloc (bx x)) := (Below.refl _ W).alloc (Nat.le_refl _) _
    have hlw := (Array.getElem?_eq_some_iff.1 hl).1
    obtain ⟨Wa, hWa⟩ : ∃ Wa, Wa = W.alloc (bx x) := ⟨_, rfl⟩
    rw [← hWa] at hba
    have hqa : Wa.heap[W.heap.size]? = some (bx x) := by rw [hWa]; exact heap_alloc_new _ _
    have hla : Wa.heap[L]? = some (.loop (rec0 .ready)) := (hba.block _ hlw).trans hl
    have hda : Wa.heap[D]? = some (.deferred (some [])) := (hba.block _ (Array.getElem?_eq_some_iff.1 hd).1).trans hd
    have hlt := (Array.getElem?_eq_some_iff.1 hla).1
    obtain ⟨Wb, hWb⟩ : ∃ Wb, Wb = Wa.putObj L (.loop (rec0 .busy)) := ⟨_, rfl⟩
    have hqb : Wb.heap[W.heap.size]? = some (bx x) := by rw [hWb]; exact (World.putObj_heap_other (by show W.heap.size ≠ L; omega)).trans hqa
    have hlb : Wb.heap[L]? = some (.loop (rec0 .busy)) := by rw [hWb]; exact World.putObj_heap_same hlt
    have hdb : Wb.heap[D]? = some (.deferred (some [])) := by rw [hWb]; exact (World.putObj_heap_other (by show w.heap.size ≠ w.heap.size + 1; omega)).trans hda
    have hib : I pre Wb := by rw [hWb]; exact hIp _ _ _ _ _ (hIb _ _ _ hi hba) (by show w.heap.size ≤ w.heap.size + 1; omega) hla rfl rfl
    have hxb : Pre x Wb := by rw [hWb]; exact hPp _ _ _ _ _ (hPb _ _ _ hx hba) hla rfl
    have hkb : Kp W Wb := by rw [hWb]; exact hKt (hKe _ _ hba) (hKb _ _ _ _ hla rfl)
    refine ⟨fn, _, assign, body, run_yield hl (hps x), roundIn_of_wpIn hfn (hassign _ x W _ ⟨Wb, by rw [hWb, ← hWa]; exact run_beginRound hla rfl, wpIn_mono (hbody L pre x Wb W.heap.size hib hxb hqb (by have : w.heap.size + 1 < W.heap.size := hlw; omega) hlen) ?_⟩)⟩
    rintro e _ W3 ⟨rfl, hk, hkp, hi3⟩
    have hl3 := hk.same _ _ hlb rfl
    have hd3 := hk.same _ _ hdb rfl
    have hlt3 := (Array.getElem?_eq_some_iff.1 hl3).1
    exact ⟨_, _, run_endRound none hl3, rfl, ⟨hIp _ _ _ _ _ hi3 (by show w.heap.size ≤ w.heap.size + 1; omega) hl3 rfl rfl, World.putObj_heap_same hlt3, (World.putObj_heap_other (by show w.heap.size ≠ w.heap.size + 1; omega)).trans hd3⟩, hKt (hKt hkb hkp) (hKb _ _ _ _ hl3 rfl)⟩
  refine ⟨L, [{ target := .collected D, args := #[] }], W1, { target := .fn (.func gf) lb, args := #[.func (.yield L) #[] #[]] }, W1, gf, #[.func (.yield L) #[] #[]] ++ lb, W1, ?_, ?_, fun f' hf' => ?_, ?_, fun _ => h1, ?_⟩
  · rw [hW1]; exact run_enterLoop_outer fn a.tmps ps assign body
  · simp only [resolve, hg]
    simp [go_sem]
  · simp [Target.leads] at hf'
    subst hf'
    exact hF
  · simp [invoke, go_sem, eg]
  · refine (hseq L J W1 (hb0.trans (hgrow.mono hb0.size)) hJb hround ⟨hIb _ _ _ h0 hgrow, hL, hD⟩).mono ?_
    rintro e W2 ⟨⟨v, rfl⟩, xs, ⟨hi, hl, hd⟩, hs⟩
    exact ⟨none, _, run_endLoop hl (by show LoopState.ready ≠ .busy; exact LoopState.noConfusion), hdone D xs _ (Nat.le_refl _) (hSp _ _ _ _ _ hs hl rfl) (hIp _ _ _ _ _ hi (by show w.heap.size ≤ w.heap.size + 1; omega) hl rfl rfl) ((World.putObj_heap_other (by show w.heap.size ≠ w.heap.size + 1; omega)).trans hd)⟩
end
end Go.Proofs.YtfeonfihlleoeaaDoor
