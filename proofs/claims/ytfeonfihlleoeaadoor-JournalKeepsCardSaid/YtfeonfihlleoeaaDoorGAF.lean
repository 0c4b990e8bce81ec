/- Requests as bytes: the plain law. No program is named. Entries as bytes, plainly: whether one may be, what its kind names, its bytes, bytes' entry; there and back. No program is named. The walk's words for the sum of bytes: 32-bit registers as integers. No program is named. The table of frame's sum, out of the row's listed variables. What law 20's rows list: the table of frame's sum, the powers of ten, what each kind of entry names. -/
import Derived.Test.YtfeonfihlleoeaaDoorGAE
import Derived.Test.YtfeonfihlleoeaaDoorGAA
import Derived.Lib.LaidTab
import Derived.LaidSub
import Derived.Lib.AppendIntMem
import Derived.Lib.ItoaNum
namespace Go.Proofs.YtfeonfihlleoeaaDoor

def catB (W : Nat) (ns : List Nat) : List UInt8 := ns.flatMap (be W)
theorem catB_take (W : Nat) (ns : List Nat) (k : Nat) (h : k < ns.length) : catB W (ns.take (k + 1)) = catB W (ns.take k) ++ be W ns[k] := by
  unfold catB
  rw [List.take_succ_eq_append_getElem h, List.flatMap_append]
  simp
theorem catB_length (W : Nat) (ns : List Nat) : (catB W ns).length = ns.length * W := by
  induction ns with
  | nil => simp [catB]
  | cons n ns ih =>
    have : catB W (n :: ns) = be W n ++ catB W ns := by simp [catB]
    rw [this, List.length_append, be_length, ih, List.length_cons, Nat.add_mul]
    omega
/-- a request's body -/
def bodyQ (c l s k i w n : Nat) (x : List UInt8) : List UInt8 :=
  [] ++ catB 1 [c] ++ catB 4 [l] ++ catB 6 [s] ++ catB 1 [k, i, w] ++ catB 6 [n] ++ be 2 x.length ++ x
theorem bodyQ_length (c l s k i w n : Nat) (x : List UInt8) : (bodyQ c l s k i w n x).length = x.length + 22 := by
  simp [bodyQ, catB_length, be_length]
  omega
/-- numbers read one behind the other -/
def rdStep (s : List Nat × Rd) (W : Nat) : List Nat × Rd := (s.1 ++ [(s.2.num W).1], (s.2.num W).2)
def rdNums (ws : List Nat) (r : Rd) : List Nat × Rd := ws.foldl rdStep ([], r)
theorem rdNums_take (ws : List Nat) (r : Rd) (k : Nat) (h : k < ws.length) : rdNums (ws.take (k + 1)) r = rdStep (rdNums (ws.take k) r) ws[k] := by
  unfold rdNums
  rw [List.take_succ_eq_append_getElem h, List.foldl_append]
  rfl
theorem rdNums_length (ws : List Nat) (r : Rd) : (rdNums ws r).1.length = ws.length := by
  have : ∀ (ws : List Nat) (s : List Nat × Rd), (ws.foldl rdStep s).1.length = s.1.length + ws.length := by
    intro ws
    induction ws with
    | nil => intro s; simp
    | cons w ws ih =>
      intro s
      rw [List.foldl_cons, ih]
      simp [rdStep]
      omega
  simpa [rdNums] using this ws ([], r)
theorem rdNums_inv (ws : List Nat) (r : Rd) (hr : r.ok) (he : r.e < 1000) : (rdNums ws r).2.ok ∧ (rdNums ws r).2.e < 1000 ∧ (rdNums ws r).2.l.length ≤ r.l.length := by
  have : ∀ (ws : List Nat) (s : List Nat × Rd), s.2.ok → s.2.e < 1000 → (ws.foldl rdStep s).2.ok ∧ (ws.foldl rdStep s).2.e < 1000 ∧ (ws.foldl rdStep s).2.l.length ≤ s.2.l.length := by
    intro ws
    induction ws with
    | nil => intro s h1 h2; exact ⟨h1, h2, Nat.le_refl _⟩
    | cons w ws ih =>
      intro s h1 h2
      rw [List.foldl_cons]
      have h3 := Rd.num_ok h1 w
      have h4 : (rdStep s w).2.e < 1000 := by
        show (s.2.take w).2.e < 1000
        unfold Rd.take
        split
        · exact h2
        · split
          · show 10 < 1000; decide
          · show 0 < 1000; decide
      obtain ⟨a, b, c⟩ := ih (rdStep s w) h3 h4
      exact ⟨a, b, Nat.le_trans c (Rd.num_len s.2 w)⟩
  exact this ws ([], r) hr he
def wsQ : List Nat := [1, 4, 6, 1, 1, 1, 6]
theorem catB_one (W n : Nat) : catB W [n] = be W n := by simp [catB]
theorem rdNums_bodyQ (c l s k i w n : Nat) (x : List UInt8) (hc : c < 256) (hl : l < 256 ^ 4) (hs : s < 256 ^ 6) (hk : k < 256) (hi : i < 256) (hw : w < 256) (hn : n < 256 ^ 6) :
    rdNums wsQ ⟨bodyQ c l s k i w n x, 0⟩ = ([c, l, s, k, i, w, n], ⟨be 2 x.length ++ x, 0⟩) := by
  have e : bodyQ c l s k i w n x = be 1 c ++ (be 4 l ++ (be 6 s ++ (be 1 k ++ (be 1 i ++ (be 1 w ++ (be 6 n ++ (be 2 x.length ++ x))))))) := by
    simp [bodyQ, catB, List.append_assoc]
  rw [e]
  simp only [rdNums, wsQ, List.foldl_cons, List.foldl_nil, rdStep]
  rw [Rd.num_be 1 c _ (by simpa using hc)]
  simp only
  rw [Rd.num_be 4 l _ hl]
  simp only
  rw [Rd.num_be 6 s _ hs]
  simp only
  rw [Rd.num_be 1 k _ (by simpa using hk)]
  simp only
  rw [Rd.num_be 1 i _ (by simpa using hi)]
  simp only
  rw [Rd.num_be 1 w _ (by simpa using hw)]
  simp only
  rw [Rd.num_be 6 n _ hn]
  simp
end Go.Proofs.YtfeonfihlleoeaaDoor
namespace Go.Proofs.YtfeonfihlleoeaaDoor
open Go.RowKit

structure EnD where
  seq : Int
  owner : Int
  kind : Int
  off : Int
  len : Int
  snap : Int
  data : List UInt8
def EnD.none : EnD := ⟨0, 0, 0, 0, 0, 0, []⟩
/-- may an entry be? -/
def mayE (e : EnD) : Bool :=
  decide (1 ≤ e.seq ∧ e.seq ≤ 1099511627776) && decide (0 ≤ e.owner ∧ e.owner ≤ 7) &&
  (if e.kind = 1 then decide (1 ≤ e.data.length ∧ e.data.length ≤ 128) && decide (0 ≤ e.off ∧ e.off ≤ 512)
   else if e.kind = 2 then decide (1 ≤ e.len ∧ e.len ≤ 512) && decide (0 ≤ e.off ∧ e.off ≤ 512)
   else if e.kind = 3 then decide (0 ≤ e.len ∧ e.len ≤ 512)
   else if e.kind = 4 then true
   else if e.kind = 5 ∨ e.kind = 6 then decide (1 ≤ e.snap ∧ e.snap ≤ 100)
   else false)
/-- an entry without what its kind doesn't name -/
def clE (e : EnD) : EnD :=
  ⟨e.seq, e.owner, e.kind, if e.kind = 1 ∨ e.kind = 2 then e.off else 0, if e.kind = 2 ∨ e.kind = 3 then e.len else 0, if e.kind = 5 ∨ e.kind = 6 then e.snap else 0, if e.kind = 1 then e.data else []⟩
/-- what is named of an entry that may be -/
structure SmE (e : EnD) : Prop where
  mk ::
  seq : 1 ≤ e.seq ∧ e.seq ≤ 1099511627776
  owner : 0 ≤ e.owner ∧ e.owner ≤ 7
  kind : 1 ≤ e.kind ∧ e.kind ≤ 6
  off : 0 ≤ e.off ∧ e.off ≤ 512
  len : 0 ≤ e.len ∧ e.len ≤ 512
  snap : 0 ≤ e.snap ∧ e.snap ≤ 100
  data : e.data.length ≤ 128
theorem kind_ways {e : EnD} (h : mayE e = true) : (e.kind = 1 ∨ e.kind = 2 ∨ e.kind = 3 ∨ e.kind = 4 ∨ e.kind = 5 ∨ e.kind = 6) ∧ (1 ≤ e.seq ∧ e.seq ≤ 1099511627776) ∧ (0 ≤ e.owner ∧ e.owner ≤ 7) ∧
    (e.kind = 1 → (1 ≤ e.data.length ∧ e.data.length ≤ 128) ∧ 0 ≤ e.off ∧ e.off ≤ 512) ∧ (e.kind = 2 → (1 ≤ e.len ∧ e.len ≤ 512) ∧ 0 ≤ e.off ∧ e.off ≤ 512) ∧ (e.kind = 3 → 0 ≤ e.len ∧ e.len ≤ 512) ∧ (e.kind = 5 ∨ e.kind = 6 → 1 ≤ e.snap ∧ e.snap ≤ 100) := by
  unfold mayE at h
  rw [Bool.and_eq_true, Bool.and_eq_true, decide_eq_true_iff, decide_eq_true_iff] at h
  obtain ⟨⟨h1, h2⟩, h3⟩ := h
  by_cases k1 : e.kind = 1
  · rw [if_pos k1, Bool.and_eq_true, decide_eq_true_iff, decide_eq_true_iff] at h3
    exact ⟨.inl k1, h1, h2, fun _ => h3, fun k => by omega, fun k => by omega, fun k => by omega⟩
  · rw [if_neg k1] at h3
    by_cases k2 : e.kind = 2
    · rw [if_pos k2, Bool.and_eq_true, decide_eq_true_iff, decide_eq_true_iff] at h3
      exact ⟨.inr (.inl k2), h1, h2, fun k => by omega, fun _ => h3, fun k => by omega, fun k => by omega⟩
    · rw [if_neg k2] at h3
      by_cases k3 : e.kind = 3
      · rw [if_pos k3, decide_eq_true_iff] at h3
        exact ⟨by omega, h1, h2, fun k => by omega, fun k => by omega, fun _ => h3, fun k => by omega⟩
      · rw [if_neg k3] at h3
        by_cases k4 : e.kind = 4
        · exact ⟨by omega, h1, h2, fun k => by omega, fun k => by omega, fun k => by omega, fun k => by omega⟩
        · rw [if_neg k4] at h3
          by_cases k5 : e.kind = 5 ∨ e.kind = 6
          · rw [if_pos k5, decide_eq_true_iff] at h3
            exact ⟨by omega, h1, h2, fun k => by omega, fun k => by omega, fun k => by omega, fun _ => h3⟩
          · rw [if_neg k5] at h3
            cases h3
theorem clE_small {e : EnD} (h : mayE e = true) : SmE (clE e) := by
  obtain ⟨hk, h1, h2, h3, h4, h5, h6⟩ := kind_ways h
  refine ⟨h1, h2, by simp only [clE]; omega, ?_, ?_, ?_, ?_⟩
  · simp only [clE]
    split
    · rename_i k
      rcases k with k | k
      · exact (h3 k).2
      · exact (h4 k).2
    · omega
  · simp only [clE]
    split
    · rename_i k
      rcases k with k | k
      · have := (h4 k).1; omega
      · exact h5 k
    · omega
  · simp only [clE]
    split
    · rename_i k
      have := h6 k; omega
    · omega
  · simp only [clE]
    split
    · rename_i k
      exact (h3 k).1.2
    · simp
theorem clE_may {e : EnD} (h : mayE e = true) : mayE (clE e) = true := by
  obtain ⟨hk, h1, h2, h3, h4, h5, h6⟩ := kind_ways h
  rcases hk with k | k | k | k | k | k
  · have := h3 k; simp [mayE, clE, k]; omega
  · have := h4 k; simp [mayE, clE, k]; omega
  · have := h5 k; simp [mayE, clE, k]; omega
  · simp [mayE, clE, k]; omega
  · have := h6 (.inl k); simp [mayE, clE, k]; omega
  · have := h6 (.inr k); simp [mayE, clE, k]; omega
theorem clE_idem (e : EnD) : clE (clE e) = clE e := by
  simp only [clE]
  congr 1 <;> split <;> simp_all
/-- an entry's body -/
def bodyE (e : EnD) : List UInt8 := be 6 e.seq.toNat ++ be 1 e.owner.toNat ++ be 2 e.off.toNat ++ be 2 e.len.toNat ++ be 1 e.snap.toNat ++ be 2 e.data.length ++ e.data
/-- an entry's bytes -/
def pkE (e : EnD) : List UInt8 := if mayE e then frm e.kind.toNat (bodyE (clE e)) else []
theorem bodyE_len (e : EnD) : (bodyE e).length = e.data.length + 14 := by
  simp only [bodyE, List.length_append, be_length]
  omega
def wsE : List Nat := [6, 1, 2, 2, 1]
/-- bytes' entry -/
def unHd (l : List UInt8) : Nat := if (nextB l).e ≠ 0 then (nextB l).e else if 0 < (nextB l).rest.length then 11 else 0
def unEN (l : List UInt8) : List Nat × Rd := rdNums wsE ⟨(nextB l).body, 0⟩
def unED (l : List UInt8) : List UInt8 × Rd := (unEN l).2.blob 128
def unEX (l : List UInt8) : EnD := ⟨(unEN l).1.getD 0 0, (unEN l).1.getD 1 0, (nextB l).kind, (unEN l).1.getD 2 0, (unEN l).1.getD 3 0, (unEN l).1.getD 4 0, (unED l).1⟩
/-- is an entry clean? (as the code asks) -/
def isClE (x : EnD) : Bool := decide ((clE x).off = x.off) && decide ((clE x).len = x.len) && decide ((clE x).snap = x.snap) && decide ((clE x).data.length = x.data.length)
def unEE (l : List UInt8) : Int := if unHd l ≠ 0 then unHd l else if (unED l).2.fin.e ≠ 0 then (unED l).2.fin.e else if mayE (unEX l) && isClE (unEX l) then 0 else 70
def unE (l : List UInt8) : EnD × Int := if unEE l = 0 then (unEX l, 0) else (EnD.none, unEE l)
theorem isClE_cl (e : EnD) : isClE (clE e) = true := by simp [isClE, clE_idem]
theorem rdNums_bodyE {s o f n p : Nat} {R : List UInt8} (h1 : s < 256 ^ 6) (h2 : o < 256) (h3 : f < 256 ^ 2) (h4 : n < 256 ^ 2) (h5 : p < 256) :
    rdNums wsE ⟨be 6 s ++ (be 1 o ++ (be 2 f ++ (be 2 n ++ (be 1 p ++ R)))), 0⟩ = ([s, o, f, n, p], ⟨R, 0⟩) := by
  simp only [rdNums, wsE, List.foldl_cons, List.foldl_nil, rdStep]
  rw [Rd.num_be 6 s _ h1]
  simp only
  rw [Rd.num_be 1 o _ (by simpa using h2)]
  simp only
  rw [Rd.num_be 2 f _ h3]
  simp only
  rw [Rd.num_be 2 n _ h4]
  simp only
  rw [Rd.num_be 1 p _ (by simpa using h5)]
  simp
/-- what is packed is unpacked -/
theorem un_pkE {e : EnD} (h : mayE e = true) : unE (pkE e) = (clE e, 0) := by
  have hs := clE_small h
  have hm := clE_may h
  have hi := isClE_cl e
  have hk : e.kind = (clE e).kind := rfl
  unfold pkE
  rw [if_pos h, hk]
  generalize clE e = c at *
  clear h hk
  obtain ⟨cs, co, ck, cf, cn, cp, cd⟩ := c
  obtain ⟨⟨i1, i2⟩, ⟨i3, i4⟩, ⟨i5, i6⟩, ⟨i7, i8⟩, ⟨i9, i10⟩, ⟨i11, i12⟩, hd⟩ := hs
  simp only at i1 i2 i3 i4 i5 i6 i7 i8 i9 i10 i11 i12 hd
  obtain ⟨s, rfl⟩ := Int.eq_ofNat_of_zero_le (by omega : 0 ≤ cs)
  obtain ⟨o, rfl⟩ := Int.eq_ofNat_of_zero_le i3
  obtain ⟨k, rfl⟩ := Int.eq_ofNat_of_zero_le (by omega : 0 ≤ ck)
  obtain ⟨f, rfl⟩ := Int.eq_ofNat_of_zero_le i7
  obtain ⟨n, rfl⟩ := Int.eq_ofNat_of_zero_le i9
  obtain ⟨p, rfl⟩ := Int.eq_ofNat_of_zero_le i11
  have hbl := bodyE_len ⟨(s : Int), (o : Int), (k : Int), (f : Int), (n : Int), (p : Int), cd⟩
  simp only at hbl
  have hb : (bodyE ⟨(s : Int), (o : Int), (k : Int), (f : Int), (n : Int), (p : Int), cd⟩).length ≤ 8192 := by omega
  have hn := next_frm k _ (by omega) hb
  have hbo : bodyE ⟨(s : Int), (o : Int), (k : Int), (f : Int), (n : Int), (p : Int), cd⟩ = be 6 s ++ (be 1 o ++ (be 2 f ++ (be 2 n ++ (be 1 p ++ (be 2 cd.length ++ cd))))) := by
    simp [bodyE, List.append_assoc]
  have hr := rdNums_bodyE (s := s) (o := o) (f := f) (n := n) (p := p) (R := be 2 cd.length ++ cd) (by omega) (by omega) (by omega) (by omega) (by omega)
  rw [← hbo] at hr
  have hkk : ((k : Int)).toNat = k := by simp
  simp only at *
  rw [hkk]
  generalize bodyE ⟨(s : Int), (o : Int), (k : Int), (f : Int), (n : Int), (p : Int), cd⟩ = Bd at *
  have hN : unEN (frm k Bd) = ([s, o, f, n, p], ⟨be 2 cd.length ++ cd, 0⟩) := by
    unfold unEN
    rw [hn]
    exact hr
  have hD : unED (frm k Bd) = (cd, ⟨[], 0⟩) := by
    unfold unED
    rw [hN]
    have := Rd.blob_be 128 cd [] (by omega) (by omega)
    rwa [List.append_nil] at this
  have hH : unHd (frm k Bd) = 0 := by
    unfold unHd
    rw [hn]
    rfl
  have hX : unEX (frm k Bd) = ⟨(s : Int), (o : Int), (k : Int), (f : Int), (n : Int), (p : Int), cd⟩ := by
    unfold unEX
    rw [hN, hD, hn]
    rfl
  have hE : unEE (frm k Bd) = 0 := by
    unfold unEE
    rw [hH, hD, hX, hm, hi]
    rfl
  unfold unE
  rw [hE, hX]
  rfl
end Go.Proofs.YtfeonfihlleoeaaDoor
namespace Go.Proofs.YtfeonfihlleoeaaDoor

theorem bv_ofInt (a : BitVec 32) : BitVec.ofInt IntKind.u32.bits (a.toNat : Int) = a := by
  apply BitVec.eq_of_toNat_eq
  rw [BitVec.ofInt_natCast, BitVec.toNat_ofNat]
  exact Nat.mod_eq_of_lt a.isLt
theorem bits_xor_u32 (a b : BitVec 32) : bits .xor .u32 (a.toNat : Int) (b.toNat : Int) = ((a ^^^ b).toNat : Int) := by
  have e : bits .xor .u32 (a.toNat : Int) (b.toNat : Int) = IntKind.u32.wrap (((BitVec.ofInt IntKind.u32.bits (a.toNat : Int)) ^^^ (BitVec.ofInt IntKind.u32.bits (b.toNat : Int))).toNat : Int) := rfl
  rw [e, bv_ofInt, bv_ofInt]
  have h : (a ^^^ b).toNat < 4294967296 := (a ^^^ b).isLt
  exact IntWalk.u32_in ((a ^^^ b).toNat : Int) ⟨by omega, by omega⟩
theorem shr4_u32 (a : BitVec 32) : (a.toNat : Int) / (16 : Int) = ((a >>> 4).toNat : Int) := by
  rw [BitVec.toNat_ushiftRight, Nat.shiftRight_eq_div_pow]
  rfl
theorem and15_u32 (a : BitVec 32) : bits .and .u32 (a.toNat : Int) 15 = ((a.toNat % 16 : Nat) : Int) := by
  have h := bits_mask .u32 32 (by decide) (fun n h0 h1 => IntWalk.u32_in _ ⟨h0, by have : (2 : Int) ^ 32 = 4294967296 := by decide
                                                                                   omega⟩) 4 (by decide) (a.toNat : Int) (by omega) (by have := a.isLt; have e : (2 : Int) ^ 32 = 4294967296 := by decide
                                                                                                                                        omega)
  have e : ((2 : Int) ^ 4 - 1) = 15 := by decide
  rw [e] at h
  rw [h]
  have e2 : (2 : Int) ^ 4 = 16 := by decide
  rw [e2]
  omega
theorem comp_u32 (a : BitVec 32) : bits .xor .u32 4294967295 (a.toNat : Int) = ((~~~ a).toNat : Int) := by
  have e : (4294967295 : Int) = ((BitVec.allOnes 32).toNat : Int) := rfl
  rw [e, bits_xor_u32, BitVec.allOnes_xor]
/-- one look into the table, in the walk's words -/
theorem nib_u32 (a : BitVec 32) : bits .xor .u32 ((a.toNat : Int) / (16 : Int)) ((Crc.tab.getD (a.toNat % 16) 0 : Nat) : Int) = ((Crc.s4 a).toNat : Int) := by
  have hlt : Crc.tab.getD (a.toNat % 16) 0 < 4294967296 := by
    have : ∀ t : Fin 16, Crc.tab.getD t.val 0 < 4294967296 := by decide
    exact this ⟨a.toNat % 16, Nat.mod_lt _ (by decide)⟩
  have e : (Crc.tab.getD (a.toNat % 16) 0 : Nat) = (BitVec.ofNat 32 (Crc.tab.getD (a.toNat % 16) 0)).toNat := by
    rw [BitVec.toNat_ofNat]
    exact (Nat.mod_eq_of_lt hlt).symm
  rw [shr4_u32, ← Crc.nib]
  conv => lhs; rw [e]
  rw [bits_xor_u32]
/-- a single step, in the reference's words -/
theorem s1_even_u32 (a : BitVec 32) (h : a.toNat % 2 = 0) : (a.toNat : Int) / (2 : Int) = ((Crc.s1 a).toNat : Int) := by
  have h0 : a.getLsbD 0 = false := by
    show a.toNat.testBit 0 = false
    rw [Nat.testBit_zero]
    simp [h]
  rw [Crc.s1_even h0, BitVec.toNat_ushiftRight, Nat.shiftRight_eq_div_pow]
  rfl
theorem s1_odd_u32 (a : BitVec 32) (h : a.toNat % 2 = 1) : bits .xor .u32 ((a.toNat : Int) / (2 : Int)) 2197175160 = ((Crc.s1 a).toNat : Int) := by
  have h0 : a.getLsbD 0 = true := by
    show a.toNat.testBit 0 = true
    rw [Nat.testBit_zero]
    simp [h]
  have e : (a.toNat : Int) / (2 : Int) = ((a >>> 1).toNat : Int) := by
    rw [BitVec.toNat_ushiftRight, Nat.shiftRight_eq_div_pow]
    rfl
  have e2 : (2197175160 : Int) = (Crc.poly.toNat : Int) := rfl
  rw [e, e2, bits_xor_u32]
  unfold Crc.s1
  rw [h0]
  rfl
end Go.Proofs.YtfeonfihlleoeaaDoor
namespace Go.Proofs.YtfeonfihlleoeaaDoor
open Go.ChangeShapes Go.WideShapes Go.ChangeAt Go.RowKit

/-- the sum's table lies in the world -/
def TabW (w : World) : Prop := ∀ r : Nat, r < 16 → w.cell? ⟨1, r, none⟩ = some (.int .u32 ((Crc.tab.getD r 0 : Nat) : Int))
theorem halves_data : (Rows.laid_terrazzo_frame_halves : DataW Unit) = Lib.tabData .u32 (Crc.tab.map fun n : Nat => (n : Int)) := by kernel_rfl
theorem tab_below {base : Nat} {w w' : World} (h : TabW w) (hb : Below base w w') (hg : 1 < base) : TabW w' := by
  intro r hr
  exact (hb.cell (p := ⟨1, r, none⟩) hg).trans (h r hr)
set_option maxRecDepth 100000 in
theorem tab_of_laid {W : World} (h : laidMetH Tryd.prog Rows.journalAppendsRow.laid W) : TabW W ∧ 1 < W.heap.size := by
  have h1 := h.filter fun x => x.1 == "terrazzo/frame.halves"
  have e : (Rows.journalAppendsRow.laid.filter fun x => x.1 == "terrazzo/frame.halves") = [("terrazzo/frame.halves", Rows.laid_terrazzo_frame_halves)] := by kernel_rfl
  rw [e, MakeChecks.laidMetH_plain _ _ _ (by kernel_rfl), halves_data] at h1
  have hg : Tryd.prog.globalNamed "terrazzo/frame.halves" = some 1 := by kernel_rfl
  have hT : Lib.TabIs Tryd.prog W "terrazzo/frame.halves" .u32 (Crc.tab.map fun n : Nat => (n : Int)) := Lib.tabIs_of_head hg (show (Tryd.prog.globals[1]?).map (·.type) = some 133 by kernel_rfl) Tryd.underlying133 Tryd.underlying110 (by kernel_rfl) (by kernel_rfl) h1
  have hc : TabW W := by
    intro r hr
    have h1 := hT.cell hg r (by show r < 16; exact hr)
    rw [h1]
    congr 2
    have : ∀ t : Fin 16, (Crc.tab.map fun n : Nat => (n : Int)).getD t.val 0 = ((Crc.tab.getD t.val 0 : Nat) : Int) := by decide
    exact this ⟨r, hr⟩
  refine ⟨hc, ?_⟩
  have h0 := hc 0 (by decide)
  by_cases hlt : 1 < W.heap.size
  · exact hlt
  · have : W.heap[1]? = none := Array.getElem?_eq_none (by omega)
    simp [World.cell?, this] at h0
end Go.Proofs.YtfeonfihlleoeaaDoor
namespace Go.Proofs.YtfeonfihlleoeaaDoor
open Go.ChangeShapes Go.WideShapes Go.ChangeAt Go.RowKit

/-- what each kind names, a bit each -/
def namT : List Int := [0, 9, 3, 2, 0, 4, 4]
structure LayW (w : World) : Prop where
  mk ::
  tab : TabW w
  tg : 1 < w.heap.size
  pow : Lib.TabIs Tryd.prog w "internal/strconv.uint64pow10" .u64 Lib.pow10Tab
  nam : ∀ r : Nat, r < 7 → w.cell? ⟨0, r, none⟩ = some (.int .i64 (namT.getD r 0))
theorem LayW.ext {w w' : World} (h : LayW w) (hb : Below w.heap.size w w') : LayW w' :=
  ⟨tab_below h.tab hb h.tg, Nat.lt_of_lt_of_le h.tg hb.size, Lib.tabBelow_of_tabIs h.pow w' hb, fun r hr => (hb.cell (p := ⟨0, r, none⟩) (World.block_lt_of_cell? w _ (h.nam r hr))).trans (h.nam r hr)⟩
theorem names_data : (Rows.laid_terrazzo_entry_names : DataW Unit) = Lib.tabData .i64 namT := by kernel_rfl
theorem pow_data : (Rows.laid_internal_strconv_uint64pow10 : DataW Unit) = Lib.tabData .u64 Lib.pow10Tab := by kernel_rfl
set_option maxRecDepth 100000 in
theorem lay_of_laid {W : World} (h : laidMetH Tryd.prog Rows.journalAppendsRow.laid W) : LayW W := by
  obtain ⟨h1, h2⟩ := tab_of_laid h
  refine ⟨h1, h2, ?_, ?_⟩
  · have h3 := h.filter fun x => x.1 == "internal/strconv.uint64pow10"
    have e : (Rows.journalAppendsRow.laid.filter fun x => x.1 == "internal/strconv.uint64pow10") = [("internal/strconv.uint64pow10", Rows.laid_internal_strconv_uint64pow10)] := by kernel_rfl
    rw [e, MakeChecks.laidMetH_plain _ _ _ (by kernel_rfl), pow_data] at h3
    exact Lib.tabIs_of_head (show Tryd.prog.globalNamed "internal/strconv.uint64pow10" = some 2 by kernel_rfl) (show (Tryd.prog.globals[2]?).map (·.type) = some 136 by kernel_rfl) Tryd.underlying136 Tryd.underlying113 (by kernel_rfl) (by kernel_rfl) h3
  · have h3 := h.filter fun x => x.1 == "terrazzo/entry.names"
    have e : (Rows.journalAppendsRow.laid.filter fun x => x.1 == "terrazzo/entry.names") = [("terrazzo/entry.names", Rows.laid_terrazzo_entry_names)] := by kernel_rfl
    rw [e, MakeChecks.laidMetH_plain _ _ _ (by kernel_rfl), names_data] at h3
    have hg : Tryd.prog.globalNamed "terrazzo/entry.names" = some 0 := by kernel_rfl
    have hT := Lib.tabIs_of_head hg (show (Tryd.prog.globals[0]?).map (·.type) = some 117 by kernel_rfl) Tryd.underlying117 Tryd.underlying3 (by kernel_rfl) (by kernel_rfl) h3
    exact fun r hr => hT.cell hg r (by show r < 7; exact hr)
end Go.Proofs.YtfeonfihlleoeaaDoor
