/- Replies as bytes, plainly: whether one may be, its bytes, bytes' reply. No program is named. -/
import Derived.Test.YtlgefkaafoidmaaGreatDoorGK
import Derived.Test.YtlgefkaafoidmaaGreatDoorGM
namespace Go.Proofs.YtlgefkaafoidmaaGreatDoor
open Go.RowKit Go.WideShapes

/-- what may be of a reply's numbers -/
structure MayPN (p : RpD) : Prop where
  id : idP p.client p.life p.seq
  e : 0 ≤ p.e ∧ p.e ≤ 65535
  n : 0 ≤ p.n ∧ p.n ≤ 1099511627776
  x : 0 ≤ p.index ∧ p.index ≤ 1099511627776
def mayPN (p : RpD) : Bool := decide (((0 ≤ p.client ∧ p.client ≤ 7) ∧ (0 ≤ p.life ∧ p.life ≤ 4294967295) ∧ (0 ≤ p.seq ∧ p.seq ≤ 1099511627776)) ∧ (0 ≤ p.e ∧ p.e ≤ 65535) ∧ (0 ≤ p.n ∧ p.n ≤ 1099511627776) ∧ (0 ≤ p.index ∧ p.index ≤ 1099511627776))
theorem mayPN_iff (p : RpD) : mayPN p = true ↔ MayPN p := by
  unfold mayPN
  rw [decide_eq_true_iff]
  exact ⟨fun ⟨h1, h2, h3, h4⟩ => ⟨h1, h2, h3, h4⟩, fun h => ⟨h.id, h.e, h.n, h.x⟩⟩
/-- may a reply be? -/
def mayRP (p : RpD) : Bool := mayPN p && mayB p.obj && (p.there || sameB p.obj ObD.none)
theorem mayRP_no {p : RpD} (h : ¬ MayPN p) : mayRP p = false := by
  have : mayPN p = false := by
    cases h1 : mayPN p with
    | false => rfl
    | true => exact absurd ((mayPN_iff p).1 h1) h
  simp [mayRP, this]
theorem mayRP_yes {p : RpD} (h : MayPN p) : mayRP p = (mayB p.obj && (p.there || sameB p.obj ObD.none)) := by
  rw [mayRP, (mayPN_iff p).2 h, Bool.true_and]
theorem mayRP_N {p : RpD} (h : mayRP p = true) : MayPN p ∧ mayB p.obj = true := by
  unfold mayRP at h
  rw [Bool.and_eq_true, Bool.and_eq_true] at h
  exact ⟨(mayPN_iff p).1 h.1.1, h.1.2⟩
def keyBytes (k : KyD) : List UInt8 := be 2 k.name.data.toList.length ++ k.name.data.toList ++ (be 2 k.value.length ++ k.value)
/-- a reply's body -/
def bodyP (c l s e n x th sq : Nat) (d : List UInt8) (ks : List KyD) : List UInt8 :=
  [] ++ catB 1 [c] ++ catB 4 [l] ++ catB 6 [s] ++ catB 2 [e] ++ catB 6 [n, x] ++ catB 1 [th] ++ catB 6 [sq] ++ be 2 d.length ++ d ++ catB 1 [ks.length] ++ ks.flatMap keyBytes
def bodyOf (p : RpD) : List UInt8 := bodyP p.client.toNat p.life.toNat p.seq.toNat p.e.toNat p.n.toNat p.index.toNat (if p.there then 1 else 0) p.obj.seq.toNat p.obj.data p.obj.keys
/-- a reply's bytes -/
def pkpL (p : RpD) : List UInt8 := if mayRP p = true ∧ (bodyOf p).length ≤ 8192 then frm 2 (bodyOf p) else []
theorem pkpL_no {p : RpD} (h : mayRP p = false) : pkpL p = [] := if_neg fun h1 => by rw [h] at h1; cases h1.1
theorem pkpL_if {p : RpD} {L : List UInt8} (hq : mayRP p = true) (hL : bodyOf p = L) : pkpL p = if L.length ≤ 8192 then frm 2 L else [] := by
  subst hL
  by_cases h : (bodyOf p).length ≤ 8192
  · rw [if_pos h]; exact if_pos ⟨hq, h⟩
  · rw [if_neg h]; exact if_neg fun h1 => h h1.2
theorem keyBytes_len {k : KyD} (h1 : k.name.size ≤ 100) (h2 : k.value.length ≤ 3000) : (keyBytes k).length ≤ 3104 := by
  have : k.name.data.toList.length = k.name.size := by simp
  simp only [keyBytes, List.length_append, be_length]
  omega
theorem keysBytes_len : ∀ (ks : List KyD), (∀ k ∈ ks, k.name.size ≤ 100 ∧ k.value.length ≤ 3000) → (ks.flatMap keyBytes).length ≤ 3104 * ks.length
  | [], _ => by simp
  | k :: ks, h => by
    have h1 := keysBytes_len ks fun k hk => h k (by simp [hk])
    have h2 := keyBytes_len (h k (by simp)).1 (h k (by simp)).2
    simp only [List.flatMap_cons, List.length_append, List.length_cons]
    omega
/-! bytes' reply -/
def wsP : List Nat := [1, 4, 6, 2, 6, 6, 1, 6]
def unpN' (l : List UInt8) : List Nat × Rd := rdNums wsP ⟨(opnB l 2).1, 0⟩
def unpD (l : List UInt8) : List UInt8 × Rd := (unpN' l).2.blob 64
def unpK (l : List UInt8) : Nat × Rd := (unpD l).2.num 1
def unpF (l : List UInt8) : Rd := if 120 < (unpK l).1 then (unpK l).2.fail 11 else (unpK l).2
/-- one key -/
def rdKey (r : Rd) : KyD × Rd := (⟨⟨(r.blob 12).1.toArray⟩, ((r.blob 12).2.blob 2048).1⟩, ((r.blob 12).2.blob 2048).2)
def rdKeys : Nat → Rd → List KyD × Rd
  | 0, r => ([], r)
  | n + 1, r => if r.e = 0 then ((rdKey r).1 :: (rdKeys n (rdKey r).2).1, (rdKeys n (rdKey r).2).2) else ([], r)
theorem rdKeys_go {n : Nat} {r : Rd} (h : r.e = 0) : rdKeys (n + 1) r = ((rdKey r).1 :: (rdKeys n (rdKey r).2).1, (rdKeys n (rdKey r).2).2) := if_pos h
theorem rdKeys_halt {n : Nat} {r : Rd} (h : r.e ≠ 0) : rdKeys n r = ([], r) := by
  cases n with
  | zero => rfl
  | succ n => exact if_neg h
def unpKs (l : List UInt8) : List KyD × Rd := rdKeys (unpK l).1 (unpF l)
def unpP (l : List UInt8) : RpD := ⟨(unpN' l).1.getD 0 0, (unpN' l).1.getD 1 0, (unpN' l).1.getD 2 0, (unpN' l).1.getD 3 0, (unpN' l).1.getD 4 0, (unpN' l).1.getD 5 0, decide ((unpN' l).1.getD 6 0 = 1), ⟨(unpD l).1, (unpKs l).1, (unpN' l).1.getD 7 0⟩⟩
def unpPE (l : List UInt8) : Int := if (opnB l 2).2 ≠ 0 then (opnB l 2).2 else if (unpKs l).2.fin.e ≠ 0 then (unpKs l).2.fin.e else if mayRP (unpP l) && decide ((unpN' l).1.getD 6 0 ≤ 1) then 0 else 11
/-- bytes' reply, or its error -/
def unpB (l : List UInt8) : RpD × Int := if unpPE l = 0 then (unpP l, 0) else (RpD.none, unpPE l)
end Go.Proofs.YtlgefkaafoidmaaGreatDoor
