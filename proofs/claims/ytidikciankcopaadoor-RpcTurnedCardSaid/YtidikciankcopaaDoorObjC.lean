/- The walks of bytes.Clone, slices.Clone at keys and at ops. -/
import Derived.Test.YtidikciankcopaaDoorFlat
namespace Go.Proofs.YtidikciankcopaaDoor
open Go.RowKit

set_option maxRecDepth 100000 in
set_option maxHeartbeats 800000 in
theorem bclone_any (A : Nat → Prop) (v : Value) (l : List UInt8) (w : World) (hl : l.length ≤ 1000000) (hv : RB A w v l) :
    Calls Tryd.prog 58 #[v] w (NewB w l) := by
  obtain ⟨a, cap, rfl⟩ := hv.shape
  rcases a with _ | p
  · obtain ⟨-, h0, rfl⟩ := SlA.none_ hv
    obtain rfl : l = [] := List.eq_nil_of_length_eq_zero h0
    have he := fun w : World => Go.Lib.run_eql_slice_nil (P := Tryd.prog) w 34 5 none 0 0 0 0 Tryd.underlying34
    go_enter Tryd.func58, Tryd.ntmps58
    go_wp2
    go_ret
    exact ⟨_, rfl, OB.nil _ _, Below.refl _ _⟩
  · have hcap := (SlA.src hv).2.1
    have HV := Lib.hid hv
    clear hv
    obtain ⟨i0, hi, hz0, hz1, hz2⟩ := info_parts infoByte
    have he := fun w : World => Go.Lib.run_eql_slice_nil (P := Tryd.prog) w 34 5 (some p) l.length cap 0 0 Tryd.underlying34
    go_enter Tryd.func58, Tryd.ntmps58
    go_wp2_with (first | (at_builtin; refine wpList_append_sl rfl _ _ 34 rfl w.heap.size 5 i0 (.int .u8 0) 1 1 Tryd.underlying34 hi hz0 hz1 hz2 rfl (by decide) _ 0 [] rfl (World.ownsRow_made w #[] 0 (Nat.le_refl _) (by decide) rfl) A (.slice (some p) l.length cap) l.length (l.map bv) rfl ?c1 (one_bytes l) ?c2 ?c3 ?c4 ?_) | go_in)
    case c1 => exact SlA.ext HV.out ((Below.refl _ _).alloc (Nat.le_refl _) _)
    case c2 => unfold maxLen; omega
    case c3 => omega
    case c4 => simp
    intro v1 w1 ho hg
    go_wp2
    go_ret
    refine ⟨v1, rfl, OB.cast ho (by simp) (by simp), ((Below.refl _ w).alloc (Nat.le_refl _) _).grown hg (by simp) fun j hj => ?_⟩
    simp [Value.ownBlock] at hj
    omega

/-- what a call that hands back a new row leaves -/
def NewR (e : TypeId) (size : Nat) (w : World) (n : Nat) (xs : List Value) (r : Ending) (w' : World) : Prop := ∃ v : Value, r = .returned v ∧ w'.ownsRow w.heap.size e size v n xs ∧ Below w.heap.size w w'
theorem infoKey : (Tryd.prog.info? 102).map (fun i => (i.zero, i.size, i.bytes)) = some (some (.agg #[.string ByteArray.empty, .slice none 0 0]), 2, 40) := by kernel_rfl
theorem infoOp : (Tryd.prog.info? 76).map (fun i => (i.zero, i.size, i.bytes)) = some (some (.agg #[.int .i64 0, .int .i64 0, .int .i64 0, .string ByteArray.empty, .slice none 0 0]), 5, 64) := by kernel_rfl
set_option maxRecDepth 100000 in
set_option maxHeartbeats 800000 in
theorem kclone_any (A : Nat → Prop) (v : Value) (n : Nat) (xs : List Value) (w : World) (hl : n ≤ 10000) (hv : SlA A w 2 v n xs) (h1 : ∀ u ∈ xs, u.oneCell' = true) :
    Calls Tryd.prog 59 #[v] w (NewR 102 2 w n xs) := by
  obtain ⟨i0, hi, hz0, hz1, hz2⟩ := info_parts infoKey
  have HV := Lib.hid hv
  obtain ⟨a, cap, rfl⟩ := SlA.shape hv
  rcases a with _ | p
  · obtain ⟨-, rfl, rfl⟩ := SlA.none_ hv
    obtain rfl : xs = [] := List.eq_nil_of_length_eq_zero (by simpa using hv.1)
    have he := fun w : World => Go.Lib.run_eql_slice_nil (P := Tryd.prog) w 35 102 none 0 0 0 0 Tryd.underlying35
    clear hv
    go_enter Tryd.func59, Tryd.ntmps59
    go_wp2
    go_ret
    exact ⟨_, rfl, World.ownsRow_nil _ _ _ _, Below.refl _ _⟩
  · have hcap := (SlA.src hv).2.1
    clear hv
    have he := fun w : World => Go.Lib.run_eql_slice_nil (P := Tryd.prog) w 35 102 (some p) n cap 0 0 Tryd.underlying35
    go_enter Tryd.func59, Tryd.ntmps59
    go_wp2_with (first | (at_builtin; refine wpList_append_sl rfl _ _ 35 rfl w.heap.size 102 i0 _ 2 40 Tryd.underlying35 hi hz0 hz1 hz2 rfl (by decide) _ 0 [] rfl (World.ownsRow_made w #[] 0 (Nat.le_refl _) (by decide) rfl) A (.slice (some p) n cap) n xs rfl ?c1 h1 ?c2 ?c3 ?c4 ?_) | go_in)
    case c1 => exact SlA.ext HV.out ((Below.refl _ _).alloc (Nat.le_refl _) _)
    case c2 => unfold maxLen; omega
    case c3 => omega
    case c4 => simp
    intro v1 w1 ho hg
    go_wp2
    go_ret
    refine ⟨v1, rfl, by simpa using ho, ((Below.refl _ w).alloc (Nat.le_refl _) _).grown hg (by simp) fun j hj => ?_⟩
    simp [Value.ownBlock] at hj
    omega
set_option maxRecDepth 100000 in
set_option maxHeartbeats 800000 in
theorem oclone_any (A : Nat → Prop) (v : Value) (n : Nat) (xs : List Value) (w : World) (hl : n ≤ 10000) (hv : SlA A w 5 v n xs) (h1 : ∀ u ∈ xs, u.oneCell' = true) :
    Calls Tryd.prog 43 #[v] w (NewR 76 5 w n xs) := by
  obtain ⟨i0, hi, hz0, hz1, hz2⟩ := info_parts infoOp
  have HV := Lib.hid hv
  obtain ⟨a, cap, rfl⟩ := SlA.shape hv
  rcases a with _ | p
  · obtain ⟨-, rfl, rfl⟩ := SlA.none_ hv
    obtain rfl : xs = [] := List.eq_nil_of_length_eq_zero (by simpa using hv.1)
    have he := fun w : World => Go.Lib.run_eql_slice_nil (P := Tryd.prog) w 26 76 none 0 0 0 0 Tryd.underlying26
    clear hv
    go_enter Tryd.func43, Tryd.ntmps43
    go_wp2
    go_ret
    exact ⟨_, rfl, World.ownsRow_nil _ _ _ _, Below.refl _ _⟩
  · have hcap := (SlA.src hv).2.1
    clear hv
    have he := fun w : World => Go.Lib.run_eql_slice_nil (P := Tryd.prog) w 26 76 (some p) n cap 0 0 Tryd.underlying26
    go_enter Tryd.func43, Tryd.ntmps43
    go_wp2_with (first | (at_builtin; refine wpList_append_sl rfl _ _ 26 rfl w.heap.size 76 i0 _ 5 64 Tryd.underlying26 hi hz0 hz1 hz2 rfl (by decide) _ 0 [] rfl (World.ownsRow_made w #[] 0 (Nat.le_refl _) (by decide) rfl) A (.slice (some p) n cap) n xs rfl ?c1 h1 ?c2 ?c3 ?c4 ?_) | go_in)
    case c1 => exact SlA.ext HV.out ((Below.refl _ _).alloc (Nat.le_refl _) _)
    case c2 => unfold maxLen; omega
    case c3 => omega
    case c4 => simp
    intro v1 w1 ho hg
    go_wp2
    go_ret
    refine ⟨v1, rfl, by simpa using ho, ((Below.refl _ w).alloc (Nat.le_refl _) _).grown hg (by simp) fun j hj => ?_⟩
    simp [Value.ownBlock] at hj
    omega
end Go.Proofs.YtidikciankcopaaDoor
