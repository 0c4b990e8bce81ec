/- The walk of slices.Clone at rows of bytes. -/
import Derived.Test.YtidikciankcopaaDoorSla
import Derived.Lib.SliceRun
import Derived.Test.YtidikciankcopaaDoorChecked
namespace Go.Proofs.YtidikciankcopaaDoor
open Go.RowKit

/-- a row of bytes of the call's own -/
def OB (base : Nat) (w : World) (v : Value) (l : List UInt8) : Prop := w.ownsRow base 5 1 v l.length (l.map bv)
/-- what a call that hands back new bytes leaves -/
def NewB (w : World) (l : List UInt8) (e : Ending) (w' : World) : Prop := ∃ v : Value, e = .returned v ∧ OB w.heap.size w' v l ∧ Below w.heap.size w w'
theorem OB.rb {base : Nat} {w : World} {v : Value} {l : List UInt8} (h : OB base w v l) : RB (fun b => base ≤ b) w v l := SlA.of_owns h
theorem OB.ext {base : Nat} {w w' : World} {v : Value} {l : List UInt8} (h : OB base w v l) (hb : Below w.heap.size w w') : OB base w' v l := owns_ext h hb
theorem infoByte : (Tryd.prog.info? 5).map (fun i => (i.zero, i.size, i.bytes)) = some (some (.int .u8 0), 1, 1) := by kernel_rfl
theorem RB.shape {A : Nat → Prop} {w : World} {v : Value} {l : List UInt8} (h : RB A w v l) : ∃ a c, v = .slice a l.length c := SlA.shape h
theorem RB.ext {A : Nat → Prop} {w w' : World} {v : Value} {l : List UInt8} (h : RB A w v l) (hb : Below w.heap.size w w') : RB A w' v l := SlA.ext h hb
theorem RB.zero (A : Nat → Prop) (w : World) (a : Option Addr) : RB A w (.slice a 0 0) [] := SlA.zero A w 1 a
theorem RB.nil (A : Nat → Prop) (w : World) : RB A w (.slice none 0 0) [] := SlA.nil A w 1
theorem OB.nil (base : Nat) (w : World) : OB base w (.slice none 0 0) [] := World.ownsRow_nil _ _ _ _
theorem OB.base_le {base base' : Nat} {w : World} {v : Value} {l : List UInt8} (h : OB base w v l) (hb : base' ≤ base) : OB base' w v l := by
  refine ⟨h.1, h.2.imp id ?_⟩
  rintro ⟨g, cap, cur, h0, h1, h2⟩
  exact ⟨g, cap, cur, h0, Nat.le_trans hb h1, h2⟩
theorem OB.cast {base : Nat} {w : World} {v : Value} {n : Nat} {xs : List Value} {l : List UInt8} (h : w.ownsRow base 5 1 v n xs) (hn : n = l.length) (hx : xs = l.map bv) : OB base w v l := by
  subst hn hx; exact h

set_option maxRecDepth 100000 in
set_option maxHeartbeats 800000 in
theorem cloneB_none (w : World) : Calls Tryd.prog 44 #[.slice none 0 0] w fun e w' => e = .returned (.slice none 0 0) ∧ w' = w := by
  go_enter Tryd.func44, Tryd.ntmps44
  have he := fun w : World => Go.Lib.run_eql_slice_nil (P := Tryd.prog) w 34 5 none 0 0 0 0 Tryd.underlying34
  go_wp2
  go_ret
  exact ⟨rfl, rfl⟩
set_option maxRecDepth 100000 in
set_option maxHeartbeats 800000 in
theorem cloneB_any (A : Nat → Prop) (v : Value) (l : List UInt8) (w : World) (hl : l.length ≤ 1000000) (hv : RB A w v l) :
    Calls Tryd.prog 44 #[v] w (NewB w l) := by
  obtain ⟨a, cap, rfl⟩ := hv.shape
  rcases a with _ | p
  · obtain ⟨-, h0, rfl⟩ := SlA.none_ hv
    obtain rfl : l = [] := List.eq_nil_of_length_eq_zero h0
    refine (cloneB_none w).mono ?_
    rintro e w' ⟨rfl, rfl⟩
    exact ⟨_, rfl, OB.nil _ _, Below.refl _ _⟩
  · have hcap := (SlA.src hv).2.1
    have HV := Lib.hid hv
    clear hv
    obtain ⟨i0, hi, hz0, hz1, hz2⟩ := info_parts infoByte
    have he := fun w : World => Go.Lib.run_eql_slice_nil (P := Tryd.prog) w 34 5 (some p) l.length cap 0 0 Tryd.underlying34
    go_enter Tryd.func44, Tryd.ntmps44
    go_wp2_with (first | (at_builtin; refine wpList_append_sl rfl _ _ 34 rfl w.heap.size 5 i0 (.int .u8 0) 1 1 Tryd.underlying34 hi hz0 hz1 hz2 rfl (by decide) _ 0 [] rfl (World.ownsRow_made w #[] 0 (Nat.le_refl _) (by decide) rfl) A (.slice (some p) l.length cap) l.length (l.map bv) rfl ?c1 (one_bytes l) ?c2 ?c3 ?c4 ?_) | go_in)
    case c1 => exact SlA.ext HV.out ((Below.refl _ _).alloc (Nat.le_refl _) _)
    case c2 => unfold maxLen; omega
    case c3 => omega
    case c4 => simp
    intro v1 w1 ho hg
    go_wp2
    go_ret
    refine ⟨v1, rfl, OB.cast ho (by simp) (by simp), ((Below.refl _ w).alloc (Nat.le_refl _) _).grown hg (by simp) fun j hj => ?_⟩
    simp [Value.ownBlock] at hj
    omega
end Go.Proofs.YtidikciankcopaaDoor
