/- The walk of rpc.open. -/
import Derived.Test.YtidikciankcopaaDoorWrt
import Derived.Test.YtidikciankcopaaDoorMayQ
namespace Go.Proofs.YtidikciankcopaaDoor
open Go.RowKit Go.WideShapes

set_option maxRecDepth 100000 in
set_option maxHeartbeats 1600000 in
theorem opn_ok (A : Nat → Prop) (v : Value) (l body : List UInt8) (k : Nat) (w : World) (hx : RB A w v l) (hl : l.length ≤ 100000) (hT : TabW w) (hg0 : 0 < w.heap.size) (hn : nextB l = ⟨k, body, [], 0⟩) (hbl : body.length ≤ 100000) :
    Calls Tryd.prog 35 #[v, .int .i64 k] w fun e w' => ∃ p, e = .returned (.tuple #[.pointer (some ⟨p, 0, none⟩), .int .i64 0]) ∧ IsRd (fun b => w.heap.size ≤ b ∧ b < p) w' p ⟨body, 0⟩ ∧ w.heap.size ≤ p ∧ Below w.heap.size w w' := by
  obtain ⟨xa, xc, rfl⟩ := hx.shape
  have HX := Lib.hid hx
  have HT := Lib.hid hT
  have HN := Lib.hid hn
  have HG := Lib.hid hg0
  clear hx hT hn hg0
  go_enter Tryd.func35, Tryd.ntmps35
  go_wp2_with fail
  refine (next_any _ A l _ HX.out hl HT.out HG.out).mono ?_
  rw [HN.out]
  rintro e w1 ⟨v1, v2, rfl, ho1, ho2, hb1⟩
  obtain ⟨a1, c1, rfl⟩ := ho1.rb.shape
  obtain ⟨a2, c2, rfl⟩ := ho2.rb.shape
  simp only [List.length_nil]
  have HO := Lib.hid ho1
  have HB := Lib.hid hb1
  have hs := hb1.size
  clear ho1 ho2 hb1
  go_wp2_with fail
  refine (read_any _ _ body _ HO.out.rb hbl).mono ?_
  rintro e w2 ⟨p, rfl, hr, hp, hb2⟩
  go_wp2
  go_ret2
  refine ⟨p, rfl, ?_, by omega, HB.out.trans (hb2.mono hs)⟩
  obtain ⟨u, h1, h2⟩ := hr.ex
  exact ⟨⟨u, h1, h2.weak fun b _ h => ⟨by omega, h.2⟩⟩, fun h => by have := h.2; omega⟩
set_option maxRecDepth 100000 in
set_option maxHeartbeats 1600000 in
theorem opn_bad (A : Nat → Prop) (v : Value) (l : List UInt8) (k : Nat) (w : World) (hx : RB A w v l) (hl : l.length ≤ 100000) (hT : TabW w) (hg0 : 0 < w.heap.size) (hn : (nextB l).e ≠ 0) :
    Calls Tryd.prog 35 #[v, .int .i64 k] w fun e w' => e = .returned (.tuple #[.pointer none, .int .i64 ((nextB l).e : Nat)]) ∧ Below w.heap.size w w' := by
  obtain ⟨xa, xc, rfl⟩ := hx.shape
  have HX := Lib.hid hx
  have HT := Lib.hid hT
  have HG := Lib.hid hg0
  have hne : (((nextB l).e : Int) != 0) = true := by simp; omega
  generalize hR : nextB l = R at *
  have HR := Lib.hid hR
  clear hx hT hg0 hR
  go_enter Tryd.func35, Tryd.ntmps35
  go_wp2_with fail
  refine (next_any _ A l _ HX.out hl HT.out HG.out).mono ?_
  rw [HR.out]
  rintro e w1 ⟨v1, v2, rfl, ho1, ho2, hb1⟩
  obtain ⟨a1, c1, rfl⟩ := ho1.rb.shape
  obtain ⟨a2, c2, rfl⟩ := ho2.rb.shape
  have HB := Lib.hid hb1
  clear ho1 ho2 hb1
  go_wp2
  go_ret2
  exact ⟨rfl, HB.out⟩
set_option maxRecDepth 100000 in
set_option maxHeartbeats 1600000 in
theorem opn_long (A : Nat → Prop) (v : Value) (l : List UInt8) (k : Nat) (w : World) (hx : RB A w v l) (hl : l.length ≤ 100000) (hT : TabW w) (hg0 : 0 < w.heap.size) (hn : (nextB l).e = 0) (hr : 0 < (nextB l).rest.length) :
    Calls Tryd.prog 35 #[v, .int .i64 k] w fun e w' => e = .returned (.tuple #[.pointer none, .int .i64 11]) ∧ Below w.heap.size w w' := by
  obtain ⟨xa, xc, rfl⟩ := hx.shape
  have HX := Lib.hid hx
  have HT := Lib.hid hT
  have HG := Lib.hid hg0
  have hr' : (0 : Int) < ((nextB l).rest.length : Nat) := by omega
  clear hx hT hg0
  go_enter Tryd.func35, Tryd.ntmps35
  go_wp2_with fail
  refine (next_any _ A l _ HX.out hl HT.out HG.out).mono ?_
  generalize nextB l = R at *
  obtain ⟨K, B, L, E⟩ := R
  simp only at hn hr hr'
  subst hn
  rintro e w1 ⟨v1, v2, rfl, ho1, ho2, hb1⟩
  obtain ⟨a1, c1, rfl⟩ := ho1.rb.shape
  obtain ⟨a2, c2, rfl⟩ := ho2.rb.shape
  have HB := Lib.hid hb1
  clear ho1 ho2 hb1
  go_wp2
  go_ret2
  exact ⟨rfl, HB.out⟩
end Go.Proofs.YtidikciankcopaaDoor
