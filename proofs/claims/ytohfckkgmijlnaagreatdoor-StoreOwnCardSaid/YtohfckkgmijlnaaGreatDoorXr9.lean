/- Rows of bytes that are turned in place: what stays. No function is named. -/
import Derived.Test.YtohfckkgmijlnaaGreatDoorPM
import Derived.Test.YtohfckkgmijlnaaGreatDoorObE
namespace Go.Proofs.YtohfckkgmijlnaaGreatDoor
open Go.RowKit Go.WideShapes

/-- a block whose cells from off on, n of them, are bytes -/
def IsB (w : World) (b off n : Nat) : Prop := ∃ cs, w.heap[b]? = some (.cells cs 5 (0, 0)) ∧ ∀ i, i < n → ∃ z : Int, cs[off + i]? = some (.int .u8 z)
/-- nothing but bytes of rows from base on has turned -/
structure XR (base : Nat) (w W : World) : Prop where
  bl : Below base w W
  size : W.heap.size = w.heap.size
  keep : ∀ b : Nat, (∀ cs, w.heap[b]? ≠ some (Obj.cells cs 5 (0, 0))) → W.heap[b]? = w.heap[b]?
  byt : ∀ b off n, IsB w b off n → IsB W b off n
theorem XR.refl (base : Nat) (w : World) : XR base w w := ⟨Below.refl _ _, rfl, fun _ _ => rfl, fun _ _ _ h => h⟩
theorem XR.drew {base : Nat} {w W : World} (h : XR base w W) : XR base w W.drew := ⟨h.bl.drew, h.size, h.keep, h.byt⟩
theorem XR.set {base g off n : Nat} {w W : World} (h : XR base w W) (hg : base ≤ g) (hb : IsB w g off n) (j : Nat) (z : Int) : XR base w (W.setCell ⟨g, j, none⟩ (.int .u8 z)) := by
  refine ⟨Below.setCell h.bl hg _, by simpa [World.setCell] using h.size, fun b hk => ?_, fun b off m hm => ?_⟩
  · have hne : b ≠ g := by
      rintro rfl
      obtain ⟨cs, e, -⟩ := hb
      exact hk cs e
    exact (Below.heap_setCell _ _ _ _ hne).trans (h.keep b hk)
  · obtain ⟨cs, e1, e3⟩ := h.byt b off m hm
    by_cases hbg : b = g
    · subst hbg
      refine ⟨cs.setIfInBounds j (.int .u8 z), by simp [World.setCell, Array.getElem?_modify, e1], fun i hi => ?_⟩
      obtain ⟨y, hy⟩ := e3 i hi
      by_cases hij : j = off + i
      · subst hij
        have := (Array.getElem?_eq_some_iff.1 hy).1
        exact ⟨z, by rw [Array.getElem?_setIfInBounds_self_of_lt this]⟩
      · exact ⟨y, by rw [Array.getElem?_setIfInBounds_ne hij]; exact hy⟩
    · exact ⟨cs, (Below.heap_setCell _ _ _ _ hbg).trans e1, e3⟩
theorem IsB.cell {w : World} {b off n i : Nat} (h : IsB w b off n) (hi : i < n) : ∃ z : Int, w.cell? ⟨b, off + i, none⟩ = some (.int .u8 z) ∧ w.frozen? ⟨b, off + i, none⟩ = false ∧ b < w.heap.size := by
  obtain ⟨cs, e1, e3⟩ := h
  obtain ⟨z, hz⟩ := e3 i hi
  obtain ⟨k1, k2⟩ := blk_cell (i := off + i) e1
  exact ⟨z, k1.trans hz, k2, (Array.getElem?_eq_some_iff.1 e1).1⟩
/-- a block of another type stays -/
theorem XR.box {base p : Nat} {w W : World} {cs : Array Value} {t : TypeId} {fr : Nat × Nat} (h : XR base w W) (hp : w.heap[p]? = some (.cells cs t fr)) (ht : t ≠ 5) : W.heap[p]? = some (.cells cs t fr) := by
  rw [h.keep p fun cs' e => ?_]
  · exact hp
  rw [hp] at e
  simp only [Option.some.injEq, Obj.cells.injEq] at e
  exact ht e.2.1
theorem RB.isB {A : Nat → Prop} {base c : Nat} {a : Option Addr} {w : World} {l : List UInt8} (h : RB A w (.slice a l.length c) l) (hA : ∀ b, A b → base ≤ b ∧ U8 w b) (h0 : 0 < l.length) : ∃ g off, a = some ⟨g, off, none⟩ ∧ base ≤ g ∧ IsB w g off l.length := by
  obtain ⟨b, off, e, h1, h2, h3, h4⟩ := SlA.at h h0
  obtain ⟨k1, cs, k2⟩ := hA b h2
  refine ⟨b, off, e, k1, cs, k2, fun i hi => ?_⟩
  have h5 := h4 i (by omega)
  rw [(blk_cell (i := off + i) k2).1, List.getElem?_map, List.getElem?_eq_getElem hi] at h5
  exact ⟨_, h5⟩
/-- the keys' row of an object of the call's own: where it lies, what stands in it -/
theorem own8_row {base : Nat} {w : World} {a c u q} {o : ObD} (h : Own8 base w (.slice a o.data.length c) (.slice u o.keys.length q) o) (h0 : 0 < o.keys.length) :
    ∃ g cs, u = some ⟨g, 0, Option.none⟩ ∧ w.heap[g]? = some (.cells cs 62 (0, 0)) ∧ o.keys.length ≤ q ∧ ∀ i (hi : i < o.keys.length), ∃ b d, cs[i * 2 + 1]? = some (.slice b (o.keys[i]).value.length d) ∧
      (0 < (o.keys[i]).value.length → (o.keys[i]).value.length ≤ d ∧ ∃ k off, b = some ⟨k, off, Option.none⟩ ∧ base ≤ k ∧ IsB w k off (o.keys[i]).value.length) := by
  obtain ⟨cs, ho, hc⟩ := h.ex
  rcases ho.2 with ⟨e, h1⟩ | ⟨g, cap, cur, e, hbg, hg, hnc, hcm, hcs, ht⟩
  · omega
  · simp only [Value.slice.injEq] at e
    obtain ⟨rfl, -, rfl⟩ := e
    refine ⟨g, cur, rfl, hg, hnc, fun i hi => ?_⟩
    obtain ⟨v, hv, hr⟩ := hc.last hi
    obtain ⟨b, d, rfl⟩ := hr.shape
    refine ⟨b, d, ?_, fun h2 => ?_⟩
    · have h3 := World.ownsRow.cellAt ho (i * 2 + 1) (by omega)
      rw [(blk_cell hg).1] at h3
      exact h3.trans hv
    · obtain ⟨k, off, e1, e2, e3⟩ := hr.isB (base := base) (fun b hb => ⟨hb.1, hb.2.2.2⟩) h2
      obtain ⟨_, _, _, _, _, h4, _⟩ := SlA.at hr h2
      exact ⟨h4, k, off, e1, e2, e3⟩
theorem OB.isB {base c : Nat} {a : Option Addr} {w : World} {l : List UInt8} (h : OB base w (.slice a l.length c) l) (h0 : 0 < l.length) : l.length ≤ c ∧ ∃ g off, a = some ⟨g, off, none⟩ ∧ base ≤ g ∧ IsB w g off l.length := by
  obtain ⟨_, _, _, _, _, h4, _⟩ := SlA.at h.rb h0
  exact ⟨h4, h.rbU.isB (fun b hb => hb) h0⟩
end Go.Proofs.YtohfckkgmijlnaaGreatDoor
