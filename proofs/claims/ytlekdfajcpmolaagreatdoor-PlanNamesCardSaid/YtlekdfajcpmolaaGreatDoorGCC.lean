/- Requests as bytes: the plain law. No program is named. Entries as bytes, plainly: whether one may be, what its kind names, its bytes, bytes' entry; there and back. No program is named. What law 20's rows list: the table of frame's sum, the powers of ten, what each kind of entry names. -/
import Derived.Test.YtlekdfajcpmolaaGreatDoorGAE
import Derived.Test.YtlekdfajcpmolaaGreatDoorGAA
import Derived.Lib.LaidTab
import Derived.LaidSub
import Derived.Lib.AppendIntMem
import Derived.Lib.ItoaNum
namespace Go.Proofs.YtlekdfajcpmolaaGreatDoor

/-- numbers read one behind the other -/
def rdStep (s : List Nat × Rd) (W : Nat) : List Nat × Rd := (s.1 ++ [(s.2.num W).1], (s.2.num W).2)
def rdNums (ws : List Nat) (r : Rd) : List Nat × Rd := ws.foldl rdStep ([], r)
end Go.Proofs.YtlekdfajcpmolaaGreatDoor
namespace Go.Proofs.YtlekdfajcpmolaaGreatDoor
open Go.RowKit

structure EnD where
  seq : Int
  owner : Int
  kind : Int
  off : Int
  len : Int
  snap : Int
  data : List UInt8
def EnD.none : EnD := ⟨0, 0, 0, 0, 0, 0, []⟩
/-- may an entry be? -/
def mayE (e : EnD) : Bool :=
  decide (1 ≤ e.seq ∧ e.seq ≤ 1099511627776) && decide (0 ≤ e.owner ∧ e.owner ≤ 7) &&
  (if e.kind = 1 then decide (1 ≤ e.data.length ∧ e.data.length ≤ 128) && decide (0 ≤ e.off ∧ e.off ≤ 512)
   else if e.kind = 2 then decide (1 ≤ e.len ∧ e.len ≤ 512) && decide (0 ≤ e.off ∧ e.off ≤ 512)
   else if e.kind = 3 then decide (0 ≤ e.len ∧ e.len ≤ 512)
   else if e.kind = 4 then true
   else if e.kind = 5 ∨ e.kind = 6 then decide (1 ≤ e.snap ∧ e.snap ≤ 100)
   else false)
/-- an entry without what its kind doesn't name -/
def clE (e : EnD) : EnD :=
  ⟨e.seq, e.owner, e.kind, if e.kind = 1 ∨ e.kind = 2 then e.off else 0, if e.kind = 2 ∨ e.kind = 3 then e.len else 0, if e.kind = 5 ∨ e.kind = 6 then e.snap else 0, if e.kind = 1 then e.data else []⟩
/-- what is named of an entry that may be -/
structure SmE (e : EnD) : Prop where
  mk ::
  seq : 1 ≤ e.seq ∧ e.seq ≤ 1099511627776
  owner : 0 ≤ e.owner ∧ e.owner ≤ 7
  kind : 1 ≤ e.kind ∧ e.kind ≤ 6
  off : 0 ≤ e.off ∧ e.off ≤ 512
  len : 0 ≤ e.len ∧ e.len ≤ 512
  snap : 0 ≤ e.snap ∧ e.snap ≤ 100
  data : e.data.length ≤ 128
theorem kind_ways {e : EnD} (h : mayE e = true) : (e.kind = 1 ∨ e.kind = 2 ∨ e.kind = 3 ∨ e.kind = 4 ∨ e.kind = 5 ∨ e.kind = 6) ∧ (1 ≤ e.seq ∧ e.seq ≤ 1099511627776) ∧ (0 ≤ e.owner ∧ e.owner ≤ 7) ∧
    (e.kind = 1 → (1 ≤ e.data.length ∧ e.data.length ≤ 128) ∧ 0 ≤ e.off ∧ e.off ≤ 512) ∧ (e.kind = 2 → (1 ≤ e.len ∧ e.len ≤ 512) ∧ 0 ≤ e.off ∧ e.off ≤ 512) ∧ (e.kind = 3 → 0 ≤ e.len ∧ e.len ≤ 512) ∧ (e.kind = 5 ∨ e.kind = 6 → 1 ≤ e.snap ∧ e.snap ≤ 100) := by
  unfold mayE at h
  rw [Bool.and_eq_true, Bool.and_eq_true, decide_eq_true_iff, decide_eq_true_iff] at h
  obtain ⟨⟨h1, h2⟩, h3⟩ := h
  by_cases k1 : e.kind = 1
  · rw [if_pos k1, Bool.and_eq_true, decide_eq_true_iff, decide_eq_true_iff] at h3
    exact ⟨.inl k1, h1, h2, fun _ => h3, fun k => by omega, fun k => by omega, fun k => by omega⟩
  · rw [if_neg k1] at h3
    by_cases k2 : e.kind = 2
    · rw [if_pos k2, Bool.and_eq_true, decide_eq_true_iff, decide_eq_true_iff] at h3
      exact ⟨.inr (.inl k2), h1, h2, fun k => by omega, fun _ => h3, fun k => by omega, fun k => by omega⟩
    · rw [if_neg k2] at h3
      by_cases k3 : e.kind = 3
      · rw [if_pos k3, decide_eq_true_iff] at h3
        exact ⟨by omega, h1, h2, fun k => by omega, fun k => by omega, fun _ => h3, fun k => by omega⟩
      · rw [if_neg k3] at h3
        by_cases k4 : e.kind = 4
        · exact ⟨by omega, h1, h2, fun k => by omega, fun k => by omega, fun k => by omega, fun k => by omega⟩
        · rw [if_neg k4] at h3
          by_cases k5 : e.kind = 5 ∨ e.kind = 6
          · rw [if_pos k5, decide_eq_true_iff] at h3
            exact ⟨by omega, h1, h2, fun k => by omega, fun k => by omega, fun k => by omega, fun _ => h3⟩
          · rw [if_neg k5] at h3
            cases h3
theorem clE_may {e : EnD} (h : mayE e = true) : mayE (clE e) = true := by
  obtain ⟨hk, h1, h2, h3, h4, h5, h6⟩ := kind_ways h
  rcases hk with k | k | k | k | k | k
  · have := h3 k; simp [mayE, clE, k]; omega
  · have := h4 k; simp [mayE, clE, k]; omega
  · have := h5 k; simp [mayE, clE, k]; omega
  · simp [mayE, clE, k]; omega
  · have := h6 (.inl k); simp [mayE, clE, k]; omega
  · have := h6 (.inr k); simp [mayE, clE, k]; omega
end Go.Proofs.YtlekdfajcpmolaaGreatDoor
namespace Go.Proofs.YtlekdfajcpmolaaGreatDoor
open Go.ChangeShapes Go.WideShapes Go.ChangeAt Go.RowKit

/-- what each kind names, a bit each -/
def namT : List Int := [0, 9, 3, 2, 0, 4, 4]
structure LayW (w : World) : Prop where
  mk ::
  pow : Lib.TabIs Tryz.prog w "internal/strconv.uint64pow10" .u64 Lib.pow10Tab
  nam : ∀ r : Nat, r < 7 → w.cell? ⟨0, r, none⟩ = some (.int .i64 (namT.getD r 0))
theorem LayW.ext {w w' : World} (h : LayW w) (hb : Below w.heap.size w w') : LayW w' :=
  ⟨Lib.tabBelow_of_tabIs h.pow w' hb, fun r hr => (hb.cell (p := ⟨0, r, none⟩) (World.block_lt_of_cell? w _ (h.nam r hr))).trans (h.nam r hr)⟩
theorem names_data : (Rows.laid_terrazzo_entry_names : DataW Unit) = Lib.tabData .i64 namT := by kernel_rfl
theorem pow_data : (Rows.laid_internal_strconv_uint64pow10 : DataW Unit) = Lib.tabData .u64 Lib.pow10Tab := by kernel_rfl
set_option maxRecDepth 100000 in
theorem lay_of_laid {W : World} (h : laidMetH Tryz.prog Rows.planDoesRow.laid W) : LayW W := by
  refine ⟨?_, ?_⟩
  · have h3 := h.filter fun x => x.1 == "internal/strconv.uint64pow10"
    have e : (Rows.planDoesRow.laid.filter fun x => x.1 == "internal/strconv.uint64pow10") = [("internal/strconv.uint64pow10", Rows.laid_internal_strconv_uint64pow10)] := by kernel_rfl
    rw [e, MakeChecks.laidMetH_plain _ _ _ (by kernel_rfl), pow_data] at h3
    exact Lib.tabIs_of_head (show Tryz.prog.globalNamed "internal/strconv.uint64pow10" = some 1 by kernel_rfl) (show (Tryz.prog.globals[1]?).map (·.type) = some 262 by kernel_rfl) Tryz.underlying262 Tryz.underlying236 (by kernel_rfl) (by kernel_rfl) h3
  · have h3 := h.filter fun x => x.1 == "terrazzo/entry.names"
    have e : (Rows.planDoesRow.laid.filter fun x => x.1 == "terrazzo/entry.names") = [("terrazzo/entry.names", Rows.laid_terrazzo_entry_names)] := by kernel_rfl
    rw [e, MakeChecks.laidMetH_plain _ _ _ (by kernel_rfl), names_data] at h3
    have hg : Tryz.prog.globalNamed "terrazzo/entry.names" = some 0 := by kernel_rfl
    have hT := Lib.tabIs_of_head hg (show (Tryz.prog.globals[0]?).map (·.type) = some 223 by kernel_rfl) Tryz.underlying223 Tryz.underlying3 (by kernel_rfl) (by kernel_rfl) h3
    exact fun r hr => hT.cell hg r (by show r < 7; exact hr)
end Go.Proofs.YtlekdfajcpmolaaGreatDoor
