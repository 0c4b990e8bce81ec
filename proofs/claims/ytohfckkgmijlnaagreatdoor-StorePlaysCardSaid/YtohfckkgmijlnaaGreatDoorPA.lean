/- Small laws on worlds, frames and rows of cells that all walks of this seat use. No program is named. A region that draws its order, whose operations read what stays and whose callees only make memory: one walk in the order of the text. No program is named. The step from a law's walk to its row, once for all laws of this seat: whatever the parameters' types are, a law that answers true and leaves old memory alone meets its specification. DERIVED: THE SHELF's CONTRACTS AT THIS DUMP, IN PLAIN WORDS (tools/lay-plain.mjs out of 'LaidSrc.lean', which tools/lay-shelf.mjs wrote): THE SAME DECLARATIONS UNDER THE SAME NAMES: 'import', 'namespace', 'open', 'def', 'theorem' AND NOTHING ELSE: no command of the shelf's: FOR A HAND-IN. Each laying: the table of numbers ('.._ren') and one theorem, a field a fact of the dump's own or the kernel's comparison; each contract: ONE APPLICATION. How structured data lie in memory: readings of cells as data, through the blocks of a set alone; rows of such data. No program is named. Slices that are read through the blocks of a set alone; append onto a row of the call's own from any such slice; rows of rows. No program is named. The walk of slices.Clone at rows of bytes. Ops, transactions, requests, keys, objects, replies as plain data, and how they lie in memory. Rows of data whose last cell is a row of bytes: how they are cloned. No program is named. The walks of bytes.Clone, slices.Clone at keys and at ops. -/
import Derived.WalkKit
import Derived.ProofKit
import Derived.Deep.QuietTactic
import Derived.BigQuiet
import Derived.Lib.Hide
import Derived.WalkSmall
import Derived.WalkSpells
import Derived.WalkLawsBesides
import Derived.Deep.RegionHeld3
import Derived.Test.YtohfckkgmijlnaaGreatDoorRows
import Derived.OpenShut
import Derived.LaidMore
import Derived.Lay
import Derived.Stop.Joined
import Derived.Ground.NamesProg
import Derived.Shelf.Strings.SlTrimAscii
import Derived.Shelf.Small.Strs
import Derived.Shelf.Strings.Prefix
import Derived.Shelf.SlIter.Nil
import Derived.Shelf.SortM.Plain
import Derived.Shelf.SortM.SortNone
import Derived.Ground.GgzProg
import Derived.Ground.SlgmProg
import Derived.Test.YtohfckkgmijlnaaGreatDoorProg
import Derived.Laws.AppendOwnNone
import Derived.Maps.AppendAt
import Derived.ArgAppend
import Derived.Lib.SliceRun
import Derived.Test.YtohfckkgmijlnaaGreatDoorChecked
import Derived.OwnWalk
import Derived.Laws.OwnMore
namespace Go.Proofs.YtohfckkgmijlnaaGreatDoor
open Go.RowKit

theorem bcell {W w1 : World} (hb : Below W.heap.size W w1) : (∀ b o, b < W.heap.size → w1.cell? ⟨b, o, none⟩ = W.cell? ⟨b, o, none⟩) ∧ (∀ b o, b < W.heap.size → w1.frozen? ⟨b, o, none⟩ = W.frozen? ⟨b, o, none⟩) :=
  ⟨fun b o h => hb.cell (p := ⟨b, o, none⟩) h, fun b o h => hb.frozen (p := ⟨b, o, none⟩) h⟩

theorem ret_int {k : IntKind} {a b : Int} (h : a = b) : Ending.returned (.int k a) = .returned (.int k b) := by rw [h]
theorem ret_bool {a b : Bool} (h : a = b) : Ending.returned (.bool a) = .returned (.bool b) := by rw [h]
theorem ret_int2 {k k' : IntKind} {a b a' b' : Int} (h : a = b) (h' : a' = b') : Ending.returned (.tuple #[.int k a, .int k' a']) = .returned (.tuple #[.int k b, .int k' b']) := by rw [h, h']

/-! Bounds of quotients, rests and products -/
theorem div_b {a b M : Int} (h0 : 0 ≤ a) (h1 : a ≤ M) (hb : 1 ≤ b) : 0 ≤ a / b ∧ a / b ≤ M :=
  ⟨Int.ediv_nonneg h0 (by omega), Int.le_trans (Int.ediv_le_self b h0) h1⟩
theorem mod_b {a b : Int} (hb : 1 ≤ b) : 0 ≤ a % b ∧ a % b < b :=
  ⟨Int.emod_nonneg _ (by omega), Int.emod_lt_of_pos _ (by omega)⟩
theorem mul_b {a b M N : Int} (h0 : 0 ≤ a) (h1 : a ≤ M) (k0 : 0 ≤ b) (k1 : b ≤ N) : 0 ≤ a * b ∧ a * b ≤ M * N :=
  ⟨Int.mul_nonneg h0 k0, Int.mul_le_mul h1 k1 k0 (by omega)⟩
theorem qr_of {a b r : Int} (h0 : 0 ≤ r) (h1 : r < b) : (a * b + r) / b = a ∧ (a * b + r) % b = r := by
  have hb : b ≠ 0 := by omega
  refine ⟨?_, ?_⟩
  · rw [Int.add_comm, Int.add_mul_ediv_right _ _ hb, Int.ediv_eq_zero_of_lt h0 h1]; omega
  · rw [Int.add_comm, Int.add_mul_emod_self_right]; exact Int.emod_eq_of_lt h0 h1
theorem qr_sum (a b : Int) : a / b * b + a % b = a := by rw [Int.mul_comm]; exact Int.mul_ediv_add_emod a b

/-! A frame: below the heap's old size, only the blocks of S may have turned. -/
structure Fr (S : Nat → Prop) (w w' : World) : Prop where
  os : w'.os = w.os
  tape : w'.tape = w.tape
  output : w'.output = w.output
  size : w.heap.size ≤ w'.heap.size
  block : ∀ k, k < w.heap.size → ¬ S k → w'.heap[k]? = w.heap[k]?

namespace Fr
variable {S T : Nat → Prop} {w w' w'' : World}
theorem refl (S : Nat → Prop) (w : World) : Fr S w w := ⟨rfl, rfl, rfl, Nat.le_refl _, fun _ _ _ => rfl⟩
theorem weaken (h : Fr S w w') (hs : ∀ k, k < w.heap.size → S k → T k) : Fr T w w' := ⟨h.os, h.tape, h.output, h.size, fun k hk hn => h.block k hk fun hS => hn (hs k hk hS)⟩
theorem trans (h : Fr S w w') (k : Fr T w' w'') (hs : ∀ k, k < w.heap.size → T k → S k) : Fr S w w'' :=
  ⟨k.os.trans h.os, k.tape.trans h.tape, k.output.trans h.output, Nat.le_trans h.size k.size, fun i hi hn => (k.block i (Nat.lt_of_lt_of_le hi h.size) fun hT => hn (hs i hi hT)).trans (h.block i hi hn)⟩
theorem of_below {B : Nat} (h : Below B w w') : Fr (fun k => B ≤ k) w w' := ⟨h.os, h.tape, h.output, h.size, fun k _ hn => h.block k (by omega)⟩
theorem below {B : Nat} (h : Fr S w w') (hB : B ≤ w.heap.size) (hs : ∀ k, k < B → ¬ S k) : Below B w w' := ⟨h.os, h.tape, h.output, h.size, fun k hk => h.block k (by omega) (hs k hk)⟩
theorem ext (h : Below w.heap.size w w') : Fr S w w' := ⟨h.os, h.tape, h.output, h.size, fun k hk _ => h.block k hk⟩
theorem to_ext (h : Fr S w w') (hs : ∀ k, k < w.heap.size → ¬ S k) : Below w.heap.size w w' := ⟨h.os, h.tape, h.output, h.size, fun k hk => h.block k hk (hs k hk)⟩
theorem drew (h : Fr S w w') : Fr S w w'.drew := ⟨h.os, h.tape, h.output, h.size, h.block⟩
theorem drewN (h : Fr S w w') (n : Nat) : Fr S w (w'.drewN n) := ⟨h.os, h.tape, h.output, h.size, h.block⟩
theorem alloc (h : Fr S w w') (o : Obj) : Fr S w (w'.alloc o) :=
  ⟨h.os, h.tape, h.output, Nat.le_trans h.size (by simp), fun k hk hn => (Below.heap_alloc _ _ _ (Nat.lt_of_lt_of_le hk h.size)).trans (h.block k hk hn)⟩
theorem setCell (h : Fr S w w') {a : Addr} (ha : a.block < w.heap.size → S a.block) (v : Value) : Fr S w (w'.setCell a v) :=
  ⟨h.os, h.tape, h.output, by simpa [World.setCell] using h.size, fun k hk hn => (Below.heap_setCell _ _ _ _ (fun e => by subst e; exact hn (ha hk))).trans (h.block k hk hn)⟩
theorem grown {row : Option Nat} (h : Fr S w w') (hg : w'.grownBy w'' row) (hr : ∀ k, k < w.heap.size → some k = row → S k) : Fr S w w'' :=
  ⟨hg.os.trans h.os, hg.tape.trans h.tape, hg.output.trans h.output, Nat.le_trans h.size hg.size, fun k hk hn => (hg.block k (Nat.lt_of_lt_of_le hk h.size) fun e => hn (hr k hk e)).trans (h.block k hk hn)⟩
theorem cell (h : Fr S w w') {p : Addr} (hp : p.block < w.heap.size) (hn : ¬ S p.block) : w'.cell? p = w.cell? p := World.cell?_of_block (h.block _ hp hn)
theorem frozen (h : Fr S w w') {p : Addr} (hp : p.block < w.heap.size) (hn : ¬ S p.block) : w'.frozen? p = w.frozen? p := World.frozen?_of_block (h.block _ hp hn)
end Fr

theorem ownsRow_drewN {w : World} {base size n : Nat} {e : TypeId} {v : Value} {xs : List Value} (h : w.ownsRow base e size v n xs) (k : Nat) : (w.drewN k).ownsRow base e size v n xs := h
theorem owns_shape {w : World} {base size n : Nat} {e : TypeId} {v : Value} {xs : List Value} (h : w.ownsRow base e size v n xs) : ∃ a c, v = .slice a n c := by
  rcases h.2 with ⟨rfl, rfl⟩ | ⟨g, cap, cur, rfl, _⟩
  · exact ⟨_, _, rfl⟩
  · exact ⟨_, _, rfl⟩
theorem owns_ext {w w' : World} {base size n : Nat} {e : TypeId} {v : Value} {xs : List Value} (h : w.ownsRow base e size v n xs) (hb : Below w.heap.size w w') : w'.ownsRow base e size v n xs := by
  refine ⟨h.1, h.2.imp id ?_⟩
  rintro ⟨g, cap, cur, rfl, h1, h2, h3⟩
  exact ⟨g, cap, cur, rfl, h1, by rw [hb.block g (Array.getElem?_eq_some_iff.1 h2).1]; exact h2, h3⟩
theorem add_lit' (b j : Nat) : (⟨b, 0, none⟩ : Addr).add j = ⟨b, j, none⟩ := by unfold Addr.add; split <;> simp_all
theorem cells_new (w : World) (cs : List Value) (t : TypeId) : ∀ (j : Nat) (u : Value), cs[j]? = some u → (w.alloc (.cells cs.toArray t)).cell? ((⟨w.heap.size, 0, none⟩ : Addr).add j) = some u := by
  intro j u h
  rw [add_lit', World.cell?_alloc_new]
  simpa using h
theorem cells_newN (w : World) (cs : List Value) (t : TypeId) (n : Nat) : ∀ (j : Nat) (u : Value), cs[j]? = some u → ((w.alloc (.cells cs.toArray t)).drewN n).cell? ((⟨w.heap.size, 0, none⟩ : Addr).add j) = some u := cells_new w cs t

/-! A slice value that reads as a list of cells ('size' cells an element, n elements). -/
def Sl (w : World) (size : Nat) (v : Value) (n : Nat) (xs : List Value) : Prop :=
  xs.length = n * size ∧ ((v = .slice none 0 0 ∧ n = 0) ∨ ∃ b off cap, v = .slice (some ⟨b, off, none⟩) n cap ∧ b < w.heap.size ∧ n ≤ cap ∧ ∀ j, j < n * size → w.cell? ⟨b, off + j, none⟩ = xs[j]?)

theorem Sl.nil (w : World) (size : Nat) : Sl w size (.slice none 0 0) 0 [] := ⟨by simp, .inl ⟨rfl, rfl⟩⟩
theorem Sl.mono {w w' : World} {size n : Nat} {v : Value} {xs : List Value} (h : Sl w size v n xs) (hb : Below w.heap.size w w') : Sl w' size v n xs := by
  obtain ⟨h1, h2⟩ := h
  refine ⟨h1, h2.imp id ?_⟩
  rintro ⟨b, off, cap, rfl, hlt, hc, hx⟩
  exact ⟨b, off, cap, rfl, Nat.lt_of_lt_of_le hlt hb.size, hc, fun j hj => (hb.cell (p := ⟨b, off + j, none⟩) hlt).trans (hx j hj)⟩
theorem Sl.of_owns {w : World} {base size n : Nat} {e : TypeId} {v : Value} {xs : List Value} (h : w.ownsRow base e size v n xs) : Sl w size v n xs := by
  refine ⟨h.1, h.2.imp id ?_⟩
  rintro ⟨g, cap, cur, rfl, hb, hg, hn, hm, hs, ht⟩
  refine ⟨g, 0, cap, rfl, (Array.getElem?_eq_some_iff.1 hg).1, hn, fun j hj => ?_⟩
  have := World.ownsRow.cellAt (w := w) (base := base) (e := e) (size := size) (g := g) (cap := cap) (n := n) (xs := xs) ⟨h.1, .inr ⟨g, cap, cur, rfl, hb, hg, hn, hm, hs, ht⟩⟩ j hj
  simpa using this
end Go.Proofs.YtohfckkgmijlnaaGreatDoor
namespace Go.Proofs.YtohfckkgmijlnaaGreatDoor
open Go.RowKit

theorem cellExt {w w' : World} (hb : Below w.heap.size w w') {a : Addr} {v : Value} (h : w.cell? a = some v) : w'.cell? a = some v :=
  (hb.cell (World.block_lt_of_cell? w a h)).trans h

/-- a world that has grown out of W -/
structure After (W : World) where
  w : World
  h : Below W.heap.size W w

def After.one (W : World) : After W := ⟨{ W with drawn := W.drawn + 1 }, ⟨rfl, rfl, rfl, Nat.le_refl _, fun _ _ => rfl⟩⟩

instance After.some (W : World) : Nonempty (After W) := ⟨After.one W⟩

theorem wp_region_after {P : Program} {id : Nat} {Q : Exit → Act → World → Prop} {a : Act} {w : World} {l : List Oper} (hm : P.follows .mixedOrders = true) (hB : Region.lexB .any l.toArray = true)
    (h : wpQuiet P l.toArray (fun w' => ∃ n : After w, w' = n.w) (fun a' => ∀ w', (∃ n : After w, w' = n.w) → Q .normal a' w') l a) : (Code.region id l.toArray true).wp P Q a w :=
  wp_region_quiet (C := fun w' => ∃ n : After w, w' = n.w) hm hB ⟨After.one w, rfl⟩ (by simpa using h)

theorem calls_after {P : Program} {f : FuncId} {args : Array Value} {W : World} {n : After W} {v : Value}
    (h : Calls P f args n.w fun e w' => e = .returned v ∧ Below n.w.heap.size n.w w') : Calls P f args n.w fun e w'' => e = .returned v ∧ ∃ m : After W, w'' = m.w :=
  h.mono fun _ w' ⟨he, hb⟩ => ⟨he, ⟨w', n.h.trans (hb.mono n.h.size)⟩, rfl⟩
theorem after_cell {W : World} {a : Addr} {v : Value} (h : W.cell? a = some v) (n : After W) : n.w.cell? a = some v := cellExt n.h h
end Go.Proofs.YtohfckkgmijlnaaGreatDoor
namespace Go.Proofs.YtohfckkgmijlnaaGreatDoor
open Go.ChangeShapes Go.WideShapes Go.ChangeAt Go.RowKit

theorem ownKnobs : ownKnob Tryz.prog.godebug = none := by kernel_rfl
theorem laidOuts : laidOutB Tryz.prog = true := by kernel_rfl
theorem boolType : Tryz.prog.underlying 4 = some .bool := Tryz.underlying4

section
variable {H : Type} {enc : TypeId × Value → H}

theorem trodAll_after {ts : List TypeId} (hr : ∀ t ∈ ts, Tryz.prog.readableRec t = true ∧ t < Tryz.prog.types.size) {W W' : World} (hb : Below W.heap.size W W') {sp : Nat → Bool} :
    ∀ {vs : List Value} {ds : List (DataW H)} {ps : List MemPlace}, DataW.TrodAll enc Tryz.prog W 0 (fun _ => true) true ts vs ds ps → (∀ p ∈ ps, p.block < W.heap.size ∧ sp p.block = true) → DataW.TrodAll enc Tryz.prog W' 0 sp true ts vs ds ps := by
  induction ts with
  | nil =>
    intro vs ds ps h hp
    obtain ⟨rfl, rfl, rfl⟩ := trodAll_nil h
    exact trodAll_mk0
  | cons t ts ih =>
    intro vs ds ps h hp
    cases vs with
    | nil => exact absurd h (by simp [DataW.TrodAll])
    | cons v vs =>
      obtain ⟨v0, vs0, d0, ds0, p0, q0, hargs, rfl, rfl, h0, r0⟩ := trodAll_cons h
      obtain ⟨rfl, rfl⟩ : v = v0 ∧ vs = vs0 := by simpa using hargs
      refine trodAll_cons_mk ?_ (ih (fun t ht => hr t (by simp [ht])) r0 (fun p hp' => hp p (by simp [hp'])))
      exact WideElems.Trod_stays laidOuts (hr t (by simp)).1 (hr t (by simp)).2 h0 (fun x hx => hb.same (hp x (by simp [hx])).1) (fun x hx => (hp x (by simp [hx])).2)

set_option maxRecDepth 100000 in
/-- The step where the row lists package variables (L): F is the law's number. After the worked proof PinupProofs. -/
theorem lift_law_laid (os : Os) (started : os.Started) {F : FuncId} {f : Func} {s : ChangeSpec} {L : List (String × DataW Unit)} (hvars : s.vars = []) (hres : f.resultTypes = #[4])
    (hfn : ∀ (ds : List (DataW H)), ds.length = f.params.size → (s.fn H ds).results = [.lit (.bool true)] ∧ (s.fn H ds).args = ds ∧ (s.fn H ds).vars = [])
    (hread : ∀ t ∈ f.params.toList, Tryz.prog.readableRec t = true ∧ t < Tryz.prog.types.size)
    (noInit : Tryz.checked.prog.inits.idxOf? F = none) (hF : Tryz.checked.prog.funcs[F]? = some f)
    (witness : ∃ (w : World) (tape : Tape) (i : Input), w.os = os ∧ (w.forCall tape i).Shaped Tryz.checked.prog ∧ i.vars = [] ∧ Input.okWide Tryz.checked.prog (w.forCall tape i) .any w.heap.size F i ∧
      ((s.pre enc Tryz.checked.prog f [] false (w.forCall tape i).memory i.args ∧ laidMetH Tryz.checked.prog L (w.forCall tape i).memory) ∧ sizedMet enc Tryz.checked.prog f (OpenSpec.ofChange s) false (w.forCall tape i).memory i.args) ∧ ({} : Assume).holds Tryz.checked.prog (lone (Frame.enter Tryz.checked.prog F i.args .normal) [] (w.forCall tape i)))
    (walk : ∀ (W : World) (base : Nat) (args : Array Value) (ds : List (DataW H)) (p : List MemPlace),
      (∀ (j : Nat) t v, f.params[j]? = some t → args[j]? = some v → Value.okWide Tryz.prog W .any base t v) → (∀ x ∈ p, x.block < W.heap.size) → W.noneFrozen p →
      DataW.TrodAll enc Tryz.prog W 0 (fun _ => true) true f.params.toList args.toList ds p → laidMetH Tryz.prog L W →
      Calls Tryz.prog F args W fun e W' => e = .returned (.bool true) ∧ Below W.heap.size W W') :
    ReturnsInHanded {} Tryz.checked os F .any (fun w args => (s.pre enc Tryz.prog f [] false w args ∧ laidMetH Tryz.prog L w) ∧ sizedMet enc Tryz.prog f (OpenSpec.ofChange s) false w args) (s.post enc Tryz.prog f false true false false) := by
  refine returnsInHanded_of_change_and (C := Tryz.checked) (X := fun w _ => laidMetH Tryz.prog L w) (fun _ _ _ hh h => h.of_heap hh) ownKnobs started noInit hF witness ?_
  intro W base args ds gs before hval0 hW _ _ hL _
  have hval : ∀ (j : Nat) t v, f.params[j]? = some t → args[j]? = some v → Value.okWide Tryz.prog W .any base t v := hval0
  have hW' : DataW.Whole enc Tryz.prog f.params.toList s.vars false W args.toList ds gs before := hW
  have hlt := hW'.lt
  obtain ⟨p, q, hA, hV, rfl, hfz, _⟩ := hW'
  rw [hvars] at hV
  obtain ⟨rfl, rfl⟩ := trodVars_none hV
  have hW2 : DataW.Whole enc Tryz.prog f.params.toList s.vars false W args.toList ds [] (p ++ []) := hW
  simp only [List.append_nil] at hW2 hfz hlt
  have hn : ds.length = f.params.size := by
    have : ∀ (ts : List TypeId) (vs : List Value) (ds : List (DataW H)) (p : List MemPlace), DataW.TrodAll enc Tryz.prog W 0 (fun _ => true) true ts vs ds p → ds.length = ts.length := by
      intro ts
      induction ts with
      | nil => intro vs ds p h; obtain ⟨rfl, rfl, rfl⟩ := trodAll_nil h; rfl
      | cons t ts ih =>
        intro vs ds p h
        cases vs with
        | nil => exact absurd h (by simp [DataW.TrodAll])
        | cons v vs =>
          obtain ⟨v0, vs0, d0, ds0, p0, q0, _, rfl, rfl, _, r0⟩ := trodAll_cons h
          simp [ih _ _ _ r0]
    have := this _ _ _ _ hA
    simpa using this
  obtain ⟨f1, f2, f3⟩ := hfn ds hn
  refine (walk W base args ds p hval hlt hfz hA hL).mono fun e W' ⟨he, hb⟩ => ?_
  subst he
  refine ⟨_, rfl, ds, [], p ++ [], [], p, [], hW, ?_, ?_, ?_, hb.frame _, fun h => by cases h⟩
  · rw [List.append_nil, f1, hres]
    exact trodAll_cons_mk (shut_bool boolType _) trodAll_mk0
  · rw [List.append_nil, f2]
    exact trodAll_after hread hb hA fun x hx => ⟨hlt x hx, by simpa using hlt x hx⟩
  · rw [List.append_nil, f3, hvars]
    rfl
end
end Go.Proofs.YtohfckkgmijlnaaGreatDoor
namespace Go.Proofs
open Go.Shelf
def Tryz.trimL_ren : Go.Shelf.Ren := ⟨fun | 160 => 65 | 232 => 74 | 231 => 73 | 227 => 75 | 234 => 77 | 233 => 76 | 236 => 79 | 235 => 78 | 228 => 101 | 271 => 104 | 151 => 103 | 197 => 102 | 120 => 121 | 152 => 120 | 260 => 119 | 137 => 126 | 119 => 127 | 224 => 128 | 225 => 129 | 217 => 132 | 266 => 134 | n => n, fun | 9 => 9 | 4 => 4 | 3 => 3 | 5 => 5 | 117 => 148 | 116 => 147 | 0 => 0 | 124 => 151 | 21 => 21 | 105 => 172 | 46 => 144 | 119 => 196 | 139 => 199 | 138 => 198 | n => n, fun | 3 => 1 | 4 => 2 | n => n⟩
theorem Tryz.trimL : Go.Proofs.Lays.n160 Tryz.prog Tryz.trimL_ren := {
  mixed := by kernel_rfl
  f119 := Tryz.func127.trans (congrArg some (by kernel_rfl))
  f120 := Tryz.func121.trans (congrArg some (by kernel_rfl))
  f137 := Tryz.func126.trans (congrArg some (by kernel_rfl))
  f151 := Tryz.func103.trans (congrArg some (by kernel_rfl))
  f152 := Tryz.func120.trans (congrArg some (by kernel_rfl))
  f160 := Tryz.func65.trans (congrArg some (by kernel_rfl))
  f197 := Tryz.func102.trans (congrArg some (by kernel_rfl))
  f217 := Tryz.func132.trans (congrArg some (by kernel_rfl))
  f224 := Tryz.func128.trans (congrArg some (by kernel_rfl))
  f225 := Tryz.func129.trans (congrArg some (by kernel_rfl))
  f227 := Tryz.func75.trans (congrArg some (by kernel_rfl))
  f228 := Tryz.func101.trans (congrArg some (by kernel_rfl))
  f231 := Tryz.func73.trans (congrArg some (by kernel_rfl))
  f232 := Tryz.func74.trans (congrArg some (by kernel_rfl))
  f233 := Tryz.func76.trans (congrArg some (by kernel_rfl))
  f234 := Tryz.func77.trans (congrArg some (by kernel_rfl))
  f235 := Tryz.func78.trans (congrArg some (by kernel_rfl))
  f236 := Tryz.func79.trans (congrArg some (by kernel_rfl))
  f260 := Tryz.func119.trans (congrArg some (by kernel_rfl))
  f266 := Tryz.func134.trans (congrArg some (by kernel_rfl))
  f271 := Tryz.func104.trans (congrArg some (by kernel_rfl))
  t0 := Tryz.underlying0
  a0 := Tryz.isAgg0
  z0 := Tryz.sizeOf0
  v0 := Tryz.zeroValue0
  t3 := Tryz.underlying3
  a3 := Tryz.isAgg3
  z3 := Tryz.sizeOf3
  v3 := Tryz.zeroValue3
  t4 := Tryz.underlying4
  a4 := Tryz.isAgg4
  z4 := Tryz.sizeOf4
  v4 := Tryz.zeroValue4
  t5 := Tryz.underlying5
  a5 := Tryz.isAgg5
  z5 := Tryz.sizeOf5
  v5 := Tryz.zeroValue5
  t9 := Tryz.underlying9
  a9 := Tryz.isAgg9
  z9 := Tryz.sizeOf9
  v9 := Tryz.zeroValue9
  t21 := Tryz.underlying21
  a21 := Tryz.isAgg21
  z21 := Tryz.sizeOf21
  v21 := Tryz.zeroValue21
  t46 := Tryz.underlying144
  a46 := Tryz.isAgg144
  z46 := Tryz.sizeOf144
  v46 := Tryz.zeroValue144
  t105 := Tryz.underlying172
  a105 := Tryz.isAgg172
  z105 := Tryz.sizeOf172
  v105 := Tryz.zeroValue172
  t116 := Tryz.underlying147
  a116 := Tryz.isAgg147
  z116 := Tryz.sizeOf147
  t117 := Tryz.underlying148
  a117 := Tryz.isAgg148
  z117 := Tryz.sizeOf148
  v117 := Tryz.zeroValue148
  t119 := Tryz.underlying196
  a119 := Tryz.isAgg196
  z119 := Tryz.sizeOf196
  t124 := Tryz.underlying151
  a124 := Tryz.isAgg151
  z124 := Tryz.sizeOf151
  v124 := Tryz.zeroValue151
  t138 := Tryz.underlying198
  a138 := Tryz.isAgg198
  z138 := Tryz.sizeOf198
  v138 := Tryz.zeroValue198
  t139 := Tryz.underlying199
  a139 := Tryz.isAgg199
  z139 := Tryz.sizeOf199
  v139 := Tryz.zeroValue199
  g3 := by kernel_rfl
  g4 := by kernel_rfl }
def Tryz.compL_ren : Go.Shelf.Ren := ⟨fun | 106 => 111 | 213 => 124 | 265 => 131 | n => n, fun | 9 => 9 | 3 => 3 | n => n, fun | n => n⟩
theorem Tryz.compL : Go.Proofs.Lays.n106 Tryz.prog Tryz.compL_ren := {
  mixed := by kernel_rfl
  f106 := Tryz.func111.trans (congrArg some (by kernel_rfl))
  f213 := Tryz.func124.trans (congrArg some (by kernel_rfl))
  f265 := Tryz.func131.trans (congrArg some (by kernel_rfl))
  t3 := Tryz.underlying3
  a3 := Tryz.isAgg3
  z3 := Tryz.sizeOf3
  v3 := Tryz.zeroValue3
  t9 := Tryz.underlying9
  a9 := Tryz.isAgg9
  z9 := Tryz.sizeOf9
  v9 := Tryz.zeroValue9 }
def Tryz.prefL_ren : Go.Shelf.Ren := ⟨fun | 99 => 29 | 206 => 44 | n => n, fun | 9 => 9 | 4 => 4 | 3 => 3 | n => n, fun | n => n⟩
theorem Tryz.prefL : Go.Proofs.Lays.n99 Tryz.prog Tryz.prefL_ren := {
  mixed := by kernel_rfl
  f99 := Tryz.func29.trans (congrArg some (by kernel_rfl))
  f206 := Tryz.func44.trans (congrArg some (by kernel_rfl))
  t3 := Tryz.underlying3
  a3 := Tryz.isAgg3
  z3 := Tryz.sizeOf3
  v3 := Tryz.zeroValue3
  t4 := Tryz.underlying4
  a4 := Tryz.isAgg4
  z4 := Tryz.sizeOf4
  v4 := Tryz.zeroValue4
  t9 := Tryz.underlying9
  a9 := Tryz.isAgg9
  z9 := Tryz.sizeOf9
  v9 := Tryz.zeroValue9 }
def Tryz.keysA_ren : Go.Shelf.Ren := ⟨fun | 7 => 43 | 10 => 62 | n => n, fun | 23 => 65 | 26 => 9 | 3 => 41 | 28 => 72 | 0 => 0 | 27 => 71 | 33 => 55 | 4 => 4 | n => n, fun | n => n⟩
theorem Tryz.keysA : Go.Proofs.SlLaysZ.n7 Tryz.prog Tryz.keysA_ren := {
  mixed := by kernel_rfl
  f7 := ⟨Tryz.f43.name, by decide, Tryz.func43.trans (congrArg some (by kernel_rfl))⟩
  f10 := ⟨Tryz.f62.name, by decide, Tryz.func62.trans (congrArg some (by kernel_rfl))⟩
  t0 := Tryz.underlying0
  a0 := Tryz.isAgg0
  z0 := Tryz.sizeOf0
  v0 := Tryz.zeroValue0
  t4 := Tryz.underlying4
  a4 := Tryz.isAgg4
  z4 := Tryz.sizeOf4
  v4 := Tryz.zeroValue4
  t23 := Tryz.underlying65
  a23 := Tryz.isAgg65
  z23 := Tryz.sizeOf65
  v23 := Tryz.zeroValue65
  t26 := Tryz.underlying9
  a26 := Tryz.isAgg9
  z26 := Tryz.sizeOf9
  v26 := Tryz.zeroValue9
  t27 := Tryz.underlying71
  a27 := Tryz.isAgg71
  z27 := Tryz.sizeOf71
  v27 := Tryz.zeroValue71
  t28 := Tryz.underlying72
  a28 := Tryz.isAgg72
  z28 := Tryz.sizeOf72
  v28 := Tryz.zeroValue72
  t33 := Tryz.underlying55
  a33 := Tryz.isAgg55
  z33 := Tryz.sizeOf55
  v33 := Tryz.zeroValue55 }
def Tryz.sortedA_ren : Go.Shelf.Ren := ⟨fun | 6 => 42 | 8 => 60 | 9 => 61 | 11 => 70 | 13 => 72 | 12 => 71 | 23 => 99 | 24 => 100 | 14 => 90 | 15 => 91 | 16 => 92 | 17 => 93 | 18 => 94 | 19 => 95 | 20 => 96 | 21 => 97 | 22 => 98 | 25 => 113 | 26 => 114 | 27 => 115 | 28 => 116 | 29 => 117 | 30 => 118 | 31 => 125 | n => n, fun | 26 => 9 | 28 => 72 | 24 => 47 | 0 => 0 | 3 => 3 | 37 => 144 | 48 => 168 | 50 => 170 | 4 => 4 | 40 => 162 | 39 => 161 | 45 => 156 | 5 => 5 | 9 => 9 | 51 => 184 | 55 => 188 | 57 => 193 | 58 => 194 | 33 => 55 | n => n, fun | n => n⟩
theorem Tryz.sortedA : Go.Proofs.SlLaysZ.n6 Tryz.prog Tryz.sortedA_ren := {
  mixed := by kernel_rfl
  f6 := ⟨Tryz.f42.name, by decide, Tryz.func42.trans (congrArg some (by kernel_rfl))⟩
  f8 := ⟨Tryz.f60.name, by decide, Tryz.func60.trans (congrArg some (by kernel_rfl))⟩
  f11 := ⟨Tryz.f70.name, by decide, Tryz.func70.trans (congrArg some (by kernel_rfl))⟩
  t0 := Tryz.underlying0
  a0 := Tryz.isAgg0
  z0 := Tryz.sizeOf0
  v0 := Tryz.zeroValue0
  t24 := Tryz.underlying47
  a24 := Tryz.isAgg47
  z24 := Tryz.sizeOf47
  v24 := Tryz.zeroValue47
  t26 := Tryz.underlying9
  a26 := Tryz.isAgg9
  z26 := Tryz.sizeOf9
  v26 := Tryz.zeroValue9
  t28 := Tryz.underlying72
  a28 := Tryz.isAgg72
  z28 := Tryz.sizeOf72
  v28 := Tryz.zeroValue72
  i26 := by kernel_rfl }
def Tryz.sortA_ren : Go.Shelf.Ren := ⟨fun | 6 => 61 | 8 => 72 | 9 => 71 | 19 => 99 | 20 => 100 | 21 => 90 | 22 => 91 | 23 => 92 | 24 => 93 | 25 => 94 | 26 => 95 | 27 => 96 | 28 => 97 | 29 => 98 | 36 => 113 | 31 => 114 | 32 => 115 | 37 => 116 | 38 => 117 | 39 => 118 | 41 => 125 | n => n, fun | 27 => 47 | 29 => 9 | 3 => 3 | 32 => 144 | 26 => 47 | 0 => 0 | 44 => 168 | 46 => 170 | 4 => 4 | 36 => 162 | 35 => 161 | 41 => 156 | 5 => 5 | 9 => 9 | 53 => 184 | 57 => 188 | 63 => 193 | 64 => 194 | n => n, fun | n => n⟩
theorem Tryz.sortA : Go.Proofs.SlLaysM.n6 Tryz.prog Tryz.sortA_ren := {
  mixed := by kernel_rfl
  f6 := ⟨Tryz.f61.name, by decide, Tryz.func61.trans (congrArg some (by kernel_rfl))⟩
  f8 := Tryz.func72.trans (congrArg some (by kernel_rfl))
  f9 := ⟨Tryz.f71.name, by decide, Tryz.func71.trans (congrArg some (by kernel_rfl))⟩
  f19 := Tryz.func99.trans (congrArg some (by kernel_rfl))
  f20 := Tryz.func100.trans (congrArg some (by kernel_rfl))
  f21 := ⟨Tryz.f90.name, by decide, Tryz.func90.trans (congrArg some (by kernel_rfl))⟩
  f22 := ⟨Tryz.f91.name, by decide, Tryz.func91.trans (congrArg some (by kernel_rfl))⟩
  f23 := ⟨Tryz.f92.name, by decide, Tryz.func92.trans (congrArg some (by kernel_rfl))⟩
  f24 := ⟨Tryz.f93.name, by decide, Tryz.func93.trans (congrArg some (by kernel_rfl))⟩
  f25 := ⟨Tryz.f94.name, by decide, Tryz.func94.trans (congrArg some (by kernel_rfl))⟩
  f26 := ⟨Tryz.f95.name, by decide, Tryz.func95.trans (congrArg some (by kernel_rfl))⟩
  f27 := ⟨Tryz.f96.name, by decide, Tryz.func96.trans (congrArg some (by kernel_rfl))⟩
  f28 := ⟨Tryz.f97.name, by decide, Tryz.func97.trans (congrArg some (by kernel_rfl))⟩
  f29 := ⟨Tryz.f98.name, by decide, Tryz.func98.trans (congrArg some (by kernel_rfl))⟩
  f31 := Tryz.func114.trans (congrArg some (by kernel_rfl))
  f32 := Tryz.func115.trans (congrArg some (by kernel_rfl))
  f36 := ⟨Tryz.f113.name, by decide, Tryz.func113.trans (congrArg some (by kernel_rfl))⟩
  f37 := ⟨Tryz.f116.name, by decide, Tryz.func116.trans (congrArg some (by kernel_rfl))⟩
  f38 := ⟨Tryz.f117.name, by decide, Tryz.func117.trans (congrArg some (by kernel_rfl))⟩
  f39 := ⟨Tryz.f118.name, by decide, Tryz.func118.trans (congrArg some (by kernel_rfl))⟩
  f41 := ⟨Tryz.f125.name, by decide, Tryz.func125.trans (congrArg some (by kernel_rfl))⟩
  t0 := Tryz.underlying0
  a0 := Tryz.isAgg0
  z0 := Tryz.sizeOf0
  v0 := Tryz.zeroValue0
  t3 := Tryz.underlying3
  a3 := Tryz.isAgg3
  z3 := Tryz.sizeOf3
  v3 := Tryz.zeroValue3
  t4 := Tryz.underlying4
  a4 := Tryz.isAgg4
  z4 := Tryz.sizeOf4
  v4 := Tryz.zeroValue4
  t5 := Tryz.underlying5
  a5 := Tryz.isAgg5
  z5 := Tryz.sizeOf5
  v5 := Tryz.zeroValue5
  t9 := Tryz.underlying9
  a9 := Tryz.isAgg9
  z9 := Tryz.sizeOf9
  v9 := Tryz.zeroValue9
  t26 := Tryz.underlying47
  a26 := Tryz.isAgg47
  z26 := Tryz.sizeOf47
  v26 := Tryz.zeroValue47
  t27 := Tryz.underlying47
  a27 := Tryz.isAgg47
  z27 := Tryz.sizeOf47
  v27 := Tryz.zeroValue47
  t29 := Tryz.underlying9
  a29 := Tryz.isAgg9
  z29 := Tryz.sizeOf9
  v29 := Tryz.zeroValue9
  t32 := Tryz.underlying144
  a32 := Tryz.isAgg144
  z32 := Tryz.sizeOf144
  v32 := Tryz.zeroValue144
  t35 := Tryz.underlying161
  a35 := Tryz.isAgg161
  z35 := Tryz.sizeOf161
  v35 := Tryz.zeroValue161
  t36 := Tryz.underlying162
  a36 := Tryz.isAgg162
  z36 := Tryz.sizeOf162
  v36 := Tryz.zeroValue162
  t41 := Tryz.underlying156
  a41 := Tryz.isAgg156
  z41 := Tryz.sizeOf156
  v41 := Tryz.zeroValue156
  t44 := Tryz.underlying168
  a44 := Tryz.isAgg168
  z44 := Tryz.sizeOf168
  v44 := Tryz.zeroValue168
  t46 := Tryz.underlying170
  a46 := Tryz.isAgg170
  z46 := Tryz.sizeOf170
  v46 := Tryz.zeroValue170
  t53 := Tryz.underlying184
  a53 := Tryz.isAgg184
  z53 := Tryz.sizeOf184
  v53 := Tryz.zeroValue184
  t57 := Tryz.underlying188
  a57 := Tryz.isAgg188
  z57 := Tryz.sizeOf188
  v57 := Tryz.zeroValue188
  t63 := Tryz.underlying193
  a63 := Tryz.isAgg193
  z63 := Tryz.sizeOf193
  v63 := Tryz.zeroValue193
  t64 := Tryz.underlying194
  a64 := Tryz.isAgg194
  z64 := Tryz.sizeOf194
  v64 := Tryz.zeroValue194 }
end Go.Proofs
namespace Go.Proofs.YtohfckkgmijlnaaGreatDoor
open Go.RowKit

/-- of the blocks of A nothing has turned -/
structure Same (A : Nat → Prop) (w w' : World) : Prop where
  size : w.heap.size ≤ w'.heap.size
  block : ∀ b, A b → b < w.heap.size → w'.heap[b]? = w.heap[b]?
namespace Same
variable {A A' : Nat → Prop} {w w' w'' : World}
theorem refl (A : Nat → Prop) (w : World) : Same A w w := ⟨Nat.le_refl _, fun _ _ _ => rfl⟩
theorem trans (h : Same A w w') (k : Same A w' w'') : Same A w w'' := ⟨Nat.le_trans h.size k.size, fun b hb hl => (k.block b hb (Nat.lt_of_lt_of_le hl h.size)).trans (h.block b hb hl)⟩
theorem of_ext (h : Below w.heap.size w w') : Same A w w' := ⟨h.size, fun b _ hl => h.block b hl⟩
theorem of_fr {S : Nat → Prop} (h : Fr S w w') (hs : ∀ b, A b → b < w.heap.size → ¬ S b) : Same A w w' := ⟨h.size, fun b hb hl => h.block b hl (hs b hb hl)⟩
theorem of_below {B : Nat} (h : Below B w w') (hs : ∀ b, A b → b < B) : Same A w w' := ⟨h.size, fun b hb _ => h.block b (hs b hb)⟩
theorem of_grown {row : Option Nat} (h : w.grownBy w' row) (hs : ∀ b, A b → some b ≠ row) : Same A w w' := ⟨h.size, fun b hb hl => h.block b hl (hs b hb)⟩
theorem weak (h : Same A w w') (hs : ∀ b, A' b → A b) : Same A' w w' := ⟨h.size, fun b hb hl => h.block b (hs b hb) hl⟩
theorem drew (h : Same A w w') : Same A w w'.drew := ⟨h.size, h.block⟩
theorem alloc (h : Same A w w') (o : Obj) : Same A w (w'.alloc o) := ⟨Nat.le_trans h.size (by simp), fun b hb hl => (Below.heap_alloc _ _ _ (Nat.lt_of_lt_of_le hl h.size)).trans (h.block b hb hl)⟩
theorem setCell (h : Same A w w') {a : Addr} (ha : ¬ A a.block) (v : Value) : Same A w (w'.setCell a v) := ⟨by simpa [World.setCell] using h.size, fun b hb hl => (Below.heap_setCell _ _ _ _ (fun e => by subst e; exact ha hb)).trans (h.block b hb hl)⟩
theorem cell (h : Same A w w') {p : Addr} (hp : A p.block) (hl : p.block < w.heap.size) : w'.cell? p = w.cell? p := World.cell?_of_block (h.block _ hp hl)
end Same

structure Enc (α : Type) where
  size : Nat
  rd : (Nat → Prop) → World → List Value → α → Prop
  len : ∀ {A w cs x}, rd A w cs x → cs.length = size
  one : ∀ {A w cs x}, rd A w cs x → ∀ u ∈ cs, u.oneCell' = true
  mono : ∀ {A w w' cs x}, rd A w cs x → Same A w w' → rd A w' cs x
  weak : ∀ {A A' w cs x}, rd A w cs x → (∀ b, b < w.heap.size → A b → A' b) → rd A' w cs x

/-- a slice value that reads as a list of data -/
structure SlE {α : Type} (E : Enc α) (A : Nat → Prop) (w : World) (v : Value) (l : List α) : Prop where
  mk ::
  ex : ∃ cs : List (List Value), cs.length = l.length ∧ (∀ (i : Nat) (x : α) (c : List Value), l[i]? = some x → cs[i]? = some c → E.rd A w c x) ∧ cs.flatten.length = l.length * E.size ∧
    (((∃ a, v = .slice a 0 0) ∧ l = []) ∨ ∃ b off cap, v = .slice (some ⟨b, off, none⟩) l.length cap ∧ l.length ≤ cap ∧ A b ∧ b < w.heap.size ∧ ∀ j, j < l.length * E.size → w.cell? ⟨b, off + j, none⟩ = cs.flatten[j]?)

def Enc.int (k : IntKind) : Enc Int where
  size := 1
  rd := fun _ _ cs x => cs = [.int k x]
  len := fun h => by rw [h]; rfl
  one := fun h u hu => by rw [h] at hu; simp at hu; subst hu; rfl
  mono := fun h _ => h
  weak := fun h _ => h

theorem SlE.mono {α : Type} {E : Enc α} {A : Nat → Prop} {w w' : World} {v : Value} {l : List α} (h : SlE E A w v l) (hs : Same A w w') : SlE E A w' v l := by
  obtain ⟨cs, h1, h2, h3, h4⟩ := h.ex
  refine ⟨cs, h1, fun i x c hx hc => E.mono (h2 i x c hx hc) hs, h3, h4.imp id ?_⟩
  rintro ⟨b, off, cap, rfl, hc, hA, hl, hx⟩
  exact ⟨b, off, cap, rfl, hc, hA, Nat.lt_of_lt_of_le hl hs.size, fun j hj => (hs.cell (p := ⟨b, off + j, none⟩) hA hl).trans (hx j hj)⟩
theorem SlE.weak {α : Type} {E : Enc α} {A A' : Nat → Prop} {w : World} {v : Value} {l : List α} (h : SlE E A w v l) (hs : ∀ b, b < w.heap.size → A b → A' b) : SlE E A' w v l := by
  obtain ⟨cs, h1, h2, h3, h4⟩ := h.ex
  refine ⟨cs, h1, fun i x c hx hc => E.weak (h2 i x c hx hc) hs, h3, h4.imp id ?_⟩
  rintro ⟨b, off, cap, rfl, hc, hA, hl, hx⟩
  exact ⟨b, off, cap, rfl, hc, hs b hl hA, hl, hx⟩
theorem SlE.shape {α : Type} {E : Enc α} {A : Nat → Prop} {w : World} {v : Value} {l : List α} (h : SlE E A w v l) : ∃ a c, v = .slice a l.length c := by
  obtain ⟨cs, h1, h2, h3, ⟨⟨a, rfl⟩, rfl⟩ | ⟨b, off, cap, rfl, _⟩⟩ := h.ex
  · exact ⟨_, _, rfl⟩
  · exact ⟨_, _, rfl⟩
theorem SlE.nil {α : Type} (E : Enc α) (A : Nat → Prop) (w : World) : SlE E A w (.slice none 0 0) [] := ⟨[], rfl, fun i x c hx => by simp at hx, by simp, .inl ⟨⟨_, rfl⟩, rfl⟩⟩
/-- element i's cells -/
theorem SlE.at {α : Type} {E : Enc α} {A : Nat → Prop} {w : World} {v : Value} {l : List α} (h : SlE E A w v l) {i : Nat} {x : α} (hi : l[i]? = some x) :
    ∃ b off cap c, v = .slice (some ⟨b, off, none⟩) l.length cap ∧ b < w.heap.size ∧ A b ∧ E.rd A w c x ∧ ∀ j, j < E.size → w.cell? ⟨b, off + (i * E.size + j), none⟩ = c[j]? := by
  obtain ⟨cs, h1, h2, h3, ⟨⟨a, rfl⟩, rfl⟩ | ⟨b, off, cap, rfl, hc, hA, hl, hx⟩⟩ := h.ex
  · simp at hi
  · have hlt := (List.getElem?_eq_some_iff.1 hi).1
    have hci : cs[i]? = some cs[i] := by simp [h1, hlt]
    have hr := h2 i x _ hi hci
    refine ⟨b, off, cap, cs[i], rfl, hl, hA, hr, fun j hj => ?_⟩
    have hle : i * E.size + j < l.length * E.size := by
      have : (i + 1) * E.size ≤ l.length * E.size := Nat.mul_le_mul_right _ hlt
      rw [Nat.add_mul] at this
      omega
    rw [hx _ hle]
    have key : ∀ (m : List (List Value)) (i : Nat) (hi : i < m.length), (∀ c ∈ m, c.length = E.size) → ∀ j, j < E.size → m.flatten[i * E.size + j]? = m[i][j]? := by
      intro m
      induction m with
      | nil => intro i hi; simp at hi
      | cons c m ih =>
        intro i hi hall j hj
        have hc := hall c (by simp)
        cases i with
        | zero => simp [List.getElem?_append_left (by rw [hc]; exact hj)]
        | succ i =>
          have := ih i (by simpa using hi) (fun c hc => hall c (by simp [hc])) j hj
          rw [List.flatten_cons, List.getElem?_append_right (by rw [hc, Nat.add_mul]; omega), hc]
          rw [show (i + 1) * E.size + j - E.size = i * E.size + j by rw [Nat.add_mul]; omega]
          simpa using this
    refine key cs i (by rw [h1]; exact hlt) ?_ j hj
    intro c hc
    obtain ⟨k, hk, rfl⟩ := List.getElem_of_mem hc
    exact E.len (h2 k _ _ (by simp [h1 ▸ hk] : l[k]? = some l[k]) (by simp [hk]))
def Enc.slice {α : Type} (E : Enc α) : Enc (List α) where
  size := 1
  rd := fun A w cs l => ∃ v, cs = [v] ∧ SlE E A w v l
  len := fun ⟨v, h, _⟩ => by rw [h]; rfl
  one := fun ⟨v, h, hs⟩ u hu => by
    rw [h] at hu; simp at hu; subst hu
    obtain ⟨a, c, rfl⟩ := hs.shape
    rfl
  mono := fun ⟨v, h, hs⟩ hm => ⟨v, h, hs.mono hm⟩
  weak := fun ⟨v, h, hs⟩ hm => ⟨v, h, hs.weak hm⟩
end Go.Proofs.YtohfckkgmijlnaaGreatDoor
namespace Go.Proofs.YtohfckkgmijlnaaGreatDoor
open Go.RowKit Go.WideShapes

def SlA (A : Nat → Prop) (w : World) (size : Nat) (v : Value) (n : Nat) (xs : List Value) : Prop :=
  xs.length = n * size ∧ (((∃ a, v = .slice a 0 0) ∧ n = 0) ∨ ∃ b off cap, v = .slice (some ⟨b, off, none⟩) n cap ∧ b < w.heap.size ∧ A b ∧ n ≤ cap ∧ ∀ j, j < n * size → w.cell? ⟨b, off + j, none⟩ = xs[j]?)
def UpA (A : Nat → Prop) (w : World) (b : Nat) : Prop := A b ∨ w.heap.size ≤ b
section
variable {A A' : Nat → Prop} {w w' : World} {size n : Nat} {v : Value} {xs : List Value}
theorem SlA.mono (h : SlA A w size v n xs) (hs : Same A w w') : SlA A w' size v n xs := by
  obtain ⟨h1, h2⟩ := h
  refine ⟨h1, h2.imp id ?_⟩
  rintro ⟨b, off, cap, rfl, hl, hA, hc, hx⟩
  exact ⟨b, off, cap, rfl, Nat.lt_of_lt_of_le hl hs.size, hA, hc, fun j hj => (hs.cell (p := ⟨b, off + j, none⟩) hA hl).trans (hx j hj)⟩
theorem SlA.ext (h : SlA A w size v n xs) (hb : Below w.heap.size w w') : SlA A w' size v n xs := h.mono (Same.of_ext hb)
theorem SlA.weak (h : SlA A w size v n xs) (hA : ∀ b, A b → A' b) : SlA A' w size v n xs := by
  obtain ⟨h1, h2⟩ := h
  refine ⟨h1, h2.imp id ?_⟩
  rintro ⟨b, off, cap, rfl, hl, hb, hc, hx⟩
  exact ⟨b, off, cap, rfl, hl, hA b hb, hc, hx⟩
theorem SlA.shape (h : SlA A w size v n xs) : ∃ a c, v = .slice a n c := by
  rcases h.2 with ⟨⟨a, rfl⟩, rfl⟩ | ⟨b, off, cap, rfl, _⟩
  · exact ⟨_, _, rfl⟩
  · exact ⟨_, _, rfl⟩
theorem SlA.zero (A : Nat → Prop) (w : World) (size : Nat) (a : Option Addr) : SlA A w size (.slice a 0 0) 0 [] := ⟨by simp, .inl ⟨⟨a, rfl⟩, rfl⟩⟩
theorem SlA.nil (A : Nat → Prop) (w : World) (size : Nat) : SlA A w size (.slice none 0 0) 0 [] := SlA.zero A w size none
theorem SlA.none_ {m c : Nat} (h : SlA A w size (.slice none m c) n xs) : m = 0 ∧ n = 0 ∧ c = 0 := by
  rcases h.2 with ⟨⟨a, e⟩, rfl⟩ | ⟨b, off, cap, e, _⟩
  · simp only [Value.slice.injEq] at e
    exact ⟨e.2.1, rfl, e.2.2⟩
  · simp at e
theorem SlA.src {p : Addr} {m c : Nat} (h : SlA A w size (.slice (some p) m c) n xs) : m = n ∧ n ≤ c ∧ ∀ j u, xs[j]? = some u → w.cell? (p.add j) = some u := by
  obtain ⟨h1, h2⟩ := h
  rcases h2 with ⟨⟨a, e⟩, rfl⟩ | ⟨b, off, cap, e, hl, hA, hc, hx⟩
  · simp only [Value.slice.injEq] at e
    refine ⟨e.2.1, Nat.zero_le _, fun j u hj => ?_⟩
    obtain rfl : xs = [] := List.eq_nil_of_length_eq_zero (by simpa using h1)
    simp at hj
  · simp only [Value.slice.injEq, Option.some.injEq] at e
    obtain ⟨rfl, rfl, rfl⟩ := e
    refine ⟨rfl, hc, fun j u hj => ?_⟩
    have hjl : j < m * size := by rw [← h1]; exact (List.getElem?_eq_some_iff.1 hj).1
    rw [add_plain, hx j hjl, hj]
theorem SlA.of_owns {base : Nat} {e : TypeId} (h : w.ownsRow base e size v n xs) : SlA (fun b => base ≤ b) w size v n xs := by
  refine ⟨h.1, h.2.imp (fun ⟨h1, h2⟩ => ⟨⟨_, h1⟩, h2⟩) ?_⟩
  rintro ⟨g, cap, cur, rfl, hb, hg, hn, hm, hs, ht⟩
  refine ⟨g, 0, cap, rfl, (Array.getElem?_eq_some_iff.1 hg).1, hb, hn, fun j hj => ?_⟩
  have := World.ownsRow.cellAt (w := w) (base := base) (e := e) (size := size) (g := g) (cap := cap) (n := n) (xs := xs) ⟨h.1, .inr ⟨g, cap, cur, rfl, hb, hg, hn, hm, hs, ht⟩⟩ j hj
  simpa using this
theorem SlA.at {a : Option Addr} {c : Nat} (h : SlA A w size (.slice a n c) n xs) (hn : 0 < n) : ∃ b off, a = some ⟨b, off, none⟩ ∧ b < w.heap.size ∧ A b ∧ n ≤ c ∧ ∀ j, j < n * size → w.cell? ⟨b, off + j, none⟩ = xs[j]? := by
  rcases h.2 with ⟨_, rfl⟩ | ⟨b, off, cap, e, r⟩
  · omega
  · simp only [Value.slice.injEq] at e
    obtain ⟨rfl, _, rfl⟩ := e
    exact ⟨b, off, rfl, r⟩
end

section
variable {P : Program} {w : World} {ops : Array Oper} {rest : List Oper} {o : Oper} {a : Act} {Q : Exit → Act → World → Prop}
/-- 'append(out, src...)': out of the call's own, src any row that reads as cells -/
theorem wpList_append_sl (hgd : o.guard = none) (s x : Operand) (t : TypeId) (ho : o.op = .call { callee := .builtin .append, args := #[s, x], argTypes := #[t, t] })
    (base : Nat) (e : TypeId) (i : TypeInfo) (z : Value) (size bytes : Nat) (ht : P.underlying t = some (.slice e)) (hi : P.info? e = some i) (hz : i.zero = some z)
    (hsize : i.size = size) (hby : i.bytes = bytes) (hzs : z.cells.size = size) (hsz : 0 < size)
    (v : Value) (n : Nat) (xs : List Value) (hs : a.eval s = v) (hown : w.ownsRow base e size v n xs)
    (A : Nat → Prop) (sv : Value) (m : Nat) (news : List Value) (hx : a.eval x = sv) (hsl : SlA A w size sv m news) (h1 : ∀ u ∈ news, u.oneCell' = true)
    (h63 : n + m ≤ maxLen) (hbytes : (n + m) * bytes ≤ 140737488355328) (hbase : base ≤ w.heap.size)
    (h : ∀ v' w', w'.ownsRow base e size v' (n + m) (xs ++ news) → w.grownBy w' v.ownBlock → wpList P ops Q rest (a.put o.dst v') w') : wpList P ops Q (o :: rest) a w := by
  rcases hsl.2 with ⟨⟨a0, rfl⟩, rfl⟩ | ⟨b, off, cap, rfl, hl, hA, hc, hcell⟩
  · have hn : news = [] := List.length_eq_zero_iff.1 (by simpa using hsl.1)
    subst hn
    cases a0 with
    | none => exact wpList_append_own_none hgd s x t ho base e i size ht hi v n xs hs hown hx (h v w (by simpa using hown) (World.grownBy.refl w _))
    | some p => exact wpList_append_own w hgd s x t ho base e i z size bytes ht hi hz hsize hby hzs hsz v n xs hs hown p 0 0 [] hx (by simp) (fun j u hj => by simp at hj) h1 h63 hbytes hbase fun v' w' h2 h3 _ => h v' w' h2 h3
  · refine wpList_append_own w hgd s x t ho base e i z size bytes ht hi hz hsize hby hzs hsz v n xs hs hown ⟨b, off, none⟩ m cap news hx hsl.1 (fun j u hj => ?_) h1 h63 hbytes hbase fun v' w' h2 h3 _ => h v' w' h2 h3
    have hjl : j < m * size := by rw [← hsl.1]; exact (List.getElem?_eq_some_iff.1 hj).1
    rw [add_plain, hcell j hjl, hj]
end

theorem cellB {w w' : World} {n : Nat} (hb : Below n w w') {a : Addr} {v : Value} (hn : a.block < n) (h : w.cell? a = some v) : w'.cell? a = some v := (hb.cell hn).trans h
theorem blk_cell {w : World} {g i : Nat} {t : TypeId} {cs : Array Value} (h : w.heap[g]? = some (.cells cs t (0, 0))) : w.cell? ⟨g, i, none⟩ = cs[i]? ∧ w.frozen? ⟨g, i, none⟩ = false := by
  simp [World.cell?, World.frozen?, h]
section
variable {A A' : Nat → Prop} {w w' : World} {size n : Nat} {v : Value} {xs : List Value}
/-- what is read lies in the heap -/
theorem SlA.cut (h : SlA A w size v n xs) : SlA (fun b => A b ∧ b < w.heap.size) w size v n xs := by
  obtain ⟨h1, h2⟩ := h
  refine ⟨h1, h2.imp id ?_⟩
  rintro ⟨b, off, cap, rfl, hl, hA, hc, hx⟩
  exact ⟨b, off, cap, rfl, hl, ⟨hA, hl⟩, hc, hx⟩
end
theorem own_ne {w : World} {b1 b2 s1 s2 n1 n2 : Nat} {e1 e2 : TypeId} {v1 v2 : Value} {x1 x2 : List Value} (h1 : w.ownsRow b1 e1 s1 v1 n1 x1) (h2 : w.ownsRow b2 e2 s2 v2 n2 x2) (hne : e1 ≠ e2) : v1.ownBlock = none ∨ v1.ownBlock ≠ v2.ownBlock := by
  rcases h1.2 with ⟨rfl, _⟩ | ⟨g1, c1, u1, rfl, _, hg1, _⟩
  · exact .inl rfl
  · refine .inr fun e => ?_
    rcases h2.2 with ⟨rfl, _⟩ | ⟨g2, c2, u2, rfl, _, hg2, _⟩
    · simp [Value.ownBlock] at e
    · simp only [Value.ownBlock, Option.some.injEq] at e
      subst e
      rw [hg1] at hg2
      simp only [Option.some.injEq, Obj.cells.injEq] at hg2
      exact hne hg2.2.1
theorem hbw3_of {B : Nat} {w w1 w2 : World} (h1 : Below B w w1) (h2 : Below B w w2) (hs : w1.heap.size ≤ w2.heap.size) : Below B w1 w2 :=
  ⟨h2.os.trans h1.os.symm, h2.tape.trans h1.tape.symm, h2.output.trans h1.output.symm, hs, fun k hk => (h2.block k hk).trans (h1.block k hk).symm⟩
/-- the row 'out' of the call's own stands apart from the blocks of S -/
structure Gro (base : Nat) (S : Nat → Prop) (wr : World) (out : Value) : Prop where
  lo : ∀ b, S b → base ≤ b ∧ b < wr.heap.size
  off : ∀ g, out.ownBlock = some g → ¬ S g
def More (S : Nat → Prop) (wr w2 : World) (b : Nat) : Prop := S b ∨ wr.heap.size ≤ b ∧ b < w2.heap.size
theorem Gro.nil (base : Nat) (wr : World) : Gro base (fun _ => False) wr (.slice none 0 0) := ⟨fun _ h => h.elim, fun _ _ h => h⟩
theorem nest_step {base n size : Nat} {S : Nat → Prop} {wr w2 w3 : World} {out out' : Value} {e : TypeId} {xs : List Value} {o : Obj} (hG : Gro base S wr out) (hown : wr.ownsRow base e size out n xs) (hbase : base ≤ wr.heap.size) (hb2 : Below wr.heap.size wr w2)
    (hg : (w2.alloc o).grownBy w3 out.ownBlock) (hat : out'.ownBlock = out.ownBlock ∨ out'.ownBlock = some (w2.heap.size + 1)) :
    Gro base (More S wr w2) w3 out' ∧ Same (More S wr w2) w2 w3 ∧ Below base wr w3 := by
  have hs2 := hb2.size
  have hs3 := hg.size
  simp only [World.size_alloc] at hs3
  have hrow : ∀ g, out.ownBlock = some g → base ≤ g ∧ g < wr.heap.size := fun g hg => hown.lt g hg
  refine ⟨⟨fun b hb => ?_, fun g hg' => ?_⟩, ?_, ?_⟩
  · rcases hb with hb | ⟨h1, h2⟩
    · have := hG.lo b hb; omega
    · omega
  · rcases hat with e1 | e1
    · rw [e1] at hg'
      have h1 := hrow g hg'
      rintro (h | h)
      · exact hG.off g hg' h
      · omega
    · rw [e1] at hg'
      simp only [Option.some.injEq] at hg'
      rintro (h | h)
      · have := hG.lo g h; omega
      · omega
  · refine ⟨by omega, fun b hb hl => ?_⟩
    have h1 : some b ≠ out.ownBlock := fun e1 => by
      have h2 := hrow b e1.symm
      rcases hb with h | h
      · exact hG.off b e1.symm h
      · omega
    rw [hg.block b (by simp; omega) h1, Below.heap_alloc _ _ _ hl]
  · refine ((hb2.mono hbase).alloc (by omega) o).grown hg (by simp; omega) fun g hg' => ?_
    exact (hrow g hg').1
theorem More.old (S : Nat → Prop) (wr w2 : World) : ∀ b, S b → More S wr w2 b := fun _ h => .inl h
theorem More.new (S : Nat → Prop) (wr w2 : World) : ∀ b, (wr.heap.size ≤ b ∧ b < w2.heap.size) → More S wr w2 b := fun _ h => .inr h
theorem blk_keep {base k : Nat} {w w' : World} (hb : Below base w w') (hk : k < base) {o : Obj} (h : w.heap[k]? = some o) : w'.heap[k]? = some o := (hb.block k hk).trans h


/-! Rows of bytes -/
def bv (b : UInt8) : Value := .int .u8 b.toNat
def RB (A : Nat → Prop) (w : World) (v : Value) (l : List UInt8) : Prop := SlA A w 1 v l.length (l.map bv)
theorem one_bytes (l : List UInt8) : ∀ u ∈ l.map bv, u.oneCell' = true := by
  intro u hu
  obtain ⟨x, _, rfl⟩ := List.mem_map.1 hu
  rfl
theorem bv_at {l : List UInt8} {k : Nat} (h : k < l.length) : (l.map bv)[k]? = some (bv l[k]) := by simp [h]
end Go.Proofs.YtohfckkgmijlnaaGreatDoor
namespace Go.Proofs.YtohfckkgmijlnaaGreatDoor
open Go.RowKit

/-- a row of bytes of the call's own -/
def OB (base : Nat) (w : World) (v : Value) (l : List UInt8) : Prop := w.ownsRow base 5 1 v l.length (l.map bv)
/-- what a call that hands back new bytes leaves -/
def NewB (w : World) (l : List UInt8) (e : Ending) (w' : World) : Prop := ∃ v : Value, e = .returned v ∧ OB w.heap.size w' v l ∧ Below w.heap.size w w'
theorem OB.rb {base : Nat} {w : World} {v : Value} {l : List UInt8} (h : OB base w v l) : RB (fun b => base ≤ b) w v l := SlA.of_owns h
theorem OB.ext {base : Nat} {w w' : World} {v : Value} {l : List UInt8} (h : OB base w v l) (hb : Below w.heap.size w w') : OB base w' v l := owns_ext h hb
theorem infoByte : (Tryz.prog.info? 5).map (fun i => (i.zero, i.size, i.bytes)) = some (some (.int .u8 0), 1, 1) := by kernel_rfl
theorem RB.shape {A : Nat → Prop} {w : World} {v : Value} {l : List UInt8} (h : RB A w v l) : ∃ a c, v = .slice a l.length c := SlA.shape h
theorem RB.ext {A : Nat → Prop} {w w' : World} {v : Value} {l : List UInt8} (h : RB A w v l) (hb : Below w.heap.size w w') : RB A w' v l := SlA.ext h hb
theorem RB.zero (A : Nat → Prop) (w : World) (a : Option Addr) : RB A w (.slice a 0 0) [] := SlA.zero A w 1 a
theorem RB.nil (A : Nat → Prop) (w : World) : RB A w (.slice none 0 0) [] := SlA.nil A w 1
theorem OB.nil (base : Nat) (w : World) : OB base w (.slice none 0 0) [] := World.ownsRow_nil _ _ _ _
theorem OB.base_le {base base' : Nat} {w : World} {v : Value} {l : List UInt8} (h : OB base w v l) (hb : base' ≤ base) : OB base' w v l := by
  refine ⟨h.1, h.2.imp id ?_⟩
  rintro ⟨g, cap, cur, h0, h1, h2⟩
  exact ⟨g, cap, cur, h0, Nat.le_trans hb h1, h2⟩
theorem OB.cast {base : Nat} {w : World} {v : Value} {n : Nat} {xs : List Value} {l : List UInt8} (h : w.ownsRow base 5 1 v n xs) (hn : n = l.length) (hx : xs = l.map bv) : OB base w v l := by
  subst hn hx; exact h

end Go.Proofs.YtohfckkgmijlnaaGreatDoor
namespace Go.Proofs.YtohfckkgmijlnaaGreatDoor
open Go.RowKit

structure OpD where
  kind : Int
  off : Int
  n : Int
  name : ByteArray
  data : List UInt8
structure TxD where
  obj : ByteArray
  ops : List OpD
structure RqD where
  client : Int
  life : Int
  seq : Int
  kind : Int
  image : Int
  who : Int
  n : Int
  txn : TxD
structure KyD where
  name : ByteArray
  value : List UInt8
structure ObD where
  data : List UInt8
  keys : List KyD
  seq : Int
structure RpD where
  client : Int
  life : Int
  seq : Int
  e : Int
  n : Int
  index : Int
  there : Bool
  obj : ObD
def TxD.none : TxD := ⟨ByteArray.empty, []⟩
def ObD.none : ObD := ⟨[], [], 0⟩
def RqD.none : RqD := ⟨0, 0, 0, 0, 0, 0, 0, TxD.none⟩
def RpD.none : RpD := ⟨0, 0, 0, 0, 0, 0, false, ObD.none⟩

theorem RB.mono {A : Nat → Prop} {w w' : World} {v : Value} {l : List UInt8} (h : RB A w v l) (hs : Same A w w') : RB A w' v l := SlA.mono h hs
theorem RB.weak {A A' : Nat → Prop} {w : World} {v : Value} {l : List UInt8} (h : RB A w v l) (hs : ∀ b, b < w.heap.size → A b → A' b) : RB A' w v l := SlA.weak (SlA.cut h) fun b hb => hs b hb.2 hb.1
theorem RB.one {A : Nat → Prop} {w : World} {v : Value} {l : List UInt8} (h : RB A w v l) : v.oneCell' = true := by
  obtain ⟨a, c, rfl⟩ := h.shape
  rfl
def Enc.op : Enc OpD where
  size := 5
  rd := fun A w cs x => ∃ v, cs = [.int .i64 x.kind, .int .i64 x.off, .int .i64 x.n, .string x.name, v] ∧ RB A w v x.data
  len := fun ⟨v, h, _⟩ => by rw [h]; rfl
  one := fun ⟨v, h, hv⟩ u hu => by
    rw [h] at hu
    simp at hu
    rcases hu with rfl | rfl | rfl | rfl | rfl
    all_goals first | rfl | exact hv.one
  mono := fun ⟨v, h, hv⟩ hs => ⟨v, h, hv.mono hs⟩
  weak := fun ⟨v, h, hv⟩ hs => ⟨v, h, hv.weak hs⟩
def Enc.key : Enc KyD where
  size := 2
  rd := fun A w cs x => ∃ v, cs = [.string x.name, v] ∧ RB A w v x.value
  len := fun ⟨v, h, _⟩ => by rw [h]; rfl
  one := fun ⟨v, h, hv⟩ u hu => by
    rw [h] at hu
    simp at hu
    rcases hu with rfl | rfl
    all_goals first | rfl | exact hv.one
  mono := fun ⟨v, h, hv⟩ hs => ⟨v, h, hv.mono hs⟩
  weak := fun ⟨v, h, hv⟩ hs => ⟨v, h, hv.weak hs⟩
abbrev Ops := SlE Enc.op
abbrev Keys := SlE Enc.key
theorem SlE.one {α : Type} {E : Enc α} {A : Nat → Prop} {w : World} {v : Value} {l : List α} (h : SlE E A w v l) : v.oneCell' = true := by
  obtain ⟨a, c, rfl⟩ := h.shape
  rfl
theorem SlE.ext {α : Type} {E : Enc α} {A : Nat → Prop} {w w' : World} {v : Value} {l : List α} (h : SlE E A w v l) (hb : Below w.heap.size w w') : SlE E A w' v l := h.mono (Same.of_ext hb)
/-- the cells of a row of data, flat -/
theorem SlE.flat {α : Type} {E : Enc α} {A : Nat → Prop} {w : World} {v : Value} {l : List α} (h : SlE E A w v l) :
    ∃ cs : List (List Value), cs.length = l.length ∧ (∀ (i : Nat) (x : α) (c : List Value), l[i]? = some x → cs[i]? = some c → E.rd A w c x) ∧ SlA A w E.size v l.length cs.flatten := by
  obtain ⟨cs, h1, h2, h3, h4⟩ := h.ex
  refine ⟨cs, h1, h2, h3, h4.imp (fun ⟨a, b⟩ => ⟨a, by rw [b]; rfl⟩) ?_⟩
  rintro ⟨b, off, cap, rfl, hc, hA, hl, hx⟩
  exact ⟨b, off, cap, rfl, hl, hA, hc, hx⟩
theorem SlE.of_flat {α : Type} {E : Enc α} {A : Nat → Prop} {w : World} {v : Value} {l : List α} {cs : List (List Value)} (h1 : cs.length = l.length)
    (h2 : ∀ (i : Nat) (x : α) (c : List Value), l[i]? = some x → cs[i]? = some c → E.rd A w c x) (h : SlA A w E.size v l.length cs.flatten) : SlE E A w v l := by
  obtain ⟨h3, h4⟩ := h
  refine ⟨cs, h1, h2, h3, h4.imp (fun ⟨a, b⟩ => ⟨a, List.length_eq_zero_iff.1 b⟩) ?_⟩
  rintro ⟨b, off, cap, rfl, hl, hA, hc, hx⟩
  exact ⟨b, off, cap, rfl, hc, hA, hl, hx⟩
theorem SlE.cut {α : Type} {E : Enc α} {A : Nat → Prop} {w : World} {v : Value} {l : List α} (h : SlE E A w v l) : SlE E (fun b => A b ∧ b < w.heap.size) w v l := h.weak fun _b hb hA => ⟨hA, hb⟩
theorem SlE.len_le {α : Type} {E : Enc α} {A : Nat → Prop} {w : World} {a : Option Addr} {n c : Nat} {l : List α} (h : SlE E A w (.slice a n c) l) : n = l.length ∧ n ≤ c := by
  obtain ⟨cs, h1, h2, h3, ⟨⟨a0, e⟩, rfl⟩ | ⟨b, off, cap, e, hc, _⟩⟩ := h.ex
  · simp only [Value.slice.injEq] at e
    obtain ⟨_, rfl, rfl⟩ := e
    simp
  · simp only [Value.slice.injEq] at e
    obtain ⟨_, rfl, rfl⟩ := e
    exact ⟨rfl, hc⟩
/-- an op's cells, at its place in a row -/
theorem Ops.at {A : Nat → Prop} {w : World} {a : Option Addr} {n c : Nat} {l : List OpD} (h : SlE Enc.op A w (.slice a n c) l) {i : Nat} (hi : i < l.length) :
    ∃ b off v, a = some ⟨b, off, none⟩ ∧ b < w.heap.size ∧ A b ∧ w.cell? ⟨b, off + i * 5, none⟩ = some (.int .i64 l[i].kind) ∧ w.cell? ⟨b, off + i * 5 + 1, none⟩ = some (.int .i64 l[i].off) ∧
      w.cell? ⟨b, off + i * 5 + 2, none⟩ = some (.int .i64 l[i].n) ∧ w.cell? ⟨b, off + i * 5 + 3, none⟩ = some (.string l[i].name) ∧ w.cell? ⟨b, off + i * 5 + 4, none⟩ = some v ∧ RB A w v l[i].data := by
  obtain ⟨b, off, cap, cs, e, hb, hA, ⟨v, rfl, hv⟩, hc⟩ := h.at (i := i) (x := l[i]) (by simp [hi])
  simp only [Value.slice.injEq] at e
  obtain ⟨rfl, _, _⟩ := e
  refine ⟨b, off, v, rfl, hb, hA, hc 0 (by decide), hc 1 (by decide), hc 2 (by decide), hc 3 (by decide), hc 4 (by decide), hv⟩
theorem Keys.at {A : Nat → Prop} {w : World} {a : Option Addr} {n c : Nat} {l : List KyD} (h : SlE Enc.key A w (.slice a n c) l) {i : Nat} (hi : i < l.length) :
    ∃ b off v, a = some ⟨b, off, none⟩ ∧ b < w.heap.size ∧ A b ∧ w.cell? ⟨b, off + i * 2, none⟩ = some (.string l[i].name) ∧ w.cell? ⟨b, off + i * 2 + 1, none⟩ = some v ∧ RB A w v l[i].value := by
  obtain ⟨b, off, cap, cs, e, hb, hA, ⟨v, rfl, hv⟩, hc⟩ := h.at (i := i) (x := l[i]) (by simp [hi])
  simp only [Value.slice.injEq] at e
  obtain ⟨rfl, _, _⟩ := e
  exact ⟨b, off, v, rfl, hb, hA, hc 0 (by decide), hc 1 (by decide), hv⟩
end Go.Proofs.YtohfckkgmijlnaaGreatDoor
namespace Go.Proofs.YtohfckkgmijlnaaGreatDoor
open Go.RowKit

theorem flat_get {s : Nat} : ∀ (m : List (List Value)) (i : Nat) (hi : i < m.length), (∀ c ∈ m, c.length = s) → ∀ j, j < s → m.flatten[i * s + j]? = m[i][j]? := by
  intro m
  induction m with
  | nil => intro i hi; simp at hi
  | cons c m ih =>
    intro i hi hall j hj
    have hc := hall c (by simp)
    cases i with
    | zero => simp [List.getElem?_append_left (by rw [hc]; exact hj)]
    | succ i =>
      have := ih i (by simpa using hi) (fun c hc => hall c (by simp [hc])) j hj
      rw [List.flatten_cons, List.getElem?_append_right (by rw [hc, Nat.add_mul]; omega), hc]
      rw [show (i + 1) * s + j - s = i * s + j by rw [Nat.add_mul]; omega]
      simpa using this
theorem flat_set {s : Nat} : ∀ (m : List (List Value)) (i : Nat) (hi : i < m.length), (∀ c ∈ m, c.length = s) → ∀ j, j < s → ∀ v, m.flatten.set (i * s + j) v = (m.set i (m[i].set j v)).flatten := by
  intro m
  induction m with
  | nil => intro i hi; simp at hi
  | cons c m ih =>
    intro i hi hall j hj v
    have hc := hall c (by simp)
    cases i with
    | zero => simp [List.set_append_left _ _ (by rw [hc]; exact hj)]
    | succ i =>
      have := ih i (by simpa using hi) (fun c hc => hall c (by simp [hc])) j hj v
      rw [List.flatten_cons, List.set_append_right _ _ (by rw [hc, Nat.add_mul]; omega), hc]
      rw [show (i + 1) * s + j - s = i * s + j by rw [Nat.add_mul]; omega]
      simpa using this

/-- data with a row of bytes in the last cell -/
structure Fb (α : Type) where
  E : Enc α
  front : α → List Value
  bytes : α → List UInt8
  rd : ∀ A w cs x, E.rd A w cs x ↔ ∃ v, cs = front x ++ [v] ∧ RB A w v (bytes x)
  len : ∀ x, (front x).length + 1 = E.size
def Fb.op : Fb OpD where
  E := Enc.op
  front := fun x => [.int .i64 x.kind, .int .i64 x.off, .int .i64 x.n, .string x.name]
  bytes := fun x => x.data
  rd := fun _ _ _ _ => Iff.rfl
  len := fun _ => rfl
def Fb.key : Fb KyD where
  E := Enc.key
  front := fun x => [.string x.name]
  bytes := fun x => x.value
  rd := fun _ _ _ _ => Iff.rfl
  len := fun _ => rfl
/-- the cells of a row of such data: the bytes of the element i lie in the blocks of X i -/
structure CI {α : Type} (F : Fb α) (X : Nat → Nat → Prop) (w : World) (cs : List (List Value)) (l : List α) : Prop where
  len : cs.length = l.length
  at_ : ∀ (i : Nat) (x : α) (c : List Value), l[i]? = some x → cs[i]? = some c → ∃ v, c = F.front x ++ [v] ∧ RB (X i) w v (F.bytes x)
namespace CI
variable {α : Type} {F : Fb α} {X Y : Nat → Nat → Prop} {w w' : World} {cs : List (List Value)} {l : List α}
theorem same (h : CI F X w cs l) (hs : ∀ i, Same (X i) w w') : CI F X w' cs l :=
  ⟨h.len, fun i x c hx hc => by obtain ⟨v, e, hv⟩ := h.at_ i x c hx hc; exact ⟨v, e, hv.mono (hs i)⟩⟩
theorem weak (h : CI F X w cs l) (hs : ∀ i b, i < l.length → b < w.heap.size → X i b → Y i b) : CI F Y w cs l :=
  ⟨h.len, fun i x c hx hc => by obtain ⟨v, e, hv⟩ := h.at_ i x c hx hc; exact ⟨v, e, hv.weak fun b hb => hs i b (List.getElem?_eq_some_iff.1 hx).1 hb⟩⟩
theorem lens (h : CI F X w cs l) : ∀ c ∈ cs, c.length = F.E.size := by
  intro c hc
  obtain ⟨k, hk, rfl⟩ := List.getElem_of_mem hc
  obtain ⟨v, e, _⟩ := h.at_ k (l[k]'(h.len ▸ hk)) cs[k] (by simp [h.len ▸ hk]) (by simp [hk])
  rw [e, ← F.len (l[k]'(h.len ▸ hk))]
  simp
theorem flat_len (h : CI F X w cs l) : cs.flatten.length = l.length * F.E.size := by
  have : ∀ (m : List (List Value)), (∀ c ∈ m, c.length = F.E.size) → m.flatten.length = m.length * F.E.size := by
    intro m
    induction m with
    | nil => intro _; simp
    | cons c m ih =>
      intro hm
      rw [List.flatten_cons, List.length_append, ih (fun c hc => hm c (by simp [hc])), hm c (by simp), List.length_cons, Nat.add_mul]
      omega
  rw [this cs h.lens, h.len]
/-- the last cell of the element i -/
theorem last (h : CI F X w cs l) {i : Nat} (hi : i < l.length) : ∃ v, cs.flatten[i * F.E.size + (F.E.size - 1)]? = some v ∧ RB (X i) w v (F.bytes l[i]) := by
  have hi' : i < cs.length := h.len ▸ hi
  obtain ⟨v, e, hv⟩ := h.at_ i l[i] cs[i] (by simp [hi]) (by simp [hi'])
  refine ⟨v, ?_, hv⟩
  have hl := F.len l[i]
  rw [flat_get cs i hi' h.lens _ (by omega), e, ← hl]
  simp
/-- other bytes in the element i -/
theorem put (h : CI F X w cs l) {i : Nat} (hi : i < l.length) {v : Value} (hv : RB (Y i) w v (F.bytes l[i])) (hY : ∀ j, j ≠ i → j < l.length → ∀ b, X j b → Y j b) :
    ∃ cs', cs'.flatten = cs.flatten.set (i * F.E.size + (F.E.size - 1)) v ∧ CI F Y w cs' l := by
  have hi' : i < cs.length := h.len ▸ hi
  have hl := F.len l[i]
  refine ⟨cs.set i (cs[i].set (F.E.size - 1) v), (flat_set cs i hi' h.lens _ (by omega) v).symm, by simpa using h.len, fun j x c hx hc => ?_⟩
  by_cases hj : j = i
  · subst hj
    obtain ⟨u, e, _⟩ := h.at_ j l[j] cs[j] (by simp [hi]) (by simp [hi'])
    obtain rfl : l[j] = x := by simpa [hi] using hx
    obtain rfl : cs[j].set (F.E.size - 1) v = c := by simpa [hi'] using hc
    refine ⟨v, ?_, hv⟩
    rw [e, ← hl]
    simp
  · have hc' : cs[j]? = some c := by rwa [List.getElem?_set_ne (fun e => hj e.symm)] at hc
    obtain ⟨u, e, hu⟩ := h.at_ j x c hx hc'
    exact ⟨u, e, hu.weak fun b _ => hY j hj (List.getElem?_eq_some_iff.1 hx).1 b⟩
/-- read whole again -/
theorem whole {A : Nat → Prop} {v : Value} (h : CI F X w cs l) (hX : ∀ i b, i < l.length → b < w.heap.size → X i b → A b) (hs : SlA A w F.E.size v l.length cs.flatten) : SlE F.E A w v l :=
  SlE.of_flat h.len (fun i x c hx hc => (F.rd _ _ _ _).2 (by
    obtain ⟨u, e, hu⟩ := h.at_ i x c hx hc
    exact ⟨u, e, hu.weak fun b hb => hX i b (List.getElem?_eq_some_iff.1 hx).1 hb⟩)) hs
theorem one (h : CI F X w cs l) : ∀ u ∈ cs.flatten, u.oneCell' = true := by
  intro u hu
  obtain ⟨c, hc, hu⟩ := List.mem_flatten.1 hu
  obtain ⟨k, hk, rfl⟩ := List.getElem_of_mem hc
  obtain ⟨v, e, hv⟩ := h.at_ k (l[k]'(h.len ▸ hk)) cs[k] (by simp [h.len ▸ hk]) (by simp [hk])
  exact F.E.one ((F.rd (X k) w _ _).2 ⟨v, e, hv⟩) u hu
end CI
theorem SlE.cells {α : Type} {F : Fb α} {A : Nat → Prop} {w : World} {v : Value} {l : List α} (h : SlE F.E A w v l) : ∃ cs, CI F (fun _ => A) w cs l ∧ SlA A w F.E.size v l.length cs.flatten := by
  obtain ⟨cs, h1, h2, h3⟩ := h.flat
  exact ⟨cs, ⟨h1, fun i x c hx hc => (F.rd _ _ _ _).1 (h2 i x c hx hc)⟩, h3⟩
theorem owns_set {w : World} {base size g cap n : Nat} {e : TypeId} {xs : List Value} (h : w.ownsRow base e size (.slice (some ⟨g, 0, none⟩) n cap) n xs) (j : Nat) (u : Value) :
    (w.setCell ⟨g, j, none⟩ u).ownsRow base e size (.slice (some ⟨g, 0, none⟩) n cap) n (xs.set j u) := (h.stored j u).1
end Go.Proofs.YtohfckkgmijlnaaGreatDoor
namespace Go.Proofs.YtohfckkgmijlnaaGreatDoor
open Go.RowKit

set_option maxRecDepth 100000 in
set_option maxHeartbeats 800000 in
theorem bclone_any (A : Nat → Prop) (v : Value) (l : List UInt8) (w : World) (hl : l.length ≤ 1000000) (hv : RB A w v l) :
    Calls Tryz.prog 39 #[v] w (NewB w l) := by
  obtain ⟨a, cap, rfl⟩ := hv.shape
  rcases a with _ | p
  · obtain ⟨-, h0, rfl⟩ := SlA.none_ hv
    obtain rfl : l = [] := List.eq_nil_of_length_eq_zero h0
    have he := fun w : World => Go.Lib.run_eql_slice_nil (P := Tryz.prog) w 38 5 none 0 0 0 0 Tryz.underlying38
    go_enter Tryz.func39, Tryz.ntmps39
    go_wp2
    go_ret
    exact ⟨_, rfl, OB.nil _ _, Below.refl _ _⟩
  · have hcap := (SlA.src hv).2.1
    have HV := Lib.hid hv
    clear hv
    obtain ⟨i0, hi, hz0, hz1, hz2⟩ := info_parts infoByte
    have he := fun w : World => Go.Lib.run_eql_slice_nil (P := Tryz.prog) w 38 5 (some p) l.length cap 0 0 Tryz.underlying38
    go_enter Tryz.func39, Tryz.ntmps39
    go_wp2_with (first | (at_builtin; refine wpList_append_sl rfl _ _ 38 rfl w.heap.size 5 i0 (.int .u8 0) 1 1 Tryz.underlying38 hi hz0 hz1 hz2 rfl (by decide) _ 0 [] rfl (World.ownsRow_made w #[] 0 (Nat.le_refl _) (by decide) rfl) A (.slice (some p) l.length cap) l.length (l.map bv) rfl ?c1 (one_bytes l) ?c2 ?c3 ?c4 ?_) | go_in)
    case c1 => exact SlA.ext HV.out ((Below.refl _ _).alloc (Nat.le_refl _) _)
    case c2 => unfold maxLen; omega
    case c3 => omega
    case c4 => simp
    intro v1 w1 ho hg
    go_wp2
    go_ret
    refine ⟨v1, rfl, OB.cast ho (by simp) (by simp), ((Below.refl _ w).alloc (Nat.le_refl _) _).grown hg (by simp) fun j hj => ?_⟩
    simp [Value.ownBlock] at hj
    omega

/-- what a call that hands back a new row leaves -/
def NewR (e : TypeId) (size : Nat) (w : World) (n : Nat) (xs : List Value) (r : Ending) (w' : World) : Prop := ∃ v : Value, r = .returned v ∧ w'.ownsRow w.heap.size e size v n xs ∧ Below w.heap.size w w'
theorem infoKey : (Tryz.prog.info? 62).map (fun i => (i.zero, i.size, i.bytes)) = some (some (.agg #[.string ByteArray.empty, .slice none 0 0]), 2, 40) := by kernel_rfl
theorem infoOp : (Tryz.prog.info? 57).map (fun i => (i.zero, i.size, i.bytes)) = some (some (.agg #[.int .i64 0, .int .i64 0, .int .i64 0, .string ByteArray.empty, .slice none 0 0]), 5, 64) := by kernel_rfl
set_option maxRecDepth 100000 in
set_option maxHeartbeats 800000 in
theorem kclone_any (A : Nat → Prop) (v : Value) (n : Nat) (xs : List Value) (w : World) (hl : n ≤ 10000) (hv : SlA A w 2 v n xs) (h1 : ∀ u ∈ xs, u.oneCell' = true) :
    Calls Tryz.prog 40 #[v] w (NewR 62 2 w n xs) := by
  obtain ⟨i0, hi, hz0, hz1, hz2⟩ := info_parts infoKey
  have HV := Lib.hid hv
  obtain ⟨a, cap, rfl⟩ := SlA.shape hv
  rcases a with _ | p
  · obtain ⟨-, rfl, rfl⟩ := SlA.none_ hv
    obtain rfl : xs = [] := List.eq_nil_of_length_eq_zero (by simpa using hv.1)
    have he := fun w : World => Go.Lib.run_eql_slice_nil (P := Tryz.prog) w 39 62 none 0 0 0 0 Tryz.underlying39
    clear hv
    go_enter Tryz.func40, Tryz.ntmps40
    go_wp2
    go_ret
    exact ⟨_, rfl, World.ownsRow_nil _ _ _ _, Below.refl _ _⟩
  · have hcap := (SlA.src hv).2.1
    clear hv
    have he := fun w : World => Go.Lib.run_eql_slice_nil (P := Tryz.prog) w 39 62 (some p) n cap 0 0 Tryz.underlying39
    go_enter Tryz.func40, Tryz.ntmps40
    go_wp2_with (first | (at_builtin; refine wpList_append_sl rfl _ _ 39 rfl w.heap.size 62 i0 _ 2 40 Tryz.underlying39 hi hz0 hz1 hz2 rfl (by decide) _ 0 [] rfl (World.ownsRow_made w #[] 0 (Nat.le_refl _) (by decide) rfl) A (.slice (some p) n cap) n xs rfl ?c1 h1 ?c2 ?c3 ?c4 ?_) | go_in)
    case c1 => exact SlA.ext HV.out ((Below.refl _ _).alloc (Nat.le_refl _) _)
    case c2 => unfold maxLen; omega
    case c3 => omega
    case c4 => simp
    intro v1 w1 ho hg
    go_wp2
    go_ret
    refine ⟨v1, rfl, by simpa using ho, ((Below.refl _ w).alloc (Nat.le_refl _) _).grown hg (by simp) fun j hj => ?_⟩
    simp [Value.ownBlock] at hj
    omega
end Go.Proofs.YtohfckkgmijlnaaGreatDoor
