/- The walk of object.Do. What the references of layer 8 compute, plainly: it is what object's functions compute. No program is named. The walks of terrazzoref08.Name, May, Get, At: what the reference asks and reads. -/
import Derived.Test.YtfeonfihlleoeaaDoorGAI
import Derived.Test.YtfeonfihlleoeaaDoorGAC
import Derived.Test.YtfeonfihlleoeaaDoorGAH
import Derived.Test.YtfeonfihlleoeaaDoorGAG
namespace Go.Proofs.YtfeonfihlleoeaaDoor
open Go.RowKit Go.WideShapes

theorem dcall {w W W' : World} (h : Below w.heap.size w W) (hb : Below W.heap.size W W') : Below w.heap.size w W' := h.trans (hb.mono h.size)
theorem dblk {W W' : World} {k : Nat} {o : Obj} (hb : Below W.heap.size W W') (h : W.heap[k]? = some o) : W'.heap[k]? = some o := (hb.block k (Array.getElem?_eq_some_iff.1 h).1).trans h
theorem dnew {W : World} {k : Nat} {o : Obj} (h : W.heap[k]? = some o) (o' : Obj) : (W.alloc o').heap[k]? = some o := (Below.heap_alloc _ _ _ (Array.getElem?_eq_some_iff.1 h).1).trans h
theorem dset3 {w w3 : World} {p : Nat} {x y z : Value} (h : w3 = ((w.setCell ⟨p, 0, none⟩ x).setCell ⟨p, 1, none⟩ y).setCell ⟨p, 2, none⟩ z) {g : Nat} (hne : g ≠ p) {o : Obj} (hg : w.heap[g]? = some o) : w3.heap[g]? = some o := by
  rw [h]; exact (set3_ne _ _ _ _ _ hne).trans hg
theorem dset1 {w w3 : World} {p j : Nat} {x : Value} (h : w3 = w.setCell ⟨p, j, none⟩ x) {g : Nat} (hne : g ≠ p) {o : Obj} (hg : w.heap[g]? = some o) : w3.heap[g]? = some o := by
  rw [h]; exact (Below.heap_setCell _ _ _ _ hne).trans hg
theorem results_cell3 {P : Program} {fn : Func} {p u1 u2 u3 : Tmp} {ty : TypeId} (h : fn.results = #[.cell p ty, .tmp u1, .tmp u2, .tmp u3]) (tmps : Array Value) (w : World) (g : Nat) (t : TypeId) (cs : Array Value) (fr : Nat × Nat) (d : TypeDesc)
    (hp : tmps.getD p undef = .pointer (some ⟨g, 0, none⟩)) (hg : w.heap[g]? = some (.cells cs t fr))
    (hu : P.underlying ty = some d) (hd : (match d with | .struct _ | .array _ _ => true | _ => false) = true) (hi : (P.info? ty).map (·.size) = some cs.size) :
    (results fn tmps).run P w = .ok (.tuple #[.agg cs, tmps.getD u1 undef, tmps.getD u2 undef, tmps.getD u3 undef]) w := by
  have hp' : tmps[p]?.getD undef = .pointer (some ⟨g, 0, none⟩) := by simpa using hp
  simp [results, h, hp', asAddr, run_loadVar_row w g t ty cs fr d hg hu hd hi]
theorem obv_none (A : Nat → Prop) (w : World) : ObV A w (.agg #[.slice none 0 0, .slice none 0 0, .int .i64 0]) ObD.none := ⟨_, _, rfl, RB.nil _ _, SlE.nil _ _ _⟩
/-- what object.Do leaves -/
def DoOut (x : DoR) (w : World) (e : Ending) (w' : World) : Prop := ∃ dv kv, e = .returned (.tuple #[.agg #[dv, kv, .int .i64 x.o.seq], .bool x.there, .bool x.on, .int .i64 x.e]) ∧ Own8 w.heap.size w' dv kv x.o ∧ Below w.heap.size w w'
theorem DoOut.no {c : Int} {x : DoR} {w w' : World} (hx : x = DoR.no c) (hb : Below w.heap.size w w') : DoOut x w (.returned (.tuple #[.agg #[.slice none 0 0, .slice none 0 0, .int .i64 0], .bool false, .bool false, .int .i64 c])) w' := by
  subst hx
  exact ⟨_, _, rfl, Own8.none _ _, hb⟩
theorem DoOut.ok {x : DoR} {dv kv : Value} {o : ObD} {b : Bool} {th : Bool} {w w' : World} (hx : x = ⟨o, th, b, 0⟩) (hv : Own8 w.heap.size w' dv kv o) (hb : Below w.heap.size w w') : DoOut x w (.returned (.tuple #[.agg #[dv, kv, .int .i64 o.seq], .bool th, .bool b, .int .i64 0])) w' := by
  subst hx
  exact ⟨_, _, rfl, hv, hb⟩
theorem below3 {B p : Nat} {w w' : World} (h : Below B w w') (hp : B ≤ p) (x y z : Value) : Below B w (((w'.setCell ⟨p, 0, none⟩ x).setCell ⟨p, 1, none⟩ y).setCell ⟨p, 2, none⟩ z) :=
  ((h.setCell (show B ≤ (⟨p, 0, none⟩ : Addr).block from hp) x).setCell (show B ≤ (⟨p, 1, none⟩ : Addr).block from hp) y).setCell (show B ≤ (⟨p, 2, none⟩ : Addr).block from hp) z
theorem ObV.weak {A A' : Nat → Prop} {w : World} {v : Value} {o : ObD} (h : ObV A w v o) (hs : ∀ b, b < w.heap.size → A b → A' b) : ObV A' w v o := by
  obtain ⟨dv, kv, rfl, hd, hk⟩ := h
  exact ⟨dv, kv, rfl, hd.weak hs, hk.weak hs⟩
theorem Own8.base_le {base base' : Nat} {w : World} {dv kv : Value} {o : ObD} (h : Own8 base w dv kv o) (hb : base' ≤ base) : Own8 base' w dv kv o := by
  obtain ⟨hd, cs, hk, hc⟩ := h
  refine ⟨hd.base_le hb, cs, ⟨hk.1, hk.2.imp id ?_⟩, hc.weak fun i b _ _ h => ⟨Nat.le_trans hb h.1, h.2⟩⟩
  rintro ⟨g, cap, cur, h0, h1, h2⟩
  exact ⟨g, cap, cur, h0, Nat.le_trans hb h1, h2⟩
theorem do_end {lo base pb r : Nat} {w : World} {dv kv : Value} {o : ObD} (hI : IsO base pb w dv kv o) (hle : lo ≤ base) (hr : r < base) (x y z : Value) :
    Own8 lo (((w.setCell ⟨r, 0, none⟩ x).setCell ⟨r, 1, none⟩ y).setCell ⟨r, 2, none⟩ z) dv kv o :=
  (hI.own.keep ⟨by simp [World.setCell], fun b hb _ => set3_ne _ _ _ _ _ (by omega)⟩).base_le hle
theorem doB_bad {o : ObD} {th : Bool} {op : OpD} (h : mayB o = false ∨ ¬ 1 ≤ op.kind ∨ ¬ op.kind ≤ 14) : doB o th op = DoR.no 1 := by
  unfold doB
  have : (mayB o && decide (1 ≤ op.kind) && decide (op.kind ≤ 14)) = false := by
    rcases h with h | h | h <;> simp [h]
  rw [this]
  rfl
theorem mayB_none : mayB ObD.none = true := by decide
theorem mayB_of {o : ObD} {th : Bool} (h : mayB o = true) : mayB (if th then o else ObD.none) = true := by
  cases th
  · exact mayB_none
  · exact h
/-- what is done to an object that may be, by an op of a kind -/
def doG (o1 : ObD) (th : Bool) (op : OpD) : DoR := if (guardB o1 th op).1 = 0 then (match changeB o1 op with
      | none => DoR.no 2
      | some o2 => ⟨if thereB th op.kind then o2 else ObD.none, thereB th op.kind, (guardB o1 th op).2, 0⟩) else DoR.no (guardB o1 th op).1
theorem doB_good {o : ObD} {th : Bool} {op : OpD} (hm : mayB o = true) (h1 : 1 ≤ op.kind) (h2 : op.kind ≤ 14) : doB o th op = doG (if th then o else ObD.none) th op := by
  unfold doB doG
  simp [hm, h1, h2]
  rfl
theorem doG_g {o1 : ObD} {th : Bool} {op : OpD} (h : (guardB o1 th op).1 ≠ 0) : doG o1 th op = DoR.no (guardB o1 th op).1 := by unfold doG; rw [if_neg h]
theorem doG_n {o1 : ObD} {th : Bool} {op : OpD} (h : (guardB o1 th op).1 = 0) (hc : changeB o1 op = none) : doG o1 th op = DoR.no 2 := by unfold doG; rw [if_pos h, hc]
theorem doG_s {o1 o2 : ObD} {th : Bool} {op : OpD} (h : (guardB o1 th op).1 = 0) (hc : changeB o1 op = some o2) : doG o1 th op = ⟨if thereB th op.kind then o2 else ObD.none, thereB th op.kind, (guardB o1 th op).2, 0⟩ := by unfold doG; rw [if_pos h, hc]
theorem okl_of {o : ObD} (h : mayB o = true) : o.okl := by
  obtain ⟨h1, h2, -, -, hf⟩ := (mayB_iff o).1 h
  exact ⟨by omega, by omega, fun k hk => by
    obtain ⟨i, hi, rfl⟩ := List.getElem_of_mem hk
    have := (hf.key i _ (List.getElem?_eq_getElem hi)).2
    omega⟩
theorem own8_shape {base : Nat} {w : World} {dv kv : Value} {o : ObD} (h : Own8 base w dv kv o) : (∃ a c, dv = .slice a o.data.length c) ∧ ∃ a c, kv = .slice a o.keys.length c := by
  refine ⟨h.data.rb.shape, ?_⟩
  obtain ⟨cs, h1, -⟩ := h.ex
  exact owns_shape h1
end Go.Proofs.YtfeonfihlleoeaaDoor
namespace Go.Proofs.YtfeonfihlleoeaaDoor
open Go.RowKit

def nmI (x : Int) : Bool := decide (x = 46) || (decide (97 ≤ x) && decide (x ≤ 122)) || (decide (48 ≤ x) && decide (x ≤ 57))
theorem signs_nmI (c : UInt8) : nameSigns.contains c = nmI c.toNat := by
  have h : ∀ n : Fin 256, nameSigns.contains (UInt8.ofNat n.1) = nmI (n.1 : Int) := by decide +kernel
  have := h ⟨c.toNat, c.toNat_lt⟩
  simpa using this
theorem dw_nil {α : Type} (p : α → Bool) : ∀ l : List α, l.dropWhile p = [] ↔ ∀ x ∈ l, p x = true
  | [] => by simp
  | a :: l => by
    rw [List.dropWhile_cons]
    cases h : p a with
    | true => simp [h, dw_nil p l]
    | false => simp [h]
theorem trimS_nil (l cs : List UInt8) : Lib.trimS l cs = [] ↔ ∀ x ∈ l, cs.contains x = true := by
  unfold Lib.trimS Lib.trimLeftS Lib.trimRightS
  rw [dw_nil]
  constructor
  · intro h
    have h0 : l.reverse.dropWhile (cs.contains ·) = [] := by
      cases he : l.reverse.dropWhile (cs.contains ·) with
      | nil => rfl
      | cons a t =>
        have h1 := h a (by rw [he]; simp)
        have h2 := tw_stop (cs.contains ·) l.reverse a (by
          have := List.takeWhile_append_dropWhile (p := (cs.contains ·)) (l := l.reverse)
          rw [he] at this
          conv => lhs; arg 1; rw [← this]
          simp)
        rw [h2] at h1
        cases h1
    rw [dw_nil] at h0
    exact fun x hx => h0 x (by simpa using hx)
  · intro h x hx
    have := (List.dropWhile_sublist (cs.contains ·) (l := l.reverse)).subset (List.mem_reverse.1 hx)
    exact h x (by simpa using this)
def nmTo (s : ByteArray) (k : Nat) : Bool := (s.data.toList.take k).all fun c => nmI c.toNat
theorem nmTo_succ (s : ByteArray) (k : Nat) (h : k < s.size) : nmTo s (k + 1) = (nmTo s k && nmI s[k].toNat) := by
  unfold nmTo
  have e : s.data.toList.take (k + 1) = s.data.toList.take k ++ [s[k]] := by
    rw [List.take_succ_eq_append_getElem (by simpa using h)]; rfl
  rw [e, List.all_append]
  simp
theorem nameB_to (s : ByteArray) : nameB s = (decide (1 ≤ s.size) && decide (s.size ≤ 12) && nmTo s s.size) := by
  unfold nameB
  congr 1
  rw [Bool.eq_iff_iff, decide_eq_true_eq, trimS_nil]
  unfold nmTo
  rw [List.take_of_length_le (by show s.data.toList.length ≤ s.data.size; simp), List.all_eq_true]
  constructor
  · intro h x hx
    rw [← signs_nmI]
    exact h x hx
  · intro h x hx
    rw [signs_nmI]
    exact h x hx
theorem nmTo_no {s : ByteArray} {k : Nat} (hk : k < s.size) (h : nmI s[k].toNat = false) : nameB s = false := by
  have h1 : nmTo s (k + 1) = false := by rw [nmTo_succ s k hk, h, Bool.and_false]
  have h2 : nmTo s s.size = false := by
    unfold nmTo at h1 ⊢
    rw [List.all_eq_false] at h1 ⊢
    obtain ⟨x, hx, h3⟩ := h1
    exact ⟨x, by rw [List.take_of_length_le (by show s.data.toList.length ≤ s.data.size; simp)]; exact List.mem_of_mem_take hx, h3⟩
  rw [nameB_to, h2, Bool.and_false]

/-! put, key by key -/
def putStep (nm : ByteArray) (v : List UInt8) (s : List KyD × Bool) (k : KyD) : List KyD × Bool :=
  let t := if !ltS k.name nm && !s.2 then (s.1 ++ [⟨nm, v⟩], true) else s
  if decide (k.name = nm) then t else (t.1 ++ [k], t.2)
def putTo (nm : ByteArray) (v : List UInt8) (ks : List KyD) (k : Nat) : List KyD × Bool := (ks.take k).foldl (putStep nm v) ([], false)
theorem putTo_succ {nm : ByteArray} {v : List UInt8} {ks : List KyD} {k : Nat} (h : k < ks.length) : putTo nm v ks (k + 1) = putStep nm v (putTo nm v ks k) ks[k] := by
  unfold putTo
  rw [List.take_succ_eq_append_getElem h, List.foldl_append]
  rfl
theorem put_done (nm : ByteArray) (v : List UInt8) : ∀ (ks : List KyD) (o : List KyD), ks.foldl (putStep nm v) (o, true) = (o ++ ks.filter fun k => !decide (k.name = nm), true)
  | [], o => by simp
  | k :: ks, o => by
    rw [List.foldl_cons]
    by_cases h : k.name = nm
    · have : putStep nm v (o, true) k = (o, true) := by simp [putStep, h]
      rw [this, put_done nm v ks o]
      simp [h]
    · have : putStep nm v (o, true) k = (o ++ [k], true) := by simp [putStep, h]
      rw [this, put_done nm v ks]
      simp [h]
theorem put_all (nm : ByteArray) (v : List UInt8) : ∀ (ks : List KyD) (o : List KyD), (let s := ks.foldl (putStep nm v) (o, false); if s.2 then s.1 else s.1 ++ [⟨nm, v⟩]) = o ++ putK ks nm v
  | [], o => by simp [putK]
  | k :: ks, o => by
    rw [List.foldl_cons]
    cases hl : ltS k.name nm with
    | true =>
      have hn : ¬ k.name = nm := fun e => by rw [e, ltS_irrefl] at hl; cases hl
      have : putStep nm v (o, false) k = (o ++ [k], false) := by simp [putStep, hn, hl]
      rw [this, put_all nm v ks]
      simp [putK, hl]
    | false =>
      by_cases h : k.name = nm
      · have : putStep nm v (o, false) k = (o ++ [⟨nm, v⟩], true) := by simp [putStep, h, ltS_irrefl]
        rw [this, put_done]
        simp [putK, h, ltS_irrefl]
      · have : putStep nm v (o, false) k = (o ++ [⟨nm, v⟩] ++ [k], true) := by simp [putStep, h, hl]
        rw [this, put_done]
        simp [putK, hl, h]
theorem putTo_end {nm : ByteArray} {v : List UInt8} {ks : List KyD} : putK ks nm v = if (putTo nm v ks ks.length).2 then (putTo nm v ks ks.length).1 else (putTo nm v ks ks.length).1 ++ [⟨nm, v⟩] := by
  have := put_all nm v ks []
  unfold putTo
  rw [List.take_length]
  simpa using this.symm
def dropTo (nm : ByteArray) (ks : List KyD) (k : Nat) : List KyD := (ks.take k).filter fun k => !decide (k.name = nm)
theorem dropTo_succ {nm : ByteArray} {ks : List KyD} {k : Nat} (h : k < ks.length) : dropTo nm ks (k + 1) = if decide ((ks[k]).name = nm) then dropTo nm ks k else dropTo nm ks k ++ [ks[k]] := by
  unfold dropTo
  rw [List.take_succ_eq_append_getElem h, List.filter_append]
  by_cases e : (ks[k]).name = nm <;> simp [e]
theorem dropTo_end (nm : ByteArray) (ks : List KyD) : dropTo nm ks ks.length = dropK ks nm := by
  unfold dropTo dropK
  rw [List.take_length]
end Go.Proofs.YtfeonfihlleoeaaDoor
namespace Go.Proofs.YtfeonfihlleoeaaDoor
open Go.RowKit Go.WideShapes

set_option maxRecDepth 100000 in
set_option maxHeartbeats 1600000 in
theorem rname_any (s : ByteArray) (w : World) : Calls Tryd.prog 59 #[.string s] w fun e w' => e = .returned (.bool (nameB s)) ∧ w = w' := by
  by_cases h1 : 1 ≤ s.size
  · by_cases h2 : s.size ≤ 12
    · have h1' : ¬ (s.size : Int) < 1 := by omega
      have h2' : ¬ (12 : Int) < s.size := by omega
      have HN : Hid (nmTo s s.size = true → nameB s = true) := by show _ → _; intro h; rw [nameB_to, h]; simp [h1, h2]
      go_enter Tryd.func59, Tryd.ntmps59
      go_wp2
      go_loop [3] (fun i => ∃ k : Nat, k ≤ s.size ∧ i = .int .i64 k ∧ nmTo s k = true) (fun i => s.size - (intOf i).toNat)
      case atStart => exact ⟨0, Nat.zero_le _, rfl, rfl⟩
      case round =>
        obtain ⟨k, hk, rfl, hto⟩ := hrel
        have HTO := Lib.hid hto
        clear hto
        by_cases hlt : k < s.size
        · have HS : Hid (nmI s[k].toNat = true → nmTo s (k + 1) = true) := by show _ → _; intro h; rw [nmTo_succ s k hlt, HTO.out, h]; rfl
          have HF : Hid (nmI s[k].toNat = false → nameB s = false) := by show _ → _; exact nmTo_no hlt
          go_wp2
          all_goals
            first
              | (go_round
                 case rel => exact ⟨k + 1, by omega, by go_num, HS.out (by (try simp only [bne_eq_false_iff_eq] at *); simp [nmI]; omega)⟩
                 case measure => simp [intOf]; omega)
              | (go_ret
                 exact ⟨ret_bool (HF.out (by (try simp only [bne_eq_false_iff_eq] at *); simp [nmI]; omega)).symm, rfl⟩)
        · obtain rfl : k = s.size := by omega
          go_wp2
          go_ret
          exact ⟨ret_bool (HN.out HTO.out).symm, rfl⟩
    · have h1' : ¬ (s.size : Int) < 1 := by omega
      have h2' : (12 : Int) < s.size := by omega
      have HN : Hid (nameB s = false) := by show nameB s = _; simp [nameB, h2]
      go_enter Tryd.func59, Tryd.ntmps59
      go_wp2
      go_ret
      exact ⟨ret_bool HN.out.symm, rfl⟩
  · have h1' : (s.size : Int) < 1 := by omega
    have HN : Hid (nameB s = false) := by show nameB s = _; simp [nameB, h1]
    go_enter Tryd.func59, Tryd.ntmps59
    go_wp2
    go_ret
    exact ⟨ret_bool HN.out.symm, rfl⟩
/-- what a call that finds a row of bytes answers: the row lies anywhere -/
def GetRR (A : Nat → Prop) (x : Option (List UInt8)) (w : World) (e : Ending) (w' : World) : Prop := ∃ a n c, e = .returned (.tuple #[.slice a n c, .bool x.isSome]) ∧ RB (UpA A w) w' (.slice a n c) (x.getD []) ∧ n = (x.getD []).length ∧ Below w.heap.size w w'
set_option maxRecDepth 100000 in
set_option maxHeartbeats 1600000 in
theorem rget_any (A : Nat → Prop) (v : Value) (o : ObD) (nm : ByteArray) (w : World) (hv : ObV A w v o) (hl : o.keys.length ≤ 100000) :
    Calls Tryd.prog 82 #[v, .string nm] w (GetRR A (getD o.keys nm) w) := by
  obtain ⟨dv, kv, rfl, hd, hk⟩ := hv
  obtain ⟨da, dc, rfl⟩ := hd.shape
  obtain ⟨ka, kc, rfl⟩ := hk.shape
  obtain ⟨od, ks, os⟩ := o
  simp only at *
  have HK := Lib.hid hk
  clear hd hk
  go_enter Tryd.func82, Tryd.ntmps82
  go_wp2
  obtain ⟨w0, hw0⟩ : ∃ w0, w0 = w.alloc (.cells #[.slice da od.length dc, .slice ka ks.length kc, .int .i64 os] 39) := ⟨_, rfl⟩
  rw [← hw0]
  have B0 : w0.heap[w.heap.size]? = some (.cells #[.slice da od.length dc, .slice ka ks.length kc, .int .i64 os] 39 (0, 0)) := by rw [hw0]; exact heap_alloc_new _ _
  have hw : Below w.heap.size w w0 := by rw [hw0]; ((repeat' (first | exact Below.refl _ _ | refine below_drewN ?_ _ | refine Below.drew ?_ | refine Below.alloc ?_ ?_ _ | refine Below.trans ?_ (Below.mono (by assumption) ?_))); all_goals (first | exact Nat.le_refl _ | exact Below.size (by assumption) | omega | (simp; done) | (simp; omega)))
  have HK0 := Lib.hid (HK.out.ext hw)
  have HW := Lib.hid hw
  obtain ⟨x1, f1⟩ := blk_cell (i := 1) B0
  simp at x1
  clear hw0 hw B0
  go_loop [6] (fun i => ∃ k : Nat, k ≤ ks.length ∧ i = .int .i64 k ∧ k ≤ ixN (fun k => decide (k.name = nm)) ks) (fun i => ks.length - (intOf i).toNat)
  case atStart => exact ⟨0, Nat.zero_le _, rfl, Nat.zero_le _⟩
  case round =>
    obtain ⟨k, hk, rfl, hix⟩ := hrel
    have HIX := Lib.hid hix
    clear hix
    by_cases hlt : k < ks.length
    · obtain ⟨b, off, v, rfl, hb, -, c3, c4, hv⟩ := Keys.at HK0.out hlt
      obtain ⟨va, vc, rfl⟩ := hv.shape
      have HV : Hid (RB (UpA A w) w0 (.slice va (ks[k]).value.length vc) (ks[k]).value) := Lib.hid (hv.weak fun _ _ h => .inl h)
      clear hv
      by_cases hx : (ks[k]).name = nm
      · have HX : Hid (getD ks nm = some (ks[k]).value) := by
          show getD ks nm = _
          rcases ix_ways (fun k => decide (k.name = nm)) ks with ⟨e1, e2⟩ | ⟨j, hj, e1, e2⟩
          · have := List.find?_eq_none.1 e2 _ (List.getElem_mem hlt)
            simp [hx] at this
          · have h1 := ixR_hit HIX.out hlt (by simp [hx])
            obtain rfl : j = k := by rw [h1] at e1; omega
            unfold getD
            rw [e2]
            rfl
        have hxe := eqL (ks[k]).name nm
        have hxt : decide ((ks[k]).name = nm) = true := by simp [hx]
        rw [hxt] at hxe
        clear hx hxt
        go_wp2
        go_ret2
        show GetRR _ _ _ _ _
        rw [HX.out]
        exact ⟨_, _, _, rfl, HV.out, rfl, HW.out⟩
      · have HI : Hid (k + 1 ≤ ixN (fun k => decide (k.name = nm)) ks) := ixN_miss HIX.out hlt (by simp [hx])
        have hxe := eqL (ks[k]).name nm
        have hxt : decide ((ks[k]).name = nm) = false := by simp [hx]
        rw [hxt] at hxe
        clear hx hxt
        go_wp2
        go_round
        case rel => exact ⟨k + 1, by omega, by go_num, HI.out⟩
        case measure => simp [intOf]; omega
    · have HX : Hid (getD ks nm = none) := by
        show getD ks nm = _
        have h1 := ixR_none (ks := ks) (p := fun k => decide (k.name = nm)) (by have := HIX.out; omega)
        rcases ix_ways (fun k => decide (k.name = nm)) ks with ⟨e1, e2⟩ | ⟨j, hj, e1, e2⟩
        · unfold getD
          rw [e2]
          rfl
        · rw [h1] at e1; omega
      go_wp2
      go_ret2
      show GetRR _ _ _ _ _
      rw [HX.out]
      exact ⟨_, _, _, rfl, RB.nil _ _, rfl, HW.out⟩
end Go.Proofs.YtfeonfihlleoeaaDoor
