/- The walk of object.change, kind by kind. The walk of object.change, the other kinds. -/
import Derived.Test.YtohfckkgmijlnaaGreatDoorDatB8
import Derived.Test.YtohfckkgmijlnaaGreatDoorPC
namespace Go.Proofs.YtohfckkgmijlnaaGreatDoor
open Go.RowKit Go.WideShapes

theorem ChR.pre {base pb : Nat} {k : Int} {x : Option ObD} {w w1 w' : World} {r : Ending} (hb : Below w.heap.size w w1) (h : ChR base pb k x w1 r w') : ChR base pb k x w r w' :=
  ⟨h.1, Fr.trans (S := Chg base pb) (T := Chg base pb) (Fr.ext hb) h.2 (fun _ _ h => h)⟩
/-- what stands under ChR, to be walked on -/
theorem ChR.ways {base pb : Nat} {k : Int} {x : Option ObD} {w w' : World} {r : Ending} (h : ChR base pb k x w r w') : ∃ v, r = .returned v ∧ (v = .nilIface ∨ v = refE k 2) ∧ ChR base pb k x w (.returned v) w' := by
  obtain ⟨h1, h2⟩ := h
  cases x with
  | none => exact ⟨_, h1, .inr rfl, rfl, h2⟩
  | some o' => exact ⟨_, h1.1, .inl rfl, ⟨rfl, h1.2⟩, h2⟩
set_option maxRecDepth 100000 in
set_option maxHeartbeats 8000000 in
theorem change_write (base pb : Nat) (dv kv : Value) (o : ObD) (off n : Int) (nm : ByteArray) (A : Nat → Prop) (oa : Option Addr) (oc : Nat) (d : List UInt8) (w : World)
    (hO : IsO base pb w dv kv o) (hm : mayB o = true) (hd : RB A w (.slice oa d.length oc) d) (hl : d.length ≤ 50000) (hA : ∀ b, A b → b ≠ pb ∧ b < base) :
    Calls Tryz.prog 67 #[.pointer (some ⟨pb, 0, none⟩), opV 5 off n nm oa d.length oc] w (ChR base pb 5 (changeB o ⟨5, off, n, nm, d⟩) w) := by
  obtain ⟨hm1, hm2, hm3, hm4, hf⟩ := (mayB_iff o).1 hm
  have HF := Lib.hid hf
  have HM := Lib.hid hm
  have hlt := hO.lt
  have hle := hO.le
  obtain ⟨a0, c0, rfl⟩ : ∃ a c, dv = .slice a o.data.length c := hO.own.data.rb.shape
  obtain ⟨kA, kc, rfl⟩ : ∃ a c, kv = .slice a o.keys.length c := by
    obtain ⟨cs, h, -⟩ := hO.own.ex
    exact owns_shape h
  have HO := Lib.hid hO
  have HV := Lib.hid hd
  have HA := Lib.hid hA
  have hpl : pb < w.heap.size := by omega
  clear hO hd hA hf hm
  have hw : Below w.heap.size w (w.alloc (.cells #[.int .i64 5, .int .i64 off, .int .i64 n, .string nm, .slice oa d.length oc] 57)) := (Below.refl _ w).alloc (Nat.le_refl _) _
  have HW := Lib.hid hw
  clear hw
  have HC : Hid (∀ W, Below w.heap.size w W → Calls Tryz.prog 83 #[.pointer (some ⟨pb, 0, none⟩), opV 5 off n nm oa d.length oc] W (ChR base pb 5 (changeB o ⟨5, off, n, nm, d⟩) W)) := fun W hW =>
    data_write base pb _ _ o off n nm A oa oc d W (HO.out.ext hW) (by omega) (HV.out.ext hW) hl (fun b hb => ⟨(HA.out b hb).1, fun e => by have := (HA.out b hb).2; have := (HO.out.own.data.lt b e).1; omega⟩)
  unfold opV at HC ⊢
  go_enter Tryz.func67, Tryz.ntmps67
  go_wp2_with fail
  refine (HC.out _ HW.out).mono ?_
  intro e w1 h
  obtain ⟨v, rfl, hv, h⟩ := h.ways
  have HH := Lib.hid (h.pre HW.out)
  clear h
  rcases hv with rfl | rfl
  · go_wp2
    go_ret
    exact HH.out
  · go_wp2
    go_ret
    exact HH.out
set_option maxRecDepth 100000 in
set_option maxHeartbeats 8000000 in
theorem change_zero (base pb : Nat) (dv kv : Value) (o : ObD) (off n : Int) (nm : ByteArray) (A : Nat → Prop) (oa : Option Addr) (oc : Nat) (d : List UInt8) (w : World)
    (hO : IsO base pb w dv kv o) (hm : mayB o = true) (hd : RB A w (.slice oa d.length oc) d) (_hl : d.length ≤ 50000) (hA : ∀ b, A b → b ≠ pb ∧ b < base) :
    Calls Tryz.prog 67 #[.pointer (some ⟨pb, 0, none⟩), opV 6 off n nm oa d.length oc] w (ChR base pb 6 (changeB o ⟨6, off, n, nm, d⟩) w) := by
  obtain ⟨hm1, hm2, hm3, hm4, hf⟩ := (mayB_iff o).1 hm
  have HF := Lib.hid hf
  have HM := Lib.hid hm
  have hlt := hO.lt
  have hle := hO.le
  obtain ⟨a0, c0, rfl⟩ : ∃ a c, dv = .slice a o.data.length c := hO.own.data.rb.shape
  obtain ⟨kA, kc, rfl⟩ : ∃ a c, kv = .slice a o.keys.length c := by
    obtain ⟨cs, h, -⟩ := hO.own.ex
    exact owns_shape h
  have HO := Lib.hid hO
  have HV := Lib.hid hd
  have HA := Lib.hid hA
  have hpl : pb < w.heap.size := by omega
  clear hO hd hA hf hm
  have hw : Below w.heap.size w (w.alloc (.cells #[.int .i64 6, .int .i64 off, .int .i64 n, .string nm, .slice oa d.length oc] 57)) := (Below.refl _ w).alloc (Nat.le_refl _) _
  have HW := Lib.hid hw
  clear hw
  have HC : Hid (∀ W, Below w.heap.size w W → Calls Tryz.prog 83 #[.pointer (some ⟨pb, 0, none⟩), opV 6 off n nm oa d.length oc] W (ChR base pb 6 (changeB o ⟨6, off, n, nm, d⟩) W)) := fun W hW =>
    data_zero base pb _ _ o off n nm oa _ oc d W (HO.out.ext hW) (by omega)
  unfold opV at HC ⊢
  go_enter Tryz.func67, Tryz.ntmps67
  go_wp2_with fail
  refine (HC.out _ HW.out).mono ?_
  intro e w1 h
  obtain ⟨v, rfl, hv, h⟩ := h.ways
  have HH := Lib.hid (h.pre HW.out)
  clear h
  rcases hv with rfl | rfl
  · go_wp2
    go_ret
    exact HH.out
  · go_wp2
    go_ret
    exact HH.out
set_option maxRecDepth 100000 in
set_option maxHeartbeats 8000000 in
theorem change_cut (base pb : Nat) (dv kv : Value) (o : ObD) (off n : Int) (nm : ByteArray) (A : Nat → Prop) (oa : Option Addr) (oc : Nat) (d : List UInt8) (w : World)
    (hO : IsO base pb w dv kv o) (hm : mayB o = true) (hd : RB A w (.slice oa d.length oc) d) (_hl : d.length ≤ 50000) (hA : ∀ b, A b → b ≠ pb ∧ b < base) :
    Calls Tryz.prog 67 #[.pointer (some ⟨pb, 0, none⟩), opV 7 off n nm oa d.length oc] w (ChR base pb 7 (changeB o ⟨7, off, n, nm, d⟩) w) := by
  obtain ⟨hm1, hm2, hm3, hm4, hf⟩ := (mayB_iff o).1 hm
  have HF := Lib.hid hf
  have HM := Lib.hid hm
  have hlt := hO.lt
  have hle := hO.le
  obtain ⟨a0, c0, rfl⟩ : ∃ a c, dv = .slice a o.data.length c := hO.own.data.rb.shape
  obtain ⟨kA, kc, rfl⟩ : ∃ a c, kv = .slice a o.keys.length c := by
    obtain ⟨cs, h, -⟩ := hO.own.ex
    exact owns_shape h
  have HO := Lib.hid hO
  have HV := Lib.hid hd
  have HA := Lib.hid hA
  have hpl : pb < w.heap.size := by omega
  clear hO hd hA hf hm
  have hw : Below w.heap.size w (w.alloc (.cells #[.int .i64 7, .int .i64 off, .int .i64 n, .string nm, .slice oa d.length oc] 57)) := (Below.refl _ w).alloc (Nat.le_refl _) _
  have HW := Lib.hid hw
  clear hw
  have HC : Hid (∀ W, Below w.heap.size w W → Calls Tryz.prog 83 #[.pointer (some ⟨pb, 0, none⟩), opV 7 off n nm oa d.length oc] W (ChR base pb 7 (changeB o ⟨7, off, n, nm, d⟩) W)) := fun W hW =>
    data_cut base pb _ _ o off n nm oa _ oc d W (HO.out.ext hW) (by omega)
  unfold opV at HC ⊢
  go_enter Tryz.func67, Tryz.ntmps67
  go_wp2_with fail
  refine (HC.out _ HW.out).mono ?_
  intro e w1 h
  obtain ⟨v, rfl, hv, h⟩ := h.ways
  have HH := Lib.hid (h.pre HW.out)
  clear h
  rcases hv with rfl | rfl
  · go_wp2
    go_ret
    exact HH.out
  · go_wp2
    go_ret
    exact HH.out
set_option maxRecDepth 100000 in
set_option maxHeartbeats 8000000 in
theorem change_key (base pb : Nat) (dv kv : Value) (o : ObD) (off n : Int) (nm : ByteArray) (A : Nat → Prop) (oa : Option Addr) (oc : Nat) (d : List UInt8) (w : World)
    (hO : IsO base pb w dv kv o) (hm : mayB o = true) (hd : RB A w (.slice oa d.length oc) d) (hl : d.length ≤ 50000) (hA : ∀ b, A b → b ≠ pb ∧ b < base) :
    Calls Tryz.prog 67 #[.pointer (some ⟨pb, 0, none⟩), opV 9 off n nm oa d.length oc] w (ChR base pb 9 (changeB o ⟨9, off, n, nm, d⟩) w) := by
  obtain ⟨hm1, hm2, hm3, hm4, hf⟩ := (mayB_iff o).1 hm
  have HF := Lib.hid hf
  have HM := Lib.hid hm
  have hlt := hO.lt
  have hle := hO.le
  obtain ⟨a0, c0, rfl⟩ : ∃ a c, dv = .slice a o.data.length c := hO.own.data.rb.shape
  obtain ⟨kA, kc, rfl⟩ : ∃ a c, kv = .slice a o.keys.length c := by
    obtain ⟨cs, h, -⟩ := hO.own.ex
    exact owns_shape h
  have HO := Lib.hid hO
  have HV := Lib.hid hd
  have HA := Lib.hid hA
  have hpl : pb < w.heap.size := by omega
  clear hO hd hA hf hm
  have hw : Below w.heap.size w (w.alloc (.cells #[.int .i64 9, .int .i64 off, .int .i64 n, .string nm, .slice oa d.length oc] 57)) := (Below.refl _ w).alloc (Nat.le_refl _) _
  have HW := Lib.hid hw
  clear hw
  have HC : Hid (∀ W, Below w.heap.size w W → Calls Tryz.prog 85 #[.pointer (some ⟨pb, 0, none⟩), opV 9 off n nm oa d.length oc, .slice oa d.length oc] W (ChR base pb 9 (changeB o ⟨9, off, n, nm, d⟩) W)) := fun W hW =>
    key_any base pb _ _ o 9 off n nm oa _ oc A _ d W (HO.out.ext hW) HF.out hm2 (HV.out.ext hW) (by omega) (fun b hb => ⟨(HA.out b hb).1, fun e => by
      have := (HA.out b hb).2
      obtain ⟨cs, h, -⟩ := HO.out.own.ex
      have := (h.lt b e).1
      omega⟩)
  unfold opV at HC ⊢
  go_enter Tryz.func67, Tryz.ntmps67
  go_wp2_with fail
  refine (HC.out _ HW.out).mono ?_
  intro e w1 h
  obtain ⟨v, rfl, hv, h⟩ := h.ways
  have HH := Lib.hid (h.pre HW.out)
  clear h
  rcases hv with rfl | rfl
  · go_wp2
    go_ret
    exact HH.out
  · go_wp2
    go_ret
    exact HH.out
set_option maxRecDepth 100000 in
set_option maxHeartbeats 8000000 in
theorem change_seq (base pb : Nat) (dv kv : Value) (o : ObD) (off n : Int) (nm : ByteArray) (A : Nat → Prop) (oa : Option Addr) (oc : Nat) (d : List UInt8) (w : World)
    (hO : IsO base pb w dv kv o) (hm : mayB o = true) (hd : RB A w (.slice oa d.length oc) d) (_hl : d.length ≤ 50000) (hA : ∀ b, A b → b ≠ pb ∧ b < base) :
    Calls Tryz.prog 67 #[.pointer (some ⟨pb, 0, none⟩), opV 12 off n nm oa d.length oc] w (ChR base pb 12 (changeB o ⟨12, off, n, nm, d⟩) w) := by
  obtain ⟨hm1, hm2, hm3, hm4, hf⟩ := (mayB_iff o).1 hm
  have HF := Lib.hid hf
  have HM := Lib.hid hm
  have hlt := hO.lt
  have hle := hO.le
  obtain ⟨a0, c0, rfl⟩ : ∃ a c, dv = .slice a o.data.length c := hO.own.data.rb.shape
  obtain ⟨kA, kc, rfl⟩ : ∃ a c, kv = .slice a o.keys.length c := by
    obtain ⟨cs, h, -⟩ := hO.own.ex
    exact owns_shape h
  have HO := Lib.hid hO
  have HV := Lib.hid hd
  have HA := Lib.hid hA
  have hpl : pb < w.heap.size := by omega
  clear hO hd hA hf hm
  have hw : Below w.heap.size w (w.alloc (.cells #[.int .i64 12, .int .i64 off, .int .i64 n, .string nm, .slice oa d.length oc] 57)) := (Below.refl _ w).alloc (Nat.le_refl _) _
  have HW := Lib.hid hw
  clear hw
  have hlm := fun b W => limit_any 12 off n nm oa d.length oc b W
  unfold opV at hlm ⊢
  have hP := HO.out.blk
  obtain ⟨x2, f2⟩ := blk_cell (i := 2) hP
  simp at x2
  clear hP
  have hF : Hid (∀ w2, Below (w.heap.size + 1) ((w.setCell ⟨pb, 2, none⟩ (.int .i64 n)).alloc (.cells #[.int .i64 12, .int .i64 off, .int .i64 n, .string nm, .slice oa d.length oc] 57)) w2 →
      IsO base pb w2 (.slice a0 o.data.length c0) (.slice kA o.keys.length kc) ⟨o.data, o.keys, n⟩ ∧ Fr (Chg base pb) w w2) := by
    show ∀ w2, _
    intro w2 hb2
    have hsz : (w.setCell ⟨pb, 2, none⟩ (.int .i64 n)).heap.size = w.heap.size := by simp [World.setCell]
    have hb3 : Below (w.setCell ⟨pb, 2, none⟩ (.int .i64 n)).heap.size (w.setCell ⟨pb, 2, none⟩ (.int .i64 n)) w2 := ((Below.refl _ _).alloc (Nat.le_refl _) _).trans (hb2.mono (by rw [hsz]; omega))
    have hset := set_blk3 (j := 2) (v := .int .i64 n) HO.out.blk
    have h2 : Own8 base (w.setCell ⟨pb, 2, none⟩ (.int .i64 n)) (.slice a0 o.data.length c0) (.slice kA o.keys.length kc) o := HO.out.own.keep ⟨by rw [hsz]; omega, fun b hb _ => Below.heap_setCell _ ⟨pb, 2, none⟩ _ _ (by show b ≠ pb; omega)⟩
    have h3 : IsO base pb (w.setCell ⟨pb, 2, none⟩ (.int .i64 n)) (.slice a0 o.data.length c0) (.slice kA o.keys.length kc) ⟨o.data, o.keys, n⟩ := ⟨hlt, by rw [hsz]; omega, by simpa using hset, h2.data, h2.ex⟩
    exact ⟨h3.ext hb3, Fr.trans (S := Chg base pb) (T := Chg base pb) ((Fr.refl _ w).setCell (a := ⟨pb, 2, none⟩) (fun _ => .inl rfl) _) (Fr.ext hb3) (fun _ _ h => h)⟩
  by_cases h1 : 0 ≤ n
  · by_cases h2 : n ≤ 1099511627776
    · have HX : Hid (changeB o ⟨12, off, n, nm, d⟩ = some ⟨o.data, o.keys, n⟩) := by show changeB _ _ = _; simp [changeB, h1, h2]
      go_enter Tryz.func67, Tryz.ntmps67
      go_wp2_with fail
      refine (hlm _ _).mono ?_
      rintro e w2 ⟨rfl, hb2⟩
      have HH := Lib.hid (hF.out w2 (by simpa [World.setCell] using hb2))
      clear hb2
      go_wp2
      go_ret
      exact ChR.yes HX.out HH.out.1 HH.out.2
    · have HX : Hid (changeB o ⟨12, off, n, nm, d⟩ = none) := by show changeB _ _ = _; simp [changeB, h2]
      go_enter Tryz.func67, Tryz.ntmps67
      go_wp2_with fail
      refine (hlm _ _).mono ?_
      rintro e w2 ⟨rfl, hb2⟩
      have HH := Lib.hid (hF.out w2 (by simpa [World.setCell] using hb2))
      clear hb2
      go_wp2
      go_ret
      exact ChR.no HX.out HH.out.2
  · have HX : Hid (changeB o ⟨12, off, n, nm, d⟩ = none) := by show changeB _ _ = _; simp [changeB, h1]
    go_enter Tryz.func67, Tryz.ntmps67
    go_wp2_with fail
    refine (hlm _ _).mono ?_
    rintro e w2 ⟨rfl, hb2⟩
    have HH := Lib.hid (hF.out w2 (by simpa [World.setCell] using hb2))
    clear hb2
    go_wp2
    go_ret
    exact ChR.no HX.out HH.out.2
end Go.Proofs.YtohfckkgmijlnaaGreatDoor
namespace Go.Proofs.YtohfckkgmijlnaaGreatDoor
open Go.RowKit Go.WideShapes

/-- other data, new bytes, in the box -/
theorem set_data {base pb B : Nat} {dv kv v2 : Value} {o : ObD} {D : List UInt8} {w w2 : World} (hO : IsO base pb w dv kv o) (hb : Below w.heap.size w w2) (hv : OB B w2 v2 D) (hB : w.heap.size ≤ B) :
    IsO base pb (w2.setCell ⟨pb, 0, none⟩ v2) v2 kv ⟨D, o.keys, o.seq⟩ ∧ Fr (Chg base pb) w (w2.setCell ⟨pb, 0, none⟩ v2) := by
  have hlt := hO.lt
  have hle := hO.le
  have hset := set_blk3 (j := 0) (v := v2) (hO.ext hb).blk
  refine data_end hO (by simpa using hset) ?_ ((Fr.ext hb).setCell (a := ⟨pb, 0, none⟩) (fun _ => .inl rfl) _) ?_
  · exact (hv.base_le (by omega)).keep fun b hb => Below.heap_setCell _ ⟨pb, 0, none⟩ _ _ (by have := (hv.lt b hb).1; show b ≠ pb; omega)
  · cases h : v2.ownBlock with
    | none => exact .inr (.inl rfl)
    | some g => exact .inr (.inr ⟨g, rfl, by have := (hv.lt g h).1; omega⟩)
theorem IsO.after {base pb : Nat} {dv kv : Value} {o0 : ObD} {w w' w2 : World} (h : IsO base pb w' dv kv o0 ∧ Fr (Chg base pb) w w') (hb : Below w'.heap.size w' w2) : IsO base pb w2 dv kv o0 ∧ Fr (Chg base pb) w w2 :=
  ⟨h.1.ext hb, Fr.trans (S := Chg base pb) (T := Chg base pb) h.2 (Fr.ext hb) (fun _ _ h => h)⟩
set_option maxRecDepth 100000 in
set_option maxHeartbeats 8000000 in
theorem change_set (base pb : Nat) (dv kv : Value) (o : ObD) (off n : Int) (nm : ByteArray) (A : Nat → Prop) (oa : Option Addr) (oc : Nat) (d : List UInt8) (w : World)
    (hO : IsO base pb w dv kv o) (hm : mayB o = true) (hd : RB A w (.slice oa d.length oc) d) (hl : d.length ≤ 50000) (hA : ∀ b, A b → b ≠ pb ∧ b < base) :
    Calls Tryz.prog 67 #[.pointer (some ⟨pb, 0, none⟩), opV 8 off n nm oa d.length oc] w (ChR base pb 8 (changeB o ⟨8, off, n, nm, d⟩) w) := by
  obtain ⟨hm1, hm2, hm3, hm4, hf⟩ := (mayB_iff o).1 hm
  have HF := Lib.hid hf
  have HM := Lib.hid hm
  have hlt := hO.lt
  have hle := hO.le
  obtain ⟨a0, c0, rfl⟩ : ∃ a c, dv = .slice a o.data.length c := hO.own.data.rb.shape
  obtain ⟨kA, kc, rfl⟩ : ∃ a c, kv = .slice a o.keys.length c := by
    obtain ⟨cs, h, -⟩ := hO.own.ex
    exact owns_shape h
  have HO := Lib.hid hO
  have HV := Lib.hid hd
  have HA := Lib.hid hA
  have hpl : pb < w.heap.size := by omega
  clear hO hd hA hf hm
  have hw : Below w.heap.size w (w.alloc (.cells #[.int .i64 8, .int .i64 off, .int .i64 n, .string nm, .slice oa d.length oc] 57)) := (Below.refl _ w).alloc (Nat.le_refl _) _
  have HW := Lib.hid hw
  clear hw
  have hlm := fun b W => limit_any 8 off n nm oa d.length oc b W
  unfold opV at hlm ⊢
  obtain ⟨x0, f0⟩ := blk_cell (i := 0) HO.out.blk
  simp at x0
  have hdl : d.length ≤ 1000000 := by omega
  by_cases h1 : (d.length : Int) ≤ 64
  · have HX : Hid (changeB o ⟨8, off, n, nm, d⟩ = some ⟨d, o.keys, o.seq⟩) := by
      show changeB _ _ = _
      have : d.length ≤ 64 := by omega
      simp [changeB, this]
    go_enter Tryz.func67, Tryz.ntmps67
    go_wp2_with fail
    refine (bclone_any A _ d _ hdl (HV.out.ext (by ((repeat' (first | exact Below.refl _ _ | refine below_drewN ?_ _ | refine Below.drew ?_ | refine Below.alloc ?_ ?_ _ | refine Below.trans ?_ (Below.mono (by assumption) ?_))); all_goals (first | exact Nat.le_refl _ | exact Below.size (by assumption) | omega | (simp; done) | (simp; omega)))))).mono ?_
    rintro e w2 ⟨v2, rfl, h2, hb2⟩
    have hbw : Below w.heap.size w w2 := HW.out.trans (hb2.mono (by simp))
    have K2 : w2.heap[w.heap.size]? = _ := (hb2.block _ (by simp)).trans (heap_alloc_new _ _)
    have hO2 := HO.out.ext hbw
    obtain ⟨y0, g0⟩ := blk_cell (i := 0) hO2.blk
    obtain ⟨z0, e0⟩ := blk_cell (i := 0) K2
    obtain ⟨z1, e1⟩ := blk_cell (i := 1) K2
    obtain ⟨z2, e2⟩ := blk_cell (i := 2) K2
    obtain ⟨z3, e3⟩ := blk_cell (i := 3) K2
    obtain ⟨z4, e4⟩ := blk_cell (i := 4) K2
    simp at y0 z0 z1 z2 z3 z4
    obtain ⟨a2, c2, rfl⟩ := h2.rb.shape
    have HH := Lib.hid (set_data HO.out hbw h2 (by simp))
    have hne : ¬ w.heap.size = pb := by omega
    clear hb2 hbw K2 hO2 h2
    go_wp2_with fail
    refine (hlm _ _).mono ?_
    rintro e w3 ⟨rfl, hb3⟩
    have HH2 := Lib.hid (IsO.after HH.out hb3)
    clear hb3
    go_wp2
    go_ret
    exact ChR.yes HX.out HH2.out.1 HH2.out.2
  · have HX : Hid (changeB o ⟨8, off, n, nm, d⟩ = none) := by
      show changeB _ _ = _
      have : ¬ d.length ≤ 64 := by omega
      simp [changeB, this]
    go_enter Tryz.func67, Tryz.ntmps67
    go_wp2_with fail
    refine (bclone_any A _ d _ hdl (HV.out.ext (by ((repeat' (first | exact Below.refl _ _ | refine below_drewN ?_ _ | refine Below.drew ?_ | refine Below.alloc ?_ ?_ _ | refine Below.trans ?_ (Below.mono (by assumption) ?_))); all_goals (first | exact Nat.le_refl _ | exact Below.size (by assumption) | omega | (simp; done) | (simp; omega)))))).mono ?_
    rintro e w2 ⟨v2, rfl, h2, hb2⟩
    have hbw : Below w.heap.size w w2 := HW.out.trans (hb2.mono (by simp))
    have K2 : w2.heap[w.heap.size]? = _ := (hb2.block _ (by simp)).trans (heap_alloc_new _ _)
    have hO2 := HO.out.ext hbw
    obtain ⟨y0, g0⟩ := blk_cell (i := 0) hO2.blk
    obtain ⟨z0, e0⟩ := blk_cell (i := 0) K2
    obtain ⟨z1, e1⟩ := blk_cell (i := 1) K2
    obtain ⟨z2, e2⟩ := blk_cell (i := 2) K2
    obtain ⟨z3, e3⟩ := blk_cell (i := 3) K2
    obtain ⟨z4, e4⟩ := blk_cell (i := 4) K2
    simp at y0 z0 z1 z2 z3 z4
    obtain ⟨a2, c2, rfl⟩ := h2.rb.shape
    have HH := Lib.hid (set_data HO.out hbw h2 (by simp))
    have hne : ¬ w.heap.size = pb := by omega
    clear hb2 hbw K2 hO2 h2
    go_wp2_with fail
    refine (hlm _ _).mono ?_
    rintro e w3 ⟨rfl, hb3⟩
    have HH2 := Lib.hid (IsO.after HH.out hb3)
    clear hb3
    go_wp2
    go_ret
    exact ChR.no HX.out HH2.out.2
set_option maxRecDepth 100000 in
set_option maxHeartbeats 8000000 in
theorem change_drop (base pb : Nat) (dv kv : Value) (o : ObD) (off n : Int) (nm : ByteArray) (A : Nat → Prop) (oa : Option Addr) (oc : Nat) (d : List UInt8) (w : World)
    (hO : IsO base pb w dv kv o) (hm : mayB o = true) (hd : RB A w (.slice oa d.length oc) d) (_hl : d.length ≤ 50000) (hA : ∀ b, A b → b ≠ pb ∧ b < base) :
    Calls Tryz.prog 67 #[.pointer (some ⟨pb, 0, none⟩), opV 10 off n nm oa d.length oc] w (ChR base pb 10 (changeB o ⟨10, off, n, nm, d⟩) w) := by
  obtain ⟨hm1, hm2, hm3, hm4, hf⟩ := (mayB_iff o).1 hm
  have HF := Lib.hid hf
  have HM := Lib.hid hm
  have hlt := hO.lt
  have hle := hO.le
  obtain ⟨a0, c0, rfl⟩ : ∃ a c, dv = .slice a o.data.length c := hO.own.data.rb.shape
  obtain ⟨kA, kc, rfl⟩ : ∃ a c, kv = .slice a o.keys.length c := by
    obtain ⟨cs, h, -⟩ := hO.own.ex
    exact owns_shape h
  have HO := Lib.hid hO
  have HV := Lib.hid hd
  have HA := Lib.hid hA
  have hpl : pb < w.heap.size := by omega
  clear hO hd hA hf hm
  have hw : Below w.heap.size w (w.alloc (.cells #[.int .i64 10, .int .i64 off, .int .i64 n, .string nm, .slice oa d.length oc] 57)) := (Below.refl _ w).alloc (Nat.le_refl _) _
  have HW := Lib.hid hw
  clear hw
  unfold opV
  have hobv : Hid (∀ W, Below w.heap.size w W → ObV (fun b => base ≤ b) W (.agg #[.slice a0 o.data.length c0, .slice kA o.keys.length kc, .int .i64 o.seq]) o) := fun W hW => (HO.out.ext hW).own.obv
  have hkl : o.keys.length ≤ 10000 := by omega
  go_enter Tryz.func67, Tryz.ntmps67
  go_upto_region 12 with fail
  obtain ⟨w0, hw0⟩ : ∃ w0, w0 = w.alloc (.cells #[.int .i64 10, .int .i64 off, .int .i64 n, .string nm, .slice oa d.length oc] 57) := ⟨_, rfl⟩
  rw [← hw0]
  have hw : Below w.heap.size w w0 := by rw [hw0]; ((repeat' (first | exact Below.refl _ _ | refine below_drewN ?_ _ | refine Below.drew ?_ | refine Below.alloc ?_ ?_ _ | refine Below.trans ?_ (Below.mono (by assumption) ?_))); all_goals (first | exact Nat.le_refl _ | exact Below.size (by assumption) | omega | (simp; done) | (simp; omega)))
  have K := heap_alloc_new w (.cells #[.int .i64 10, .int .i64 off, .int .i64 n, .string nm, .slice oa d.length oc] 57)
  rw [← hw0] at K
  have hO0 := HO.out.ext hw
  have HW0 := Lib.hid hw
  have y0 : ∀ n : After w0, n.w.cell? ⟨pb, 0, none⟩ = some _ := after_cell (by have := (blk_cell (i := 0) hO0.blk).1; simpa using this)
  have y1 : ∀ n : After w0, n.w.cell? ⟨pb, 1, none⟩ = some _ := after_cell (by have := (blk_cell (i := 1) hO0.blk).1; simpa using this)
  have y2 : ∀ n : After w0, n.w.cell? ⟨pb, 2, none⟩ = some _ := after_cell (by have := (blk_cell (i := 2) hO0.blk).1; simpa using this)
  have y3 : ∀ n : After w0, n.w.cell? ⟨w.heap.size, 3, none⟩ = some (.string nm) := after_cell (blk_cell (i := 3) K).1
  have HFN : Hid (∀ m : After w0, Calls Tryz.prog 86 #[.agg #[.slice a0 o.data.length c0, .slice kA o.keys.length kc, .int .i64 o.seq], .string nm] m.w (FindR o.keys nm m.w)) := fun m => find_any _ _ o nm _ (hobv.out _ (HW0.out.trans (m.h.mono HW0.out.size))) HF.out hkl
  clear hw0 hw K hO0
  (refine wp_region_after (by kernel_rfl) (by kernel_rfl) ?_
   repeat (first | go_big_quiet_skip | (go_big_quiet_want; go_big_quiet_op; (first | go_big_quiet_on | (apply Exists.intro; refine ⟨fun _ => ?_, ?_⟩; (focus ((go_at_call 86; exact calls_after (HFN.out _)))); go_big_quiet_on))))
   refine wpQuiet_nil ?_
   intro _ hw'
   obtain ⟨nq, hw''⟩ := hw'
   subst hw''
   have hq := nq.h)
  obtain ⟨w1, hw1⟩ : ∃ w1, w1 = nq.w := ⟨_, rfl⟩
  rw [← hw1] at hq ⊢
  have hB1 : Below w.heap.size w w1 := HW0.out.trans (hq.mono HW0.out.size)
  have hO1 := HO.out.ext hB1
  obtain ⟨x1, f1⟩ := blk_cell (i := 1) hO1.blk
  simp at x1
  have HB1 := Lib.hid hB1
  have HO1 := Lib.hid hO1
  have hpl1 : pb < w1.heap.size := by have := hB1.size; omega
  clear hw1 hq hB1 hO1 y0 y1 y2 y3 HFN HW0 HW
  cases hh : hasK o.keys nm with
  | false =>
    have HX : Hid (changeB o ⟨10, off, n, nm, d⟩ = some o) := by show changeB _ _ = _; simp [changeB, dropK_none hh]
    clear hh
    go_wp2
    go_ret
    exact ChR.yes HX.out HO1.out (Fr.ext HB1.out)
  | true =>
    obtain ⟨hp, hn, -, hdr⟩ := putK_old (v := []) HF.out hh
    have HX : Hid (changeB o ⟨10, off, n, nm, d⟩ = some ⟨o.data, o.keys.take (posK o.keys nm) ++ o.keys.drop (posK o.keys nm + 1), o.seq⟩) := by show changeB _ _ = _; simp [changeB, hdr]
    obtain ⟨hd, cs, ho, hc⟩ := HO1.out.own
    obtain ⟨g, rfl⟩ : ∃ g, kA = some ⟨g, 0, none⟩ := by
      rcases ho.2 with ⟨-, h⟩ | ⟨g, cap, cur, e, -⟩
      · omega
      · simp only [Value.slice.injEq] at e
        exact ⟨g, e.1⟩
    have hgl := ho.lt g rfl
    have HDL := Lib.hid (delete_any base g o.keys.length kc (posK o.keys nm) cs.flatten w1 ho hp hc.one)
    have HD := Lib.hid hd
    have HC := Lib.hid hc
    have HOW := Lib.hid ho
    have hpp : posK o.keys nm ≤ o.keys.length := by omega
    clear hn hdr hd ho hc hh
    generalize posK o.keys nm = p at *
    go_wp2_with fail
    refine (HDL.out).mono ?_
    rintro e w2 ⟨rfl, hr2, hf2⟩
    have hP2 : w2.heap[pb]? = _ := (hf2.block pb hpl1 (by omega)).trans HO1.out.blk
    obtain ⟨x1', f1'⟩ := blk_cell (i := 1) hP2
    simp at x1'
    have hset := set_blk3 (j := 1) (v := .slice (some ⟨g, 0, none⟩) (o.keys.length - 1) kc) hP2
    have HEND : Hid (IsO base pb (w2.setCell ⟨pb, 1, none⟩ (.slice (some ⟨g, 0, none⟩) (o.keys.length - 1) kc)) (.slice a0 o.data.length c0) (.slice (some ⟨g, 0, none⟩) (o.keys.length - 1) kc) ⟨o.data, o.keys.take p ++ o.keys.drop (p + 1), o.seq⟩ ∧ Fr (Chg base pb) w (w2.setCell ⟨pb, 1, none⟩ (.slice (some ⟨g, 0, none⟩) (o.keys.length - 1) kc))) := by
      have hne : ∀ b, b ≠ pb → (w2.setCell ⟨pb, 1, none⟩ (.slice (some ⟨g, 0, none⟩) (o.keys.length - 1) kc)).heap[b]? = w2.heap[b]? := fun b hb => Below.heap_setCell _ ⟨pb, 1, none⟩ _ _ hb
      have hle1 := HO1.out.le
      have hs2 := hf2.size
      refine ⟨⟨hlt, by simp only [World.setCell, Array.size_modify]; omega, by simpa using hset, ?_, cs.take p ++ cs.drop (p + 1), ?_, ?_⟩, ?_⟩
      · refine (HD.out.keep fun b hb => hf2.block b (HD.out.lt b hb).2 (fun e => ?_)).keep fun b hb => hne b (by have := (HD.out.lt b hb).1; omega)
        rcases own_ne HD.out HOW.out (by decide) with e1 | e1
        · rw [e1] at hb; cases hb
        · exact e1 (by rw [hb, e]; rfl)
      · have hl := HC.out.lens
        have e1 : (cs.take p ++ cs.drop (p + 1)).flatten = cs.flatten.take (p * 2) ++ cs.flatten.drop ((p + 1) * 2) := by rw [List.flatten_append, flat_take cs p hl, flat_drop cs (p + 1) hl]; rfl
        have e2 : (o.keys.take p ++ o.keys.drop (p + 1)).length = o.keys.length - 1 := by simp; omega
        show World.ownsRow _ base _ 2 _ (o.keys.take p ++ o.keys.drop (p + 1)).length _
        rw [e1, e2]
        exact owns_keep hr2 fun b hb => hne b (by simp only [Value.ownBlock, Option.some.injEq] at hb; omega)
      · exact (HC.out.sameU (Y := fun _ b => base ≤ b ∧ (Value.slice (some ⟨g, 0, none⟩) (o.keys.length - 1) kc).ownBlock ≠ some b ∧ (Value.slice a0 o.data.length c0).ownBlock ≠ some b ∧ U8 (w2.setCell ⟨pb, 1, none⟩ (.slice (some ⟨g, 0, none⟩) (o.keys.length - 1) kc)) b)
          (fun _ b hb hlb => (hne b (by have := hb.1; omega)).trans (hf2.block b hlb (fun e => hb.2.1 (by rw [e]; rfl)))) (by simp only [World.setCell, Array.size_modify]; omega) fun _ b _ _ h e => ⟨h.1, h.2.1, h.2.2.1, h.2.2.2.of_eq e⟩).gap (p := p) (q := p + 1) hpp
      · exact (Fr.trans (S := Chg base pb) (T := fun k => k = g) (Fr.ext HB1.out) hf2 (fun b _ h => .inr (by omega))).setCell (a := ⟨pb, 1, none⟩) (fun _ => .inl rfl) _
    clear hr2 hf2 hP2 hset
    go_wp2
    go_ret
    exact ChR.yes HX.out HEND.out.1 HEND.out.2
end Go.Proofs.YtohfckkgmijlnaaGreatDoor
