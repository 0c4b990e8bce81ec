/- The walk of object.change, kind by kind. -/
import Derived.Test.YtfefnfgppgohgaaDoorDatB8
import Derived.Test.YtfefnfgppgohgaaDoorRd8
namespace Go.Proofs.YtfefnfgppgohgaaDoor
open Go.RowKit Go.WideShapes

theorem ChR.pre {base pb : Nat} {k : Int} {x : Option ObD} {w w1 w' : World} {r : Ending} (hb : Below w.heap.size w w1) (h : ChR base pb k x w1 r w') : ChR base pb k x w r w' :=
  ⟨h.1, Fr.trans (S := Chg base pb) (T := Chg base pb) (Fr.ext hb) h.2 (fun _ _ h => h)⟩
/-- what stands under ChR, to be walked on -/
theorem ChR.ways {base pb : Nat} {k : Int} {x : Option ObD} {w w' : World} {r : Ending} (h : ChR base pb k x w r w') : ∃ v, r = .returned v ∧ (v = .nilIface ∨ v = refE k 2) ∧ ChR base pb k x w (.returned v) w' := by
  obtain ⟨h1, h2⟩ := h
  cases x with
  | none => exact ⟨_, h1, .inr rfl, rfl, h2⟩
  | some o' => exact ⟨_, h1.1, .inl rfl, ⟨rfl, h1.2⟩, h2⟩
set_option maxRecDepth 100000 in
set_option maxHeartbeats 8000000 in
theorem change_write (base pb : Nat) (dv kv : Value) (o : ObD) (off n : Int) (nm : ByteArray) (A : Nat → Prop) (oa : Option Addr) (oc : Nat) (d : List UInt8) (w : World)
    (hO : IsO base pb w dv kv o) (hm : mayB o = true) (hd : RB A w (.slice oa d.length oc) d) (hl : d.length ≤ 50000) (hA : ∀ b, A b → b ≠ pb ∧ b < base) :
    Calls Tryd.prog 26 #[.pointer (some ⟨pb, 0, none⟩), opV 5 off n nm oa d.length oc] w (ChR base pb 5 (changeB o ⟨5, off, n, nm, d⟩) w) := by
  obtain ⟨hm1, hm2, hm3, hm4, hf⟩ := (mayB_iff o).1 hm
  have HF := Lib.hid hf
  have HM := Lib.hid hm
  have hlt := hO.lt
  have hle := hO.le
  obtain ⟨a0, c0, rfl⟩ : ∃ a c, dv = .slice a o.data.length c := hO.own.data.rb.shape
  obtain ⟨kA, kc, rfl⟩ : ∃ a c, kv = .slice a o.keys.length c := by
    obtain ⟨cs, h, -⟩ := hO.own.ex
    exact owns_shape h
  have HO := Lib.hid hO
  have HV := Lib.hid hd
  have HA := Lib.hid hA
  have hpl : pb < w.heap.size := by omega
  clear hO hd hA hf hm
  have hw : Below w.heap.size w (w.alloc (.cells #[.int .i64 5, .int .i64 off, .int .i64 n, .string nm, .slice oa d.length oc] 27)) := (Below.refl _ w).alloc (Nat.le_refl _) _
  have HW := Lib.hid hw
  clear hw
  have HC : Hid (∀ W, Below w.heap.size w W → Calls Tryd.prog 43 #[.pointer (some ⟨pb, 0, none⟩), opV 5 off n nm oa d.length oc] W (ChR base pb 5 (changeB o ⟨5, off, n, nm, d⟩) W)) := fun W hW =>
    data_write base pb _ _ o off n nm A oa oc d W (HO.out.ext hW) (by omega) (HV.out.ext hW) hl (fun b hb => ⟨(HA.out b hb).1, fun e => by have := (HA.out b hb).2; have := (HO.out.own.data.lt b e).1; omega⟩)
  unfold opV at HC ⊢
  go_enter Tryd.func26, Tryd.ntmps26
  go_wp2_with fail
  refine (HC.out _ HW.out).mono ?_
  intro e w1 h
  obtain ⟨v, rfl, hv, h⟩ := h.ways
  have HH := Lib.hid (h.pre HW.out)
  clear h
  rcases hv with rfl | rfl
  · go_wp2
    go_ret
    exact HH.out
  · go_wp2
    go_ret
    exact HH.out
set_option maxRecDepth 100000 in
set_option maxHeartbeats 8000000 in
theorem change_zero (base pb : Nat) (dv kv : Value) (o : ObD) (off n : Int) (nm : ByteArray) (A : Nat → Prop) (oa : Option Addr) (oc : Nat) (d : List UInt8) (w : World)
    (hO : IsO base pb w dv kv o) (hm : mayB o = true) (hd : RB A w (.slice oa d.length oc) d) (_hl : d.length ≤ 50000) (hA : ∀ b, A b → b ≠ pb ∧ b < base) :
    Calls Tryd.prog 26 #[.pointer (some ⟨pb, 0, none⟩), opV 6 off n nm oa d.length oc] w (ChR base pb 6 (changeB o ⟨6, off, n, nm, d⟩) w) := by
  obtain ⟨hm1, hm2, hm3, hm4, hf⟩ := (mayB_iff o).1 hm
  have HF := Lib.hid hf
  have HM := Lib.hid hm
  have hlt := hO.lt
  have hle := hO.le
  obtain ⟨a0, c0, rfl⟩ : ∃ a c, dv = .slice a o.data.length c := hO.own.data.rb.shape
  obtain ⟨kA, kc, rfl⟩ : ∃ a c, kv = .slice a o.keys.length c := by
    obtain ⟨cs, h, -⟩ := hO.own.ex
    exact owns_shape h
  have HO := Lib.hid hO
  have HV := Lib.hid hd
  have HA := Lib.hid hA
  have hpl : pb < w.heap.size := by omega
  clear hO hd hA hf hm
  have hw : Below w.heap.size w (w.alloc (.cells #[.int .i64 6, .int .i64 off, .int .i64 n, .string nm, .slice oa d.length oc] 27)) := (Below.refl _ w).alloc (Nat.le_refl _) _
  have HW := Lib.hid hw
  clear hw
  have HC : Hid (∀ W, Below w.heap.size w W → Calls Tryd.prog 43 #[.pointer (some ⟨pb, 0, none⟩), opV 6 off n nm oa d.length oc] W (ChR base pb 6 (changeB o ⟨6, off, n, nm, d⟩) W)) := fun W hW =>
    data_zero base pb _ _ o off n nm oa _ oc d W (HO.out.ext hW) (by omega)
  unfold opV at HC ⊢
  go_enter Tryd.func26, Tryd.ntmps26
  go_wp2_with fail
  refine (HC.out _ HW.out).mono ?_
  intro e w1 h
  obtain ⟨v, rfl, hv, h⟩ := h.ways
  have HH := Lib.hid (h.pre HW.out)
  clear h
  rcases hv with rfl | rfl
  · go_wp2
    go_ret
    exact HH.out
  · go_wp2
    go_ret
    exact HH.out
set_option maxRecDepth 100000 in
set_option maxHeartbeats 8000000 in
theorem change_cut (base pb : Nat) (dv kv : Value) (o : ObD) (off n : Int) (nm : ByteArray) (A : Nat → Prop) (oa : Option Addr) (oc : Nat) (d : List UInt8) (w : World)
    (hO : IsO base pb w dv kv o) (hm : mayB o = true) (hd : RB A w (.slice oa d.length oc) d) (_hl : d.length ≤ 50000) (hA : ∀ b, A b → b ≠ pb ∧ b < base) :
    Calls Tryd.prog 26 #[.pointer (some ⟨pb, 0, none⟩), opV 7 off n nm oa d.length oc] w (ChR base pb 7 (changeB o ⟨7, off, n, nm, d⟩) w) := by
  obtain ⟨hm1, hm2, hm3, hm4, hf⟩ := (mayB_iff o).1 hm
  have HF := Lib.hid hf
  have HM := Lib.hid hm
  have hlt := hO.lt
  have hle := hO.le
  obtain ⟨a0, c0, rfl⟩ : ∃ a c, dv = .slice a o.data.length c := hO.own.data.rb.shape
  obtain ⟨kA, kc, rfl⟩ : ∃ a c, kv = .slice a o.keys.length c := by
    obtain ⟨cs, h, -⟩ := hO.own.ex
    exact owns_shape h
  have HO := Lib.hid hO
  have HV := Lib.hid hd
  have HA := Lib.hid hA
  have hpl : pb < w.heap.size := by omega
  clear hO hd hA hf hm
  have hw : Below w.heap.size w (w.alloc (.cells #[.int .i64 7, .int .i64 off, .int .i64 n, .string nm, .slice oa d.length oc] 27)) := (Below.refl _ w).alloc (Nat.le_refl _) _
  have HW := Lib.hid hw
  clear hw
  have HC : Hid (∀ W, Below w.heap.size w W → Calls Tryd.prog 43 #[.pointer (some ⟨pb, 0, none⟩), opV 7 off n nm oa d.length oc] W (ChR base pb 7 (changeB o ⟨7, off, n, nm, d⟩) W)) := fun W hW =>
    data_cut base pb _ _ o off n nm oa _ oc d W (HO.out.ext hW) (by omega)
  unfold opV at HC ⊢
  go_enter Tryd.func26, Tryd.ntmps26
  go_wp2_with fail
  refine (HC.out _ HW.out).mono ?_
  intro e w1 h
  obtain ⟨v, rfl, hv, h⟩ := h.ways
  have HH := Lib.hid (h.pre HW.out)
  clear h
  rcases hv with rfl | rfl
  · go_wp2
    go_ret
    exact HH.out
  · go_wp2
    go_ret
    exact HH.out
set_option maxRecDepth 100000 in
set_option maxHeartbeats 8000000 in
theorem change_key (base pb : Nat) (dv kv : Value) (o : ObD) (off n : Int) (nm : ByteArray) (A : Nat → Prop) (oa : Option Addr) (oc : Nat) (d : List UInt8) (w : World)
    (hO : IsO base pb w dv kv o) (hm : mayB o = true) (hd : RB A w (.slice oa d.length oc) d) (hl : d.length ≤ 50000) (hA : ∀ b, A b → b ≠ pb ∧ b < base) :
    Calls Tryd.prog 26 #[.pointer (some ⟨pb, 0, none⟩), opV 9 off n nm oa d.length oc] w (ChR base pb 9 (changeB o ⟨9, off, n, nm, d⟩) w) := by
  obtain ⟨hm1, hm2, hm3, hm4, hf⟩ := (mayB_iff o).1 hm
  have HF := Lib.hid hf
  have HM := Lib.hid hm
  have hlt := hO.lt
  have hle := hO.le
  obtain ⟨a0, c0, rfl⟩ : ∃ a c, dv = .slice a o.data.length c := hO.own.data.rb.shape
  obtain ⟨kA, kc, rfl⟩ : ∃ a c, kv = .slice a o.keys.length c := by
    obtain ⟨cs, h, -⟩ := hO.own.ex
    exact owns_shape h
  have HO := Lib.hid hO
  have HV := Lib.hid hd
  have HA := Lib.hid hA
  have hpl : pb < w.heap.size := by omega
  clear hO hd hA hf hm
  have hw : Below w.heap.size w (w.alloc (.cells #[.int .i64 9, .int .i64 off, .int .i64 n, .string nm, .slice oa d.length oc] 27)) := (Below.refl _ w).alloc (Nat.le_refl _) _
  have HW := Lib.hid hw
  clear hw
  have HC : Hid (∀ W, Below w.heap.size w W → Calls Tryd.prog 45 #[.pointer (some ⟨pb, 0, none⟩), opV 9 off n nm oa d.length oc, .slice oa d.length oc] W (ChR base pb 9 (changeB o ⟨9, off, n, nm, d⟩) W)) := fun W hW =>
    key_any base pb _ _ o 9 off n nm oa _ oc A _ d W (HO.out.ext hW) HF.out hm2 (HV.out.ext hW) (by omega) (fun b hb => ⟨(HA.out b hb).1, fun e => by
      have := (HA.out b hb).2
      obtain ⟨cs, h, -⟩ := HO.out.own.ex
      have := (h.lt b e).1
      omega⟩)
  unfold opV at HC ⊢
  go_enter Tryd.func26, Tryd.ntmps26
  go_wp2_with fail
  refine (HC.out _ HW.out).mono ?_
  intro e w1 h
  obtain ⟨v, rfl, hv, h⟩ := h.ways
  have HH := Lib.hid (h.pre HW.out)
  clear h
  rcases hv with rfl | rfl
  · go_wp2
    go_ret
    exact HH.out
  · go_wp2
    go_ret
    exact HH.out
set_option maxRecDepth 100000 in
set_option maxHeartbeats 8000000 in
theorem change_seq (base pb : Nat) (dv kv : Value) (o : ObD) (off n : Int) (nm : ByteArray) (A : Nat → Prop) (oa : Option Addr) (oc : Nat) (d : List UInt8) (w : World)
    (hO : IsO base pb w dv kv o) (hm : mayB o = true) (hd : RB A w (.slice oa d.length oc) d) (_hl : d.length ≤ 50000) (hA : ∀ b, A b → b ≠ pb ∧ b < base) :
    Calls Tryd.prog 26 #[.pointer (some ⟨pb, 0, none⟩), opV 12 off n nm oa d.length oc] w (ChR base pb 12 (changeB o ⟨12, off, n, nm, d⟩) w) := by
  obtain ⟨hm1, hm2, hm3, hm4, hf⟩ := (mayB_iff o).1 hm
  have HF := Lib.hid hf
  have HM := Lib.hid hm
  have hlt := hO.lt
  have hle := hO.le
  obtain ⟨a0, c0, rfl⟩ : ∃ a c, dv = .slice a o.data.length c := hO.own.data.rb.shape
  obtain ⟨kA, kc, rfl⟩ : ∃ a c, kv = .slice a o.keys.length c := by
    obtain ⟨cs, h, -⟩ := hO.own.ex
    exact owns_shape h
  have HO := Lib.hid hO
  have HV := Lib.hid hd
  have HA := Lib.hid hA
  have hpl : pb < w.heap.size := by omega
  clear hO hd hA hf hm
  have hw : Below w.heap.size w (w.alloc (.cells #[.int .i64 12, .int .i64 off, .int .i64 n, .string nm, .slice oa d.length oc] 27)) := (Below.refl _ w).alloc (Nat.le_refl _) _
  have HW := Lib.hid hw
  clear hw
  have hlm := fun b W => limit_any 12 off n nm oa d.length oc b W
  unfold opV at hlm ⊢
  have hP := HO.out.blk
  obtain ⟨x2, f2⟩ := blk_cell (i := 2) hP
  simp at x2
  clear hP
  have hF : Hid (∀ w2, Below (w.heap.size + 1) ((w.setCell ⟨pb, 2, none⟩ (.int .i64 n)).alloc (.cells #[.int .i64 12, .int .i64 off, .int .i64 n, .string nm, .slice oa d.length oc] 27)) w2 →
      IsO base pb w2 (.slice a0 o.data.length c0) (.slice kA o.keys.length kc) ⟨o.data, o.keys, n⟩ ∧ Fr (Chg base pb) w w2) := by
    show ∀ w2, _
    intro w2 hb2
    have hsz : (w.setCell ⟨pb, 2, none⟩ (.int .i64 n)).heap.size = w.heap.size := by simp [World.setCell]
    have hb3 : Below (w.setCell ⟨pb, 2, none⟩ (.int .i64 n)).heap.size (w.setCell ⟨pb, 2, none⟩ (.int .i64 n)) w2 := ((Below.refl _ _).alloc (Nat.le_refl _) _).trans (hb2.mono (by rw [hsz]; omega))
    have hset := set_blk3 (j := 2) (v := .int .i64 n) HO.out.blk
    have h2 : Own8 base (w.setCell ⟨pb, 2, none⟩ (.int .i64 n)) (.slice a0 o.data.length c0) (.slice kA o.keys.length kc) o := HO.out.own.keep ⟨by rw [hsz]; omega, fun b hb _ => Below.heap_setCell _ ⟨pb, 2, none⟩ _ _ (by show b ≠ pb; omega)⟩
    have h3 : IsO base pb (w.setCell ⟨pb, 2, none⟩ (.int .i64 n)) (.slice a0 o.data.length c0) (.slice kA o.keys.length kc) ⟨o.data, o.keys, n⟩ := ⟨hlt, by rw [hsz]; omega, by simpa using hset, h2.data, h2.ex⟩
    exact ⟨h3.ext hb3, Fr.trans (S := Chg base pb) (T := Chg base pb) ((Fr.refl _ w).setCell (a := ⟨pb, 2, none⟩) (fun _ => .inl rfl) _) (Fr.ext hb3) (fun _ _ h => h)⟩
  by_cases h1 : 0 ≤ n
  · by_cases h2 : n ≤ 1099511627776
    · have HX : Hid (changeB o ⟨12, off, n, nm, d⟩ = some ⟨o.data, o.keys, n⟩) := by show changeB _ _ = _; simp [changeB, h1, h2]
      go_enter Tryd.func26, Tryd.ntmps26
      go_wp2_with fail
      refine (hlm _ _).mono ?_
      rintro e w2 ⟨rfl, hb2⟩
      have HH := Lib.hid (hF.out w2 (by simpa [World.setCell] using hb2))
      clear hb2
      go_wp2
      go_ret
      exact ChR.yes HX.out HH.out.1 HH.out.2
    · have HX : Hid (changeB o ⟨12, off, n, nm, d⟩ = none) := by show changeB _ _ = _; simp [changeB, h2]
      go_enter Tryd.func26, Tryd.ntmps26
      go_wp2_with fail
      refine (hlm _ _).mono ?_
      rintro e w2 ⟨rfl, hb2⟩
      have HH := Lib.hid (hF.out w2 (by simpa [World.setCell] using hb2))
      clear hb2
      go_wp2
      go_ret
      exact ChR.no HX.out HH.out.2
  · have HX : Hid (changeB o ⟨12, off, n, nm, d⟩ = none) := by show changeB _ _ = _; simp [changeB, h1]
    go_enter Tryd.func26, Tryd.ntmps26
    go_wp2_with fail
    refine (hlm _ _).mono ?_
    rintro e w2 ⟨rfl, hb2⟩
    have HH := Lib.hid (hF.out w2 (by simpa [World.setCell] using hb2))
    clear hb2
    go_wp2
    go_ret
    exact ChR.no HX.out HH.out.2
end Go.Proofs.YtfefnfgppgohgaaDoor
