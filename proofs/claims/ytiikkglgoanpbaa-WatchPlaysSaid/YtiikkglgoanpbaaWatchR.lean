/- The board's notices: what turns one of them; the walk of Ack. -/
import Derived.Test.YtiikkglgoanpbaaWatchQ
namespace Go.Proofs.Ytiikkglgoanpbaa
open Go.RowKit Go.Maps Go.WideShapes

theorem fm_sep : ∀ (ns : List Nt), (ns.flatMap fun n => [n.blk, n.mb]).Nodup → ∀ m ∈ ns, ∀ n ∈ ns, m.blk ≠ n.mb ∧ (m ≠ n → m.mb ≠ n.mb) ∧ (m ≠ n → m.blk ≠ n.blk) := by
  intro ns
  induction ns with
  | nil => intro _ m hm; simp at hm
  | cons a ns ih =>
    intro h m hm n hn
    simp only [List.flatMap_cons, List.cons_append, List.nil_append, List.nodup_cons, List.mem_cons, List.mem_flatMap, not_or] at h
    obtain ⟨⟨h1, h2⟩, h3, h4⟩ := h
    have k2 : ∀ x ∈ ns, a.blk ≠ x.blk ∧ a.blk ≠ x.mb := fun x hx => ⟨fun e => h2 ⟨x, hx, .inl e⟩, fun e => h2 ⟨x, hx, .inr (.inl e)⟩⟩
    have k3 : ∀ x ∈ ns, a.mb ≠ x.blk ∧ a.mb ≠ x.mb := fun x hx => ⟨fun e => h3 ⟨x, hx, .inl e⟩, fun e => h3 ⟨x, hx, .inr (.inl e)⟩⟩
    rcases List.mem_cons.1 hm with e1 | hm'
    · rcases List.mem_cons.1 hn with e2 | hn'
      · subst e1; subst e2; exact ⟨h1, fun e => absurd rfl e, fun e => absurd rfl e⟩
      · subst e1; exact ⟨(k2 n hn').2, fun _ => (k3 n hn').2, fun _ => (k2 n hn').1⟩
    · rcases List.mem_cons.1 hn with e2 | hn'
      · subst e2; exact ⟨Ne.symm (k3 m hm').1, fun _ => Ne.symm (k3 m hm').2, fun _ => Ne.symm (k2 m hm').1⟩
      · exact ih h4 m hm' n hn'
theorem IsB.fm {w : World} {B : Brd} (h : IsB w B) : (B.ns.flatMap fun n => [n.blk, n.mb]).Nodup := by
  have hn := h.nodup
  simp only [Brd.fp, List.nodup_cons] at hn
  exact hn.2.2.2.2.2.2
theorem IsB.apart {w : World} {B : Brd} (h : IsB w B) {n : Nt} (hn : n ∈ B.ns) : n.mb ≠ B.pb ∧ n.mb ≠ B.nb ∧ n.blk ≠ B.pb ∧ n.blk ≠ B.nb ∧ (∀ i, i < 4 → n.mb ≠ B.wm i ∧ n.blk ≠ B.wm i) := by
  have hh := h.nodup
  simp only [Brd.fp, List.nodup_cons, List.mem_cons, List.mem_flatMap, not_or] at hh
  obtain ⟨⟨a1, a2, a3, a4, a5, a6⟩, ⟨b1, b2, b3, b4, b5⟩, _⟩ := hh
  refine ⟨fun e => a6 ⟨n, hn, .inr (.inl e.symm)⟩, fun e => b5 ⟨n, hn, .inr (.inl e.symm)⟩, fun e => a6 ⟨n, hn, .inl e.symm⟩, fun e => b5 ⟨n, hn, .inl e.symm⟩, fun i hi => ?_⟩
  have := (h.wm_ne.2 i hi).2.2 n hn
  exact ⟨Ne.symm this.2, Ne.symm this.1⟩
theorem ntV_up {ns : List Nt} (h : Up (ntV ns)) : ns.Pairwise (fun m n => m.id < n.id) := by
  have := List.pairwise_map.1 h
  exact this
theorem same_id {ns : List Nt} (h : ns.Pairwise (fun m n => m.id < n.id)) : ∀ m ∈ ns, ∀ n ∈ ns, m.id = n.id → m = n := by
  induction ns with
  | nil => intro m hm; simp at hm
  | cons a ns ih =>
    have hp := List.pairwise_cons.1 h
    intro m hm n hn e
    rcases List.mem_cons.1 hm with e1 | hm'
    · rcases List.mem_cons.1 hn with e2 | hn'
      · subst e1; subst e2; rfl
      · subst e1; have := hp.1 n hn'; omega
    · rcases List.mem_cons.1 hn with e2 | hn'
      · subst e2; have := hp.1 m hm'; omega
      · exact ih hp.2 m hm' n hn' e

def setN (id : Int) (l : List Int) (ns : List Nt) : List Nt := ns.map fun m => if m.id = id then { m with miss := l } else m
def Brd.setN (B : Brd) (id : Int) (l : List Int) : Brd := { B with ns := Ytiikkglgoanpbaa.setN id l B.ns }
theorem setN_fm (id : Int) (l : List Int) (ns : List Nt) : ((setN id l ns).flatMap fun n => [n.blk, n.mb]) = ns.flatMap fun n => [n.blk, n.mb] := by
  induction ns with
  | nil => rfl
  | cons a ns ih =>
    simp only [setN, List.map_cons, List.flatMap_cons] at *
    rw [ih]
    split <;> rfl
theorem setN_ntV (id : Int) (l : List Int) (ns : List Nt) : ntV (setN id l ns) = ntV ns := by
  simp only [ntV, setN, List.map_map]
  refine List.map_congr_left fun n _ => ?_
  simp only [Function.comp]
  split <;> rfl
/-- one notice's missing turn -/
theorem IsB.putN {w w' : World} {B : Brd} (h : IsB w B) {n : Nt} (hn : n ∈ B.ns) {l : List Int} (hm : MI w' n.mb (setV l)) (ht : w.mapTurned w' n.mb) : IsB w' (B.setN n.id l) := by
  obtain ⟨a1, a2, a3, a4, a5⟩ := h.apart hn
  have hsep := fm_sep _ h.fm
  have hid := same_id (ntV_up h.nots.up)
  refine ⟨(turned_block ht (Ne.symm a1)).trans h.self, fun i hi => (h.watch i hi).block (turned_block ht (Ne.symm (a5 i hi).1)), ?_, ?_, ?_⟩
  · show MI w' B.nb (ntV (setN n.id l B.ns))
    rw [setN_ntV]
    exact h.nots.block (turned_block ht (Ne.symm a2))
  · intro x hx
    obtain ⟨m, hmm, rfl⟩ := List.mem_map.1 hx
    have hme := h.each m hmm
    obtain ⟨s1, s2, s3⟩ := hsep m hmm n hn
    by_cases e : m.id = n.id
    · rw [if_pos e]
      obtain rfl := hid m hmm n hn e
      exact ⟨(turned_block ht s1).trans hme.1, hm⟩
    · rw [if_neg e]
      have hne : m ≠ n := fun e' => e (by rw [e'])
      exact ⟨(turned_block ht s1).trans hme.1, hme.2.block (turned_block ht (s2 hne))⟩
  · have := h.nodup
    simpa only [Brd.fp, Brd.setN, setN_fm] using this
theorem mem_fp_mb {B : Brd} {n : Nt} (hn : n ∈ B.ns) : n.mb ∈ B.fp := by
  simp only [Brd.fp, List.mem_cons, List.mem_flatMap]
  exact .inr (.inr (.inr (.inr (.inr (.inr ⟨n, hn, by simp⟩)))))

def Brd.ackB (B : Brd) (id who : Int) : Bool := decide (who ∈ B.missL id)
def Brd.ack (B : Brd) (id who : Int) : Brd := if B.ackB id who then B.setN id (remS who (B.missL id)) else B

set_option maxRecDepth 100000 in
theorem ack_nil (id who : Int) (w : World) : Calls Try.prog 12 #[.pointer none, .int .i64 id, .int .i64 who] w fun e w' => e = .returned (.bool false) ∧ w = w' := by
  go_enter Try.func12, Try.ntmps12
  go_wp2
  go_ret
  exact ⟨rfl, rfl⟩
set_option maxRecDepth 100000 in
set_option maxHeartbeats 1600000 in
theorem ack_any (B : Brd) (id who : Int) (w : World) (hB : IsB w B) (hok : okI id) (hwo : okI who) :
    Calls Try.prog 12 #[.pointer (some ⟨B.pb, 0, none⟩), .int .i64 id, .int .i64 who] w fun e w' => e = .returned (.bool (B.ackB id who)) ∧ IsB w' (B.ack id who) ∧ Fr (· ∈ B.fp) w w' := by
  obtain ⟨c0, c1, c2, c3, c4, c5⟩ := self_cells hB
  have hlook := hB.nots.lookOk Try.underlying3 Try.underlying53 (zero_notice w) hok
  rw [ntV_get] at hlook
  cases hf : findN id B.ns with
  | none =>
    have hm : B.missL id = [] := by unfold Brd.missL; rw [hf]
    have hk : B.ackB id who = false := by unfold Brd.ackB; rw [hm]; simp
    have hack : B.ack id who = B := by unfold Brd.ack; rw [hk]; rfl
    rw [hf] at hlook
    simp only [Option.map_none, Option.getD_none, Option.isSome_none] at hlook
    rw [hk, hack]
    have HB := Lib.hid hB
    clear hB hf hm hk hack
    go_enter Try.func12, Try.ntmps12
    go_wp2
    go_ret
    exact ⟨rfl, HB.out, Fr.refl _ _⟩
  | some n =>
    obtain ⟨hn, hid⟩ := findN_mem hf
    have hm : B.missL id = n.miss := by unfold Brd.missL; rw [hf]
    rw [hf] at hlook
    simp only [Option.map_some, Option.getD_some, Option.isSome_some] at hlook
    obtain ⟨n0, n1⟩ := note_cells hB hn
    have hlook2 := (hB.each n hn).2.look Try.underlying3 Try.underlying54 (zero_bool w) hwo
    rw [setV_get] at hlook2
    by_cases hw : who ∈ n.miss
    · have hk : B.ackB id who = true := by unfold Brd.ackB; rw [hm]; simpa using hw
      rw [if_pos hw, Option.getD_some] at hlook2
      obtain ⟨w', hrun, hmi, ht⟩ := (hB.each n hn).2.del Try.underlying3 Try.underlying54 hwo 0
      rw [setV_rem] at hmi
      have hack : B.ack id who = B.setN n.id (remS who n.miss) := by unfold Brd.ack; rw [hk, hm, ← hid]; rfl
      have hfin : IsB w' (B.setN n.id (remS who n.miss)) ∧ Fr (· ∈ B.fp) w w' := ⟨hB.putN hn hmi ht, (turned_fr ht).weaken fun k _ e => e ▸ mem_fp_mb hn⟩
      rw [hk, hack]
      have HF := Lib.hid hfin
      clear hB hf hm hk hack hmi ht hfin hn hid hw
      go_enter Try.func12, Try.ntmps12
      go_wp2
      go_ret
      exact ⟨rfl, HF.out⟩
    · have hk : B.ackB id who = false := by unfold Brd.ackB; rw [hm]; simpa using hw
      have hack : B.ack id who = B := by unfold Brd.ack; rw [hk]; rfl
      rw [if_neg hw, Option.getD_none] at hlook2
      rw [hk, hack]
      have HB := Lib.hid hB
      clear hB hf hm hk hack hn hid hw
      go_enter Try.func12, Try.ntmps12
      go_wp2
      go_ret
      exact ⟨rfl, HB.out, Fr.refl _ _⟩
end Go.Proofs.Ytiikkglgoanpbaa
