/- The walk of Over. -/
import Derived.Test.YtiikkglgoanpbaaWatchS
namespace Go.Proofs.Ytiikkglgoanpbaa
open Go.RowKit Go.Maps Go.WideShapes

theorem MapI.clear {P : Program} {K : TypeId} {w : World} {b : Nat} {l : IV} (h : MapI P K w b l) {t e : TypeId} (ht : P.underlying t = some (.map K e)) (ty : TypeId) :
    ∃ w', (Builtin.clear_ #[t] ty #[.map (some b)]).run P w = .ok (.tuple #[]) w' ∧ w.mapTurned w' b := by
  obtain ⟨⟨es, c, hb, r⟩, hu, ho⟩ := h
  refine ⟨_, ?_, es, c, #[], c, hb, rfl⟩
  simp [Builtin.clear_, run_underlying ht, MapKept.run_getObj_map hb, MapKept.run_setObj_map _ hb, Result.andThen, ChangeMaps.setBlock]

def overB (now : Int) (n : Nt) : Bool := n.miss.isEmpty || (decide (0 ≤ now) && decide (8 ≤ now - n.at_))
def Brd.keep (B : Brd) (ns : List Nt) : Brd := { B with ns := ns }

def outL (now : Int) (ns : List Nt) (k : Nat) : List Int := ((ns.take k).filter (overB now)).map (·.id)
def keepL (now : Int) (ns : List Nt) (k : Nat) : List Nt := ((ns.take k).filter fun n => !overB now n) ++ ns.drop k
theorem keepL_split {now : Int} {ns : List Nt} {k : Nat} (hk : k < ns.length) : keepL now ns k = ((ns.take k).filter fun n => !overB now n) ++ ns[k] :: ns.drop (k + 1) := by
  rw [keepL, List.drop_eq_getElem_cons hk]
theorem keepL_hit {now : Int} {ns : List Nt} {k : Nat} (hk : k < ns.length) (h : overB now ns[k] = true) : keepL now ns (k + 1) = ((ns.take k).filter fun n => !overB now n) ++ ns.drop (k + 1) := by
  rw [keepL, List.take_succ_eq_append_getElem hk, List.filter_append]
  simp [h]
theorem keepL_miss {now : Int} {ns : List Nt} {k : Nat} (hk : k < ns.length) (h : overB now ns[k] = false) : keepL now ns (k + 1) = keepL now ns k := by
  rw [keepL_split hk, keepL, List.take_succ_eq_append_getElem hk, List.filter_append]
  simp [h]
theorem outL_hit {now : Int} {ns : List Nt} {k : Nat} (hk : k < ns.length) (h : overB now ns[k] = true) : outL now ns (k + 1) = outL now ns k ++ [ns[k].id] := by
  rw [outL, List.take_succ_eq_append_getElem hk, List.filter_append]
  simp [h, outL]
theorem outL_miss {now : Int} {ns : List Nt} {k : Nat} (hk : k < ns.length) (h : overB now ns[k] = false) : outL now ns (k + 1) = outL now ns k := by
  rw [outL, List.take_succ_eq_append_getElem hk, List.filter_append]
  simp [h, outL]

theorem findN_of_mem {ns : List Nt} (h : ns.Pairwise (fun m n => m.id < n.id)) {n : Nt} (hn : n ∈ ns) : findN n.id ns = some n := by
  cases hf : findN n.id ns with
  | none =>
    have := List.find?_eq_none.1 hf n hn
    simp at this
  | some m =>
    obtain ⟨h1, h2⟩ := findN_mem hf
    rw [same_id h m h1 n hn h2]

/-- one notice taken off -/
theorem IsB.off {w wa w' : World} {B : Brd} {L1 L2 : List Nt} {n : Nt} (h : IsB w (B.keep (L1 ++ n :: L2))) (ha : w.mapTurned wa n.mb) (hm : MI w' B.nb (delI n.id (ntV (L1 ++ n :: L2)))) (ht : wa.mapTurned w' B.nb) : IsB w' (B.keep (L1 ++ L2)) := by
  have hmem : n ∈ (B.keep (L1 ++ n :: L2)).ns := by simp [Brd.keep]
  obtain ⟨a1, a2, a3, a4, a5⟩ := h.apart hmem
  have hsep := fm_sep _ h.fm
  have hup : (L1 ++ n :: L2).Pairwise (fun m n => m.id < n.id) := ntV_up h.nots.up
  have hbn : B.nb ≠ B.pb := by
    have := h.nodup
    simp only [Brd.fp, List.nodup_cons, List.mem_cons, not_or] at this
    exact fun e => this.1.1 e.symm
  have e1 : ∀ k, k ≠ n.mb → k ≠ B.nb → w'.heap[k]? = w.heap[k]? := fun k h1 h2 => (turned_block ht h2).trans (turned_block ha h1)
  have hdel : delI n.id (ntV (L1 ++ n :: L2)) = ntV (L1 ++ L2) := by
    rw [List.pairwise_append] at hup
    obtain ⟨p1, p2, p3⟩ := hup
    have q1 : ∀ m ∈ L1, m.id ≠ n.id := fun m hm => by have := p3 m hm n (by simp); omega
    have q2 : ∀ m ∈ L2, m.id ≠ n.id := fun m hm => by have := (List.pairwise_cons.1 p2).1 m hm; omega
    have keepAll : ∀ L : List Nt, (∀ m ∈ L, m.id ≠ n.id) → delI n.id (ntV L) = ntV L := by
      intro L hL
      refine List.filter_eq_self.2 ?_
      intro p hp
      obtain ⟨m, hm, rfl⟩ := List.mem_map.1 hp
      simp [hL m hm]
    have k1 := keepAll L1 q1
    have k2 := keepAll L2 q2
    simp only [delI, ntV, List.map_append, List.map_cons, List.filter_append, List.filter_cons] at *
    rw [k1, k2]
    simp
  rw [hdel] at hm
  have hin : ∀ m, m ∈ L1 ++ L2 → m ∈ L1 ++ n :: L2 := fun m hm => by
    simp only [List.mem_append, List.mem_cons] at hm ⊢
    exact hm.imp id .inr
  have hnd := h.nodup
  refine ⟨(e1 _ (Ne.symm a1) (Ne.symm hbn)).trans h.self, fun i hi => (h.watch i hi).block (e1 _ (Ne.symm (a5 i hi).1) (h.wm_ne.2 i hi).2.1), hm, ?_, ?_⟩
  · intro m hm
    have hmm : m ∈ (B.keep (L1 ++ n :: L2)).ns := hin m hm
    obtain ⟨b1, b2, b3, b4, b5⟩ := h.apart hmm
    obtain ⟨s1, s2, s3⟩ := hsep m hmm n hmem
    have hne : m ≠ n := by
      rintro rfl
      have := h.fm
      simp only [Brd.keep, List.flatMap_append, List.flatMap_cons] at this
      rcases List.mem_append.1 hm with hm | hm
      · have d := (List.nodup_append.1 this).2.2 m.blk (List.mem_flatMap.2 ⟨m, hm, by simp⟩) m.blk (by simp)
        exact d rfl
      · have d := (List.nodup_append.1 (List.nodup_append.1 this).2.1).2.2 m.blk (by simp) m.blk (List.mem_flatMap.2 ⟨m, hm, by simp⟩)
        exact d rfl
    exact ⟨(e1 _ s1 b4).trans (h.each m hmm).1, (h.each m hmm).2.block (e1 _ (s2 hne) b2)⟩
  · refine List.Nodup.sublist ?_ hnd
    simp only [Brd.fp, Brd.keep, List.flatMap_append, List.flatMap_cons]
    simp
end Go.Proofs.Ytiikkglgoanpbaa
