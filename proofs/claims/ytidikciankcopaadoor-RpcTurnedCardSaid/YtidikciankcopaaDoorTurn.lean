/- A frame that is cut short, or of which one byte has turned, is none: the plain law. No program is named. -/
import Derived.Test.YtidikciankcopaaDoorFrm
namespace Go.Proofs.YtidikciankcopaaDoor

theorem tailB_set {x : List UInt8} {j : Nat} {c : UInt8} (hj : j < x.length) (hc : c ≠ x[j]) : tailB (x.set j c) ≠ tailB x := by
  intro h
  have h1 := tailB_inj h
  have e1 : x.set j c = x.take j ++ c :: x.drop (j + 1) := by rw [List.set_eq_take_append_cons_drop, if_pos hj]
  have e2 : x = x.take j ++ x[j] :: x.drop (j + 1) := by
    rw [List.getElem_cons_drop hj, List.take_append_drop]
  rw [e1] at h1
  have h2 : Crc.sum (x.take j ++ c :: x.drop (j + 1)) = Crc.sum (x.take j ++ x[j] :: x.drop (j + 1)) := by rw [h1]; exact congrArg Crc.sum e2
  exact hc (Crc.sum_turn h2)
theorem set_ne {x : List UInt8} {j : Nat} {c : UInt8} (hj : j < x.length) (hc : c ≠ x[j]) : x.set j c ≠ x := by
  intro h
  have : (x.set j c)[j]'(by simpa using hj) = x[j] := by simp only [h]
  rw [List.getElem_set_self] at this
  exact hc this
section
variable (k : Nat) (b : List UInt8)
theorem frm_parts : (frm k b).take 4 = hdr k b.length ∧ ((frm k b).drop 4).take 4 = tailB (hdr k b.length) ∧ (frm k b).drop 8 = b ++ tailB b := by
  have t4 : (frm k b).take 4 = hdr k b.length := by
    simp only [frm, List.append_assoc]
    exact List.take_left' (hdr_length k _)
  have d4 : (frm k b).drop 4 = tailB (hdr k b.length) ++ (b ++ tailB b) := by
    simp only [frm, List.append_assoc]
    exact List.drop_left' (hdr_length k _)
  refine ⟨t4, ?_, ?_⟩
  · rw [d4]
    exact List.take_left' (tailB_length _)
  · rw [show (8 : Nat) = 4 + 4 from rfl, ← List.drop_drop, d4]
    exact List.drop_left' (tailB_length _)
theorem frm_n (hb : b.length ≤ 8192) : byteAt (frm k b) 2 * 256 + byteAt (frm k b) 3 = b.length := by
  simp [byteAt, frm, hdr_eq]
  omega
theorem byteAt_take {l : List UInt8} {i j : Nat} (h : i < j) : byteAt (l.take j) i = byteAt l i := by
  unfold byteAt
  rw [List.getD_eq_getElem?_getD, List.getElem?_take, if_pos h, List.getD_eq_getElem?_getD]
theorem byteAt_set {l : List UInt8} {i j : Nat} {c : UInt8} (h : i ≠ j) : byteAt (l.set j c) i = byteAt l i := by
  unfold byteAt
  rw [List.getD_eq_getElem?_getD, List.getElem?_set_ne (Ne.symm h), List.getD_eq_getElem?_getD]
theorem next_short (hb : b.length ≤ 8192) (j : Nat) (hj : j < (frm k b).length) : (nextB ((frm k b).take j)).e = 10 := by
  have hl := frm_length k b
  have hlj : ((frm k b).take j).length = j := by simp; omega
  rcases Nat.lt_or_ge j 8 with g | g
  · unfold nextB
    rw [if_pos (by omega)]
  · obtain ⟨p1, p2, p3⟩ := frm_parts k b
    have q1 : ((frm k b).take j).take 4 = hdr k b.length := by rw [List.take_take, Nat.min_eq_left (by omega), p1]
    have q2 : (((frm k b).take j).drop 4).take 4 = tailB (hdr k b.length) := by
      rw [List.drop_take, List.take_take, Nat.min_eq_left (by omega), p2]
    have h0 : byteAt ((frm k b).take j) 0 = 90 := by rw [byteAt_take (by omega)]; simp [byteAt, frm, hdr_eq]
    have hn : byteAt ((frm k b).take j) 2 * 256 + byteAt ((frm k b).take j) 3 = b.length := by rw [byteAt_take (by omega), byteAt_take (by omega), frm_n k b hb]
    unfold nextB
    rw [hn, h0, hlj, q1, q2, if_neg (by omega), if_neg (by omega), if_neg (by simp), if_neg (by omega), if_pos (by omega)]
theorem next_turned (hb : b.length ≤ 8192) (j : Nat) (hj : j < (frm k b).length) (c : UInt8) (hc : c ≠ (frm k b)[j]) : (nextB ((frm k b).set j c)).e ≠ 0 := by
  have hl := frm_length k b
  obtain ⟨p1, p2, p3⟩ := frm_parts k b
  have hn := frm_n k b hb
  generalize frm k b = f at *
  have hlj : (f.set j c).length = b.length + 12 := by simpa using hl
  unfold nextB
  rw [hlj]
  split
  · decide
  split
  · decide
  rename_i h1 h2
  split
  · decide
  rename_i h3
  rcases Nat.lt_or_ge j 8 with g | g
  · exfalso
    apply h3
    rcases Nat.lt_or_ge j 4 with g4 | g4
    · rw [List.take_set, List.drop_set_of_lt g4, p1, p2]
      intro e
      have hh : j < (hdr k b.length).length := by rw [hdr_length]; exact g4
      have ht := tailB_set hh (c := c) (by
        intro e2
        apply hc
        rw [e2]
        have : (f.take 4)[j]'(by rw [p1]; exact hh) = f[j] := by simp
        rw [← this]
        simp only [p1])
      exact ht e
    · rw [List.take_set_of_le g4, List.drop_set, if_neg (by omega), List.take_set, p1, p2]
      intro e
      have hh : j - 4 < (tailB (hdr k b.length)).length := by rw [tailB_length]; omega
      refine set_ne hh (c := c) (fun e2 => hc ?_) e.symm
      rw [e2]
      have : ((f.drop 4).take 4)[j - 4]'(by rw [p2]; exact hh) = f[j] := by
        simp only [List.getElem_take, List.getElem_drop]
        congr 1
        omega
      rw [← this]
      simp only [p2]
  · rw [byteAt_set (by omega), byteAt_set (by omega), hn]
    rw [if_neg (by omega), if_neg (by omega)]
    rw [if_pos]
    · decide
    have d8 : (f.set j c).drop 8 = (b ++ tailB b).set (j - 8) c := by rw [List.drop_set, if_neg (by omega), p3]
    rw [← List.drop_drop, d8]
    have hfj : f[j] = (b ++ tailB b)[j - 8]'(by simp [tailB_length]; omega) := by
      have : (f.drop 8)[j - 8]'(by simp; omega) = f[j] := by
        simp only [List.getElem_drop]
        congr 1
        omega
      rw [← this]
      simp only [p3]
    rcases Nat.lt_or_ge (j - 8) b.length with gb | gb
    · rw [List.take_set, List.drop_set_of_lt gb, List.take_left' rfl, List.drop_left' rfl, List.take_of_length_le (by simp [tailB_length])]
      refine tailB_set gb (fun e2 => hc ?_)
      rw [hfj, List.getElem_append_left gb]
      exact e2
    · rw [List.take_set_of_le gb, List.drop_set, if_neg (by omega), List.take_left' rfl, List.drop_left' rfl, List.take_of_length_le (by simp [tailB_length])]
      have hh : j - 8 - b.length < (tailB b).length := by rw [tailB_length]; omega
      refine Ne.symm (set_ne hh (fun e2 => hc ?_))
      rw [hfj, List.getElem_append_right gb]
      exact e2
end
end Go.Proofs.YtidikciankcopaaDoor
