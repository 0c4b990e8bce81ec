/- What an operation does to an image's head and to its objects, plainly. The walks of plan.Mark, plan.Data, and of the reference's: names. The document's example of a plan, plainly. -/
import Derived.Test.YtlekdfajcpmolaaGreatDoorGCD
import Derived.Test.YtlekdfajcpmolaaGreatDoorGCK
import Derived.Test.YtlekdfajcpmolaaGreatDoorGCC
import Derived.Test.YtlekdfajcpmolaaGreatDoorGAB
import Derived.Test.YtlekdfajcpmolaaGreatDoorGCZ
namespace Go.Proofs.YtlekdfajcpmolaaGreatDoor

/-! names -/
def clN (n : Int) : Nat := (min (max n 0) 999).toNat
def dgN (n : Nat) : List UInt8 := if n ≤ 9 then dgs 1 n else if n ≤ 99 then dgs 2 n else dgs 3 n
def dataS (i n : Int) : ByteArray := bsS (100 :: dgs 1 (dg1 i) ++ (46 :: dgN (clN n)))
def markS (n : Int) : ByteArray := bsS (115 :: dgs 3 (clN n))
def keyH : ByteArray := ⟨#[104, 101, 97, 100]⟩

abbrev mayHD (h : HeD) : Bool := mayH okB ObNum h
/-- how many bytes of an object an image may have -/
noncomputable def rmN (u c o ob s : Int) : Int := open Classical in if h : ∃ r, Rm u c o ob s r then h.choose else 0
theorem rmN_is {u c o ob s r : Int} (h : Rm u c o ob s r) : rmN u c o ob s = r := by
  unfold rmN
  have hx : ∃ r, Rm u c o ob s r := ⟨r, h⟩
  rw [dif_pos hx]
  exact Rm.one hx.choose_spec h

/-- a step: the object, what the map says of it then, the op -/
structure StpD where
  n : Int
  st : Int
  op : OpD
def wrSteps (h : HeD) (off : Int) (data : List UInt8) : List StpD := (partsR h.u h.c h.o off data.length).map fun y => ⟨y.ob, 1, ⟨5, y.off, 0, ByteArray.empty, y.at_.map fun k => data.getD k 0⟩⟩
noncomputable def dcSteps (h : HeD) (off : Int) (len : Nat) : List StpD := (partsR h.u h.c h.o off len).filterMap fun y =>
  if mGet h.map y.ob = 0 then none else if (y.at_.length : Int) = rmN h.u h.c h.o y.ob h.size then some ⟨y.ob, 0, ⟨7, 0, 0, ByteArray.empty, []⟩⟩ else some ⟨y.ob, 1, ⟨6, y.off, (y.at_.length : Nat), ByteArray.empty, []⟩⟩
/-- None or Dirty -/
def st01 (x : Int) : Int := if x = 0 then 0 else 1
noncomputable def rzStep (h : HeD) (len : Int) (k : Nat) : Option StpD :=
  if mGet h.map (k : Nat) = 0 ∨ rmN h.u h.c h.o (k : Nat) h.size ≤ rmN h.u h.c h.o (k : Nat) len then none else some ⟨(k : Nat), st01 (rmN h.u h.c h.o (k : Nat) len), ⟨7, 0, rmN h.u h.c h.o (k : Nat) len, ByteArray.empty, []⟩⟩
noncomputable def rzSteps (h : HeD) (len : Int) (n : Nat) : List StpD := (List.range n).filterMap (rzStep h len)
def bkStep (m : List Int) (s : SnD) (k : Nat) : Option StpD :=
  if mGet s.map (k : Nat) = 0 ∧ mGet m (k : Nat) = 0 then none else some ⟨(k : Nat), st01 (mGet s.map (k : Nat)), ⟨14, 0, 0, markS s.id, []⟩⟩
def bkSteps (m : List Int) (s : SnD) (n : Nat) : List StpD := (List.range n).filterMap (bkStep m s)
def setAll (m : List Int) (l : List StpD) : List Int := l.foldl (fun m s => mSet m s.n s.st) m
/-- the transaction of a step -/
def txS (i : Int) (h : HeD) (seq : Int) (s : StpD) : TxD :=
  ⟨dataS i s.n, (⟨4, 0, seq, ByteArray.empty, []⟩ :: (if 0 < newestH h then [⟨11, 0, 0, markS (newestH h), []⟩] else [])) ++ [s.op, ⟨12, 0, seq, ByteArray.empty, []⟩]⟩
def lastT (i : Int) (seq : Int) (b : List UInt8) : TxD := ⟨headS i, [⟨4, 0, seq, ByteArray.empty, []⟩, ⟨9, 0, 0, keyH, b⟩, ⟨12, 0, seq, ByteArray.empty, []⟩]⟩
structure OpR where
  h : HeD
  l : List StpD
  id : Int
  e : Int
def OpR.no (e : Int) : OpR := ⟨HeD.none, [], 0, e⟩
/-- what an operation that may be does -/
noncomputable def opPl (h : HeD) (e : EnD) : OpR :=
  if e.kind = 1 then (if h.size < e.off + e.data.length then OpR.no 180 else ⟨⟨h.u, h.c, h.o, h.size, setAll h.map (wrSteps h e.off e.data), h.snaps, h.last, h.seq⟩, wrSteps h e.off e.data, 0, 0⟩)
  else if e.kind = 2 then (if h.size < e.off + e.len then OpR.no 180 else ⟨⟨h.u, h.c, h.o, h.size, setAll h.map (dcSteps h e.off e.len.toNat), h.snaps, h.last, h.seq⟩, dcSteps h e.off e.len.toNat, 0, 0⟩)
  else if e.kind = 3 then ⟨⟨h.u, h.c, h.o, e.len, setAll h.map (rzSteps h e.len 512), h.snaps, h.last, h.seq⟩, rzSteps h e.len 512, 0, 0⟩
  else if e.kind = 4 then (if 4 ≤ h.snaps.length ∨ 100 ≤ h.last then OpR.no 110 else ⟨snapH h, [], h.last + 1, 0⟩)
  else if findH h.snaps e.snap = h.snaps.length then OpR.no 182
  else if e.kind = 5 then ⟨dropH h (findH h.snaps e.snap), [], 0, 0⟩
  else ⟨⟨h.u, h.c, h.o, (h.snaps.getD (findH h.snaps e.snap) ⟨0, 0, []⟩).size, setAll h.map (bkSteps h.map (h.snaps.getD (findH h.snaps e.snap) ⟨0, 0, []⟩) 512), h.snaps, h.last, h.seq⟩, bkSteps h.map (h.snaps.getD (findH h.snaps e.snap) ⟨0, 0, []⟩) 512, 0, 0⟩
structure DoP where
  h : HeD
  l : List TxD
  id : Int
  e : Int
def DoP.no (e : Int) : DoP := ⟨HeD.none, [], 0, e⟩
/-- the head behind an operation -/
def HeD.atS (h : HeD) (q : Int) : HeD := ⟨h.u, h.c, h.o, h.size, h.map, h.snaps, h.last, q⟩
noncomputable def doH (h : HeD) (e : EnD) : HeD := (opPl h e).h.atS e.seq
noncomputable def doP (i : Int) (h : HeD) (e : EnD) : DoP :=
  if mayHD h = false then DoP.no 60
  else if mayE e = false ∨ e.seq ≤ h.seq then DoP.no 70
  else if (opPl h (clE e)).e ≠ 0 then DoP.no (opPl h (clE e)).e
  else ⟨doH h (clE e), (opPl h (clE e)).l.map (txS i h e.seq) ++ [lastT i e.seq (headB' (doH h (clE e)))], (opPl h (clE e)).id, 0⟩

/-! the head behind an operation may be -/
theorem mSet_getD (m : List Int) (i : Nat) (s : Int) (hi : i < 512) (h0 : 0 ≤ s) (h2 : s ≤ 2) (k : Nat) : (mSet m (i : Nat) s).getD k 0 = if k = i then s else mGet m (k : Nat) := by
  unfold mSet
  rw [if_pos (by omega), strip_getD]
  by_cases hk : k < max (min m.length 512) (i + 1)
  · rw [List.getD_eq_getElem?_getD, List.getElem?_map, List.getElem?_range (by simpa using hk)]
    simp only [Option.map_some, Option.getD_some]
    by_cases e : k = i
    · rw [if_pos (by omega), if_pos e]
    · rw [if_neg (by omega), if_neg e]
  · rw [getD_out _ _ (by simp; omega), if_neg (by omega), mGet_out _ _ (by omega)]
theorem mSet_may (m : List Int) (i s : Int) : mMay (mSet m i s) = true := by
  unfold mSet
  split
  · rename_i h
    refine strip_may (fun x hx => ?_) (by simp; omega)
    obtain ⟨k, -, rfl⟩ := List.mem_map.1 hx
    split
    · omega
    · exact mGet_ways m _
  · exact row_may m
theorem may_len_le {m : List Int} (h : mMay m = true) {K : Nat} (hz : ∀ k, K ≤ k → k < 512 → m.getD k 0 = 0) : m.length ≤ K := by
  obtain ⟨-, h2, h3⟩ := may_parts h
  rcases h3 with rfl | h3
  · exact Nat.zero_le _
  · rcases Nat.lt_or_ge K m.length with g | g
    · exact absurd (hz (m.length - 1) (by omega) (by omega)) h3
    · exact g
/-- steps on objects of an image -/
def StpOk (K : Nat) (l : List StpD) : Prop := ∀ s ∈ l, 0 ≤ s.n ∧ s.n < 512 ∧ 0 ≤ s.st ∧ s.st ≤ 2 ∧ (s.st ≠ 0 → s.n < K)
theorem setAll_may : ∀ (l : List StpD) (m : List Int), mMay m = true → mMay (setAll m l) = true
  | [], _, h => h
  | _ :: l, m, _ => setAll_may l _ (mSet_may m _ _)
theorem setAll_low (K : Nat) : ∀ (l : List StpD) (m : List Int), mMay m = true → StpOk K l → ∀ k : Nat, K ≤ k → (m.getD k 0 = 0 ∨ ∃ s ∈ l, s.n = (k : Nat)) → (setAll m l).getD k 0 = 0
  | [], m, _, _, k, _, h => by
    rcases h with h | ⟨s, hs, -⟩
    · exact h
    · cases hs
  | s :: l, m, hm, hl, k, hk, h => by
    obtain ⟨s0, s1, s2, s3, s4⟩ := hl s (by simp)
    refine setAll_low K l _ (mSet_may m _ _) (fun x hx => hl x (by simp [hx])) k hk ?_
    obtain ⟨i, hi⟩ : ∃ i : Nat, s.n = (i : Nat) := ⟨s.n.toNat, by omega⟩
    rw [hi, mSet_getD m i s.st (by omega) s2 s3 k]
    by_cases e : k = i
    · left
      rw [if_pos e]
      rcases Int.lt_or_le 0 s.st with g | g
      · have := s4 (by omega)
        omega
      · omega
    · rw [if_neg e, mGet_may hm]
      rcases h with h | ⟨x, hx, e2⟩
      · exact .inl h
      · rcases List.mem_cons.1 hx with rfl | hx
        · omega
        · exact .inr ⟨x, hx, e2⟩
theorem setAll_len {K : Nat} {l : List StpD} {m : List Int} (hm : mMay m = true) (hl : StpOk K l) (h : ∀ k : Nat, K ≤ k → k < 512 → (m.getD k 0 = 0 ∨ ∃ s ∈ l, s.n = (k : Nat))) : (setAll m l).length ≤ K :=
  may_len_le (setAll_may l m hm) fun k h1 h2 => setAll_low K l m hm hl k h1 (h k h1 h2)
theorem ObNum_is {u c o s : Int} (hok : okB u c o = true) (h0 : 0 ≤ s) (h1 : s ≤ 512) : ObNum u c o s = obF u c o s := by
  unfold ObNum
  rw [if_pos]
  simp [hok, h0, h1]
theorem ObNum_nat {u c o s : Int} (hok : okB u c o = true) (h0 : 0 ≤ s) (h1 : s ≤ 512) : ObNum u c o s = ((ObNum u c o s).toNat : Nat) := by
  rw [ObNum_is hok h0 h1]
  have := obF_nonneg (lay_of hok) s.toNat
  rw [show ((s.toNat : Nat) : Int) = s by omega] at this
  omega
theorem plO_lt {u c o s : Int} (hok : okB u c o = true) (h1 : s ≤ 512) {i : Int} (hi : 0 ≤ i) (hs : i < s) : plO u c o i < ObNum u c o s := by
  rw [ObNum_is hok (by omega) h1]
  have := (obF_max (lay_of hok) s.toNat).1 i.toNat (by omega)
  rwa [show ((s.toNat : Nat) : Int) = s by omega, show ((i.toNat : Nat) : Int) = i by omega] at this
theorem partsR_mem {u c o off : Int} {n : Nat} {y : PrD} (h : y ∈ partsR u c o off n) : 0 ≤ y.ob ∧ y.ob < 512 ∧ (∃ k : Nat, k < n ∧ plO u c o (off + (k : Nat)) = y.ob) ∧ y = prOf u c o off n y.ob := by
  unfold partsR at h
  obtain ⟨k, hk, rfl⟩ := List.mem_map.1 h
  rw [List.mem_filter, List.mem_range] at hk
  obtain ⟨h1, h2⟩ := hk
  have h3 : atP u c o off n (k : Nat) ≠ [] := by simpa using h2
  obtain ⟨t, l, e⟩ := List.exists_cons_of_ne_nil h3
  have hm : t ∈ atP u c o off n (k : Nat) := by rw [e]; simp
  obtain ⟨a, b⟩ := (atP_mem n (k : Nat) t).1 hm
  exact ⟨by show (0 : Int) ≤ (k : Nat); omega, by show ((k : Nat) : Int) < 512; omega, ⟨t, a, b⟩, rfl⟩
theorem parts_lt {h : HeD} (hok : okB h.u h.c h.o = true) (hs : h.size ≤ 512) {off : Int} {n : Nat} (h0 : 0 ≤ off) (h1 : off + (n : Nat) ≤ h.size) {y : PrD} (hy : y ∈ partsR h.u h.c h.o off n) : y.ob < ObNum h.u h.c h.o h.size := by
  obtain ⟨-, -, ⟨k, hk, e⟩, -⟩ := partsR_mem hy
  rw [← e]
  exact plO_lt hok hs (by omega) (by omega)
theorem rm_parts {u c o : Int} (hok : okB u c o = true) {ob : Int} (h0 : 0 ≤ ob) (h1 : ob ≤ 1099511627776) {s : Int} (s0 : 0 ≤ s) (s1 : s ≤ 512) : Parts u c o ob s o (rmN u c o ob s) := by
  have hex : ∀ s : Nat, ∃ r, Parts u c o ob s o r := by
    intro s
    induction s with
    | zero => exact ⟨0, parts_none (lay_of hok) h0⟩
    | succ s ih =>
      obtain ⟨r, hr⟩ := ih
      rw [show ((s + 1 : Nat) : Int) = (s : Int) + 1 by omega]
      by_cases h : plO u c o s = ob
      · exact ⟨_, parts_hit (lay_of hok) (by omega) h0 hr h⟩
      · exact ⟨_, parts_miss (lay_of hok) h0 hr h⟩
  obtain ⟨r, hr⟩ := hex s.toNat
  rw [show ((s.toNat : Nat) : Int) = s by omega] at hr
  rw [rmN_is (Rm.yes hok h0 h1 s0 s1 hr)]
  exact hr
theorem rm_pos {u c o : Int} (hok : okB u c o = true) {ob : Int} (h0 : 0 ≤ ob) (h1 : ob ≤ 1099511627776) {s : Int} (s0 : 0 ≤ s) (s1 : s ≤ 512) : 0 < rmN u c o ob s ↔ ob < ObNum u c o s := by
  have h := rm_parts hok h0 h1 s0 s1
  rw [ObNum_is hok s0 s1]
  obtain ⟨n, rfl⟩ : ∃ n : Nat, s = (n : Nat) := ⟨s.toNat, by omega⟩
  exact room_objs (lay_of hok) h0 h
theorem rm_range {u c o : Int} (hok : okB u c o = true) {ob : Int} (h0 : 0 ≤ ob) (h1 : ob ≤ 1099511627776) {s : Int} (s0 : 0 ≤ s) (s1 : s ≤ 512) : 0 ≤ rmN u c o ob s ∧ rmN u c o ob s ≤ o := by
  have h := rm_parts hok h0 h1 s0 s1
  exact ⟨h.1, h.2.1⟩
structure MayQ' (h : HeD) : Prop where
  mk ::
  ok : okB h.u h.c h.o = true
  sz : sizedH ObNum h.u h.c h.o h.size h.map = true
  few : h.snaps.length ≤ 4
  last : 0 ≤ h.last ∧ h.last ≤ 100
  seq : 0 ≤ h.seq ∧ h.seq ≤ 1099511627776
  snaps : snapsH ObNum h.u h.c h.o h.last 0 h.snaps = true
theorem mayH_iff (h : HeD) : mayHD h = true ↔ MayQ' h := by
  unfold mayHD mayH
  simp only [Bool.and_eq_true, decide_eq_true_eq]
  exact ⟨fun ⟨⟨⟨⟨⟨a, b⟩, c⟩, d⟩, e⟩, f⟩ => ⟨a, b, c, d, e, f⟩, fun ⟨a, b, c, d, e, f⟩ => ⟨⟨⟨⟨⟨a, b⟩, c⟩, d⟩, e⟩, f⟩⟩
theorem sized_of {u c o size : Int} {m : List Int} (h0 : 0 ≤ size) (h1 : size ≤ 512) (h2 : mMay m = true) (h3 : (m.length : Int) ≤ ObNum u c o size) : sizedH ObNum u c o size m = true := by
  unfold sizedH
  simp [h0, h1, h2, h3]
theorem sized_set {u c o s : Int} (hok : okB u c o = true) (s0 : 0 ≤ s) (s1 : s ≤ 512) {m : List Int} {l : List StpD} (hm : mMay m = true) (hl : StpOk (ObNum u c o s).toNat l) (h : ∀ k : Nat, ObNum u c o s ≤ (k : Nat) → k < 512 → (m.getD k 0 = 0 ∨ ∃ x ∈ l, x.n = (k : Nat))) : sizedH ObNum u c o s (setAll m l) = true := by
  have e := ObNum_nat hok s0 s1
  refine sized_of s0 s1 (setAll_may l m hm) ?_
  have := setAll_len hm hl fun k a b => h k (by omega) b
  omega
theorem snaps_more {u c o last last' : Int} (hl : last ≤ last') : ∀ (l : List SnD) (a : Int), snapsH ObNum u c o last a l = true → snapsH ObNum u c o last' a l = true
  | [], _, _ => rfl
  | s :: l, a, h => by
    unfold snapsH at h ⊢
    simp only [Bool.and_eq_true, decide_eq_true_eq] at h ⊢
    exact ⟨⟨⟨h.1.1.1, by omega⟩, h.1.2⟩, snaps_more hl l s.id h.2⟩
theorem snaps_snoc {u c o last : Int} {s : SnD} (h2 : s.id ≤ last) (h3 : sizedH ObNum u c o s.size s.map = true) : ∀ (l : List SnD) (a : Int), a < s.id → (∀ x ∈ l, x.id < s.id) → snapsH ObNum u c o last a l = true → snapsH ObNum u c o last a (l ++ [s]) = true
  | [], a, ha, _, _ => by
    show (decide (a < s.id) && decide (s.id ≤ last) && sizedH ObNum u c o s.size s.map && true) = true
    simp [ha, h2, h3]
  | x :: l, a, ha, hx, h => by
    rw [List.cons_append]
    unfold snapsH at h ⊢
    simp only [Bool.and_eq_true, decide_eq_true_eq] at h ⊢
    exact ⟨h.1, snaps_snoc h2 h3 l x.id (hx x (by simp)) (fun y hy => hx y (by simp [hy])) h.2⟩
theorem snaps_erase {u c o last : Int} : ∀ (l : List SnD) (a : Int) (k : Nat), snapsH ObNum u c o last a l = true → snapsH ObNum u c o last a (l.eraseIdx k) = true
  | [], _, k, _ => by cases k <;> rfl
  | s :: l, a, 0, h => by
    unfold snapsH at h
    simp only [Bool.and_eq_true, decide_eq_true_eq] at h
    show snapsH ObNum u c o last a l = true
    cases l with
    | nil => rfl
    | cons x l =>
      have h2 := h.2
      unfold snapsH at h2 ⊢
      simp only [Bool.and_eq_true, decide_eq_true_eq] at h2 ⊢
      exact ⟨⟨⟨by omega, h2.1.1.2⟩, h2.1.2⟩, h2.2⟩
  | s :: l, a, k + 1, h => by
    rw [List.eraseIdx_cons_succ]
    unfold snapsH at h ⊢
    simp only [Bool.and_eq_true, decide_eq_true_eq] at h ⊢
    exact ⟨h.1, snaps_erase l s.id k h.2⟩
theorem snaps_set {u c o last : Int} {s : SnD} : ∀ (l : List SnD) (a : Int) (k : Nat) (x : SnD), l[k]? = some x → s.id = x.id → sizedH ObNum u c o s.size s.map = true → snapsH ObNum u c o last a l = true → snapsH ObNum u c o last a (l.set k s) = true
  | [], _, _, _, h, _, _, _ => by simp at h
  | y :: l, a, 0, x, h, e, hz, hs => by
    simp at h
    subst h
    rw [List.set_cons_zero]
    unfold snapsH at hs ⊢
    simp only [Bool.and_eq_true, decide_eq_true_eq] at hs ⊢
    rw [e]
    exact ⟨⟨hs.1.1, hz⟩, hs.2⟩
  | y :: l, a, k + 1, x, h, e, hz, hs => by
    rw [List.set_cons_succ]
    unfold snapsH at hs ⊢
    simp only [Bool.and_eq_true, decide_eq_true_eq] at hs ⊢
    exact ⟨hs.1, snaps_set l y.id k x (by simpa using h) e hz hs.2⟩
theorem snaps_sized {u c o last : Int} : ∀ (l : List SnD) (a : Int), snapsH ObNum u c o last a l = true → ∀ s ∈ l, s.id ≤ last ∧ sizedH ObNum u c o s.size s.map = true
  | [], _, _, s, hs => by cases hs
  | x :: l, a, h, s, hs => by
    unfold snapsH at h
    simp only [Bool.and_eq_true, decide_eq_true_eq] at h
    rcases List.mem_cons.1 hs with rfl | hs
    · exact ⟨h.1.1.2, h.1.2⟩
    · exact snaps_sized l x.id h.2 s hs
theorem mFresh_may {m : List Int} (h : mMay m = true) : mMay (mFresh m) = true ∧ (mFresh m).length = m.length := by
  unfold mFresh
  rw [may_row h]
  refine ⟨?_, by simp⟩
  obtain ⟨h1, h2, h3⟩ := may_parts h
  unfold mMay
  simp only [Bool.and_eq_true, List.all_eq_true, decide_eq_true_eq, Bool.or_eq_true, List.isEmpty_iff]
  refine ⟨⟨fun s hs => ?_, by simpa using h2⟩, ?_⟩
  · obtain ⟨x, hx, rfl⟩ := List.mem_map.1 hs
    have := h1 x hx
    split <;> omega
  · rcases h3 with rfl | h3
    · exact .inl rfl
    · right
      rw [List.length_map]
      rw [List.getD_eq_getElem?_getD] at h3 ⊢
      rw [List.getElem?_map]
      cases hg : m[m.length - 1]? with
      | none => rw [hg] at h3; exact absurd rfl h3
      | some x =>
        rw [hg] at h3
        simp only [Option.map_some, Option.getD_some] at h3 ⊢
        split
        · decide
        · exact h3
theorem mMerge_may (g : List Int) {m : List Int} (h : mMay m = true) : mMay (mMerge g m) = true ∧ (mMerge g m).length = m.length := by
  unfold mMerge
  rw [may_row h]
  refine ⟨?_, by simp⟩
  obtain ⟨h1, h2, h3⟩ := may_parts h
  unfold mMay
  simp only [Bool.and_eq_true, List.all_eq_true, decide_eq_true_eq, Bool.or_eq_true, List.isEmpty_iff]
  refine ⟨⟨fun s hs => ?_, by simpa using h2⟩, ?_⟩
  · obtain ⟨i, hi, rfl⟩ := List.mem_mapIdx.1 hs
    have := h1 _ (List.getElem_mem hi)
    split <;> omega
  · rcases h3 with rfl | h3
    · exact .inl rfl
    · right
      rw [List.length_mapIdx]
      rw [List.getD_eq_getElem?_getD] at h3 ⊢
      rw [List.getElem?_mapIdx]
      cases hg : m[m.length - 1]? with
      | none => rw [hg] at h3; exact absurd rfl h3
      | some x =>
        rw [hg] at h3
        simp only [Option.map_some, Option.getD_some] at h3 ⊢
        split
        · decide
        · exact h3
theorem getD_mem_of {α : Type} {l : List α} {k : Nat} {d : α} (h : k < l.length) : l.getD k d ∈ l ∧ l[k]? = some (l.getD k d) := by
  rw [List.getD_eq_getElem?_getD, List.getElem?_eq_getElem h, Option.getD_some]
  exact ⟨List.getElem_mem h, rfl⟩
theorem findH_le (l : List SnD) (id : Int) : findH l id ≤ l.length := List.findIdx_le_length
theorem may_at {u c o size : Int} {map : List Int} {snaps : List SnD} {last seq : Int} (q : Int) (h1 : okB u c o = true) (h2 : sizedH ObNum u c o size map = true) (h3 : snaps.length ≤ 4) (h4 : 0 ≤ last ∧ last ≤ 100) (h5 : 0 ≤ q ∧ q ≤ 1099511627776) (h6 : snapsH ObNum u c o last 0 snaps = true) : mayHD (HeD.atS ⟨u, c, o, size, map, snaps, last, seq⟩ q) = true :=
  (mayH_iff _).2 ⟨h1, h2, h3, h4, h5, h6⟩
theorem wr_may {h : HeD} {e : EnD} (M : MayQ' h) (k1 : e.kind = 1) (he : mayE e = true) (hz : ¬ h.size < e.off + e.data.length) : sizedH ObNum h.u h.c h.o h.size (setAll h.map (wrSteps h e.off e.data)) = true := by
  obtain ⟨-, -, -, kk1, -⟩ := kind_ways he
  obtain ⟨z0, z1, z2, z3⟩ := sized_parts M.sz
  have := kk1 k1
  refine sized_set M.ok z0 z1 z2 (fun s hs => ?_) fun k hk _ => .inl (getD_out _ _ (by omega))
  obtain ⟨y, hy, rfl⟩ := List.mem_map.1 hs
  have a := partsR_mem hy
  have b := parts_lt M.ok z1 (by omega) (by omega) hy
  have d := ObNum_nat M.ok z0 z1
  exact ⟨a.1, a.2.1, (by decide : (0 : Int) ≤ 1), (by decide : (1 : Int) ≤ 2), fun _ => (by omega : y.ob < _)⟩
theorem dc_may {h : HeD} {e : EnD} (M : MayQ' h) (k1 : e.kind = 2) (he : mayE e = true) (hz : ¬ h.size < e.off + e.len) : sizedH ObNum h.u h.c h.o h.size (setAll h.map (dcSteps h e.off e.len.toNat)) = true := by
  obtain ⟨-, -, -, -, kk1, -⟩ := kind_ways he
  obtain ⟨z0, z1, z2, z3⟩ := sized_parts M.sz
  have := kk1 k1
  refine sized_set M.ok z0 z1 z2 (fun s hs => ?_) fun k hk _ => .inl (getD_out _ _ (by omega))
  obtain ⟨y, hy, e⟩ := List.mem_filterMap.1 hs
  have a := partsR_mem hy
  have b := parts_lt M.ok z1 (by omega) (by omega) hy
  have d := ObNum_nat M.ok z0 z1
  split at e
  · cases e
  · split at e
    · cases e
      exact ⟨a.1, a.2.1, (by decide : (0 : Int) ≤ 0), (by decide : (0 : Int) ≤ 2), fun _ => (by omega : y.ob < _)⟩
    · cases e
      exact ⟨a.1, a.2.1, (by decide : (0 : Int) ≤ 1), (by decide : (1 : Int) ≤ 2), fun _ => (by omega : y.ob < _)⟩
theorem if01 (x : Int) : 0 ≤ st01 x ∧ st01 x ≤ 2 ∧ (st01 x ≠ 0 → x ≠ 0) := by
  unfold st01
  split <;> simp_all
theorem rz_may {h : HeD} {len : Int} (M : MayQ' h) (l0 : 0 ≤ len) (l1 : len ≤ 512) : sizedH ObNum h.u h.c h.o len (setAll h.map (rzSteps h len 512)) = true := by
  obtain ⟨z0, z1, z2, z3⟩ := sized_parts M.sz
  have d := ObNum_nat M.ok l0 l1
  refine sized_set M.ok l0 l1 z2 (fun s hs => ?_) fun k hk hk5 => ?_
  · obtain ⟨k, hk, e⟩ := List.mem_filterMap.1 hs
    rw [List.mem_range] at hk
    have rr := rm_range M.ok (ob := (k : Nat)) (by omega) (by omega) l0 l1
    have rp := rm_pos M.ok (ob := (k : Nat)) (by omega) (by omega) l0 l1
    have hf := if01 (rmN h.u h.c h.o (k : Nat) len)
    unfold rzStep at e
    split at e
    · cases e
    · cases e
      refine ⟨(by omega : (0 : Int) ≤ (k : Nat)), (by omega : ((k : Nat) : Int) < 512), hf.1, hf.2.1, fun hne => ?_⟩
      have h1 := hf.2.2 hne
      have := rp.1 (by omega)
      show ((k : Nat) : Int) < _
      omega
  · by_cases hg : h.map.getD k 0 = 0
    · exact .inl hg
    · right
      have hkl : k < h.map.length := by
        rcases Nat.lt_or_ge k h.map.length with g | g
        · exact g
        · exact absurd (getD_out _ _ g) hg
      have rp := (rm_pos M.ok (ob := (k : Nat)) (by omega) (by omega) z0 z1).2 (by omega)
      have rq := rm_pos M.ok (ob := (k : Nat)) (by omega) (by omega) l0 l1
      have rr := rm_range M.ok (ob := (k : Nat)) (by omega) (by omega) l0 l1
      have r0 : rmN h.u h.c h.o (k : Nat) len = 0 := by
        rcases Int.lt_or_le 0 (rmN h.u h.c h.o (k : Nat) len) with g | g
        · have := rq.1 g; omega
        · omega
      refine ⟨⟨(k : Nat), st01 (rmN h.u h.c h.o (k : Nat) len), ⟨7, 0, rmN h.u h.c h.o (k : Nat) len, ByteArray.empty, []⟩⟩, List.mem_filterMap.2 ⟨k, List.mem_range.2 hk5, ?_⟩, rfl⟩
      unfold rzStep
      rw [if_neg]
      rw [mGet_may z2]
      omega
theorem bk_some {m : List Int} {s : SnD} {k : Nat} {x : StpD} (e : bkStep m s k = some x) : x.n = (k : Nat) ∧ x.st = st01 (mGet s.map (k : Nat)) := by
  unfold bkStep at e
  by_cases h : mGet s.map (k : Nat) = 0 ∧ mGet m (k : Nat) = 0
  · rw [if_pos h] at e
    exact nomatch e
  · rw [if_neg h] at e
    have e2 := Option.some.inj e
    rw [← e2]
    exact ⟨by dsimp only, by dsimp only⟩
theorem bk_may {h : HeD} {s : SnD} (M : MayQ' h) (hz : sizedH ObNum h.u h.c h.o s.size s.map = true) : sizedH ObNum h.u h.c h.o s.size (setAll h.map (bkSteps h.map s 512)) = true := by
  obtain ⟨z0, z1, z2, z3⟩ := sized_parts M.sz
  obtain ⟨s0, s1, s2, s3⟩ := sized_parts hz
  have d := ObNum_nat M.ok s0 s1
  refine sized_set M.ok s0 s1 z2 (fun x hx => ?_) fun k hk hk5 => ?_
  · obtain ⟨k, hk, e⟩ := List.mem_filterMap.1 hx
    rw [List.mem_range] at hk
    have hf := if01 (mGet s.map (k : Nat))
    obtain ⟨e1, e2⟩ := bk_some e
    rw [e1, e2]
    refine ⟨by omega, by omega, hf.1, hf.2.1, fun hne => ?_⟩
    have h1 := hf.2.2 hne
    rw [mGet_may s2] at h1
    rcases Nat.lt_or_ge k s.map.length with g | g
    · omega
    · exact absurd (getD_out _ _ g) h1
  · by_cases hg2 : h.map.getD k 0 = 0
    · exact .inl hg2
    · right
      refine ⟨⟨(k : Nat), st01 (mGet s.map (k : Nat)), ⟨14, 0, 0, markS s.id, []⟩⟩, List.mem_filterMap.2 ⟨k, List.mem_range.2 hk5, ?_⟩, rfl⟩
      unfold bkStep
      rw [if_neg]
      rw [mGet_may z2]
      omega
theorem snap_may {h : HeD} {q : Int} (M : MayQ' h) (hz : ¬ (4 ≤ h.snaps.length ∨ 100 ≤ h.last)) (hq : 0 ≤ q ∧ q ≤ 1099511627776) : mayHD ((snapH h).atS q) = true := by
  obtain ⟨z0, z1, z2, z3⟩ := sized_parts M.sz
  have hf := mFresh_may z2
  have hlast := M.last
  refine may_at q M.ok (sized_of z0 z1 hf.1 (by rw [hf.2]; exact z3)) ?_ (by omega) hq ?_
  · rw [List.length_append, List.length_singleton]; omega
  · refine snaps_snoc (s := ⟨h.last + 1, h.size, h.map⟩) (Int.le_refl _) M.sz _ _ (by show (0 : Int) < h.last + 1; omega) (fun x hx => ?_) (snaps_more (show h.last ≤ h.last + 1 by omega) _ _ M.snaps)
    have := (snaps_sized _ _ M.snaps x hx).1
    show x.id < h.last + 1
    omega
theorem drop_may {h : HeD} {q : Int} {k : Nat} (M : MayQ' h) (hk : k < h.snaps.length) (hq : 0 ≤ q ∧ q ≤ 1099511627776) : mayHD ((dropH h k).atS q) = true := by
  obtain ⟨z0, z1, z2, z3⟩ := sized_parts M.sz
  unfold dropH
  simp only
  have hel : (h.snaps.eraseIdx k).length = h.snaps.length - 1 := by rw [List.length_eraseIdx, if_pos hk]
  have hse := snaps_erase h.snaps 0 k M.snaps
  have hfew := M.few
  split
  · rename_i hq2
    have hg := getD_mem_of (d := (⟨0, 0, []⟩ : SnD)) hq2
    have hz := (snaps_sized _ _ hse _ hg.1).2
    have hzp := sized_parts hz
    have hm := mMerge_may (h.snaps.getD k ⟨0, 0, []⟩).map hzp.2.2.1
    refine may_at q M.ok M.sz (by rw [List.length_set]; omega) M.last hq ?_
    refine snaps_set _ _ k _ hg.2 rfl ?_ hse
    exact sized_of hzp.1 hzp.2.1 hm.1 (by rw [hm.2]; exact hzp.2.2.2)
  · have hm := mMerge_may (h.snaps.getD k ⟨0, 0, []⟩).map z2
    exact may_at q M.ok (sized_of z0 z1 hm.1 (by rw [hm.2]; exact z3)) (by omega) M.last hq hse
theorem opPl_may {h : HeD} {e : EnD} (hh : mayHD h = true) (he : mayE e = true) (h0 : (opPl h e).e = 0) : mayHD (doH h e) = true := by
  have M := (mayH_iff h).1 hh
  obtain ⟨kw, k1, -, kk1, kk2, kk3, kk5⟩ := kind_ways he
  have hq : 0 ≤ e.seq ∧ e.seq ≤ 1099511627776 := ⟨by omega, k1.2⟩
  unfold doH
  unfold opPl at h0 ⊢
  by_cases k : e.kind = 1
  · rw [if_pos k] at h0 ⊢
    by_cases hz : h.size < e.off + e.data.length
    · rw [if_pos hz] at h0; cases h0
    · rw [if_neg hz]
      exact may_at e.seq M.ok (wr_may M k he hz) M.few M.last hq M.snaps
  rw [if_neg k] at h0 ⊢
  by_cases k : e.kind = 2
  · rw [if_pos k] at h0 ⊢
    by_cases hz : h.size < e.off + e.len
    · rw [if_pos hz] at h0; cases h0
    · rw [if_neg hz]
      exact may_at e.seq M.ok (dc_may M k he hz) M.few M.last hq M.snaps
  rw [if_neg k] at h0 ⊢
  by_cases k : e.kind = 3
  · rw [if_pos k]
    have hl := kk3 k
    exact may_at e.seq M.ok (rz_may M hl.1 hl.2) M.few M.last hq M.snaps
  rw [if_neg k] at h0 ⊢
  by_cases k : e.kind = 4
  · rw [if_pos k] at h0 ⊢
    by_cases hz : 4 ≤ h.snaps.length ∨ 100 ≤ h.last
    · rw [if_pos hz] at h0; cases h0
    · rw [if_neg hz]
      exact snap_may M hz hq
  rw [if_neg k] at h0 ⊢
  by_cases hk : findH h.snaps e.snap = h.snaps.length
  · rw [if_pos hk] at h0; cases h0
  rw [if_neg hk]
  have hkl : findH h.snaps e.snap < h.snaps.length := by have := findH_le h.snaps e.snap; omega
  by_cases k : e.kind = 5
  · rw [if_pos k]
    exact drop_may M hkl hq
  · rw [if_neg k]
    have hg := getD_mem_of (d := (⟨0, 0, []⟩ : SnD)) hkl
    have hz := (snaps_sized _ _ M.snaps _ hg.1).2
    exact may_at e.seq M.ok (bk_may M hz) M.few M.last hq M.snaps
end Go.Proofs.YtlekdfajcpmolaaGreatDoor
namespace Go.Proofs.YtlekdfajcpmolaaGreatDoor
open Go.RowKit Go.WideShapes Go.Sort

theorem dec_dgN (d : Nat) (h : d ≤ 999) : Lib.decDigits d = dgN d := by
  unfold dgN
  by_cases h1 : d ≤ 9
  · rw [if_pos h1, dec1 h1]
  · rw [if_neg h1]
    by_cases h2 : d ≤ 99
    · rw [if_pos h2]
      have e := dgs_dec 1 d (by omega)
      have hl := dec_len_le 1 d (by omega)
      have : 2 ≤ (Lib.decDigits d).length := by
        rw [Lib.decDigits, dif_neg (by omega)]
        have := dec_pos (d / 10)
        simp
        omega
      rw [show 1 + 1 - (Lib.decDigits d).length = 0 by omega] at e
      simpa using e
    · rw [if_neg h2]
      have e := dgs_dec 2 d (by omega)
      have hl := dec_len_le 2 d (by omega)
      have : 3 ≤ (Lib.decDigits d).length := by
        rw [Lib.decDigits, dif_neg (by omega), Lib.decDigits, dif_neg (by omega)]
        have := dec_pos (d / 10 / 10)
        simp
        omega
      rw [show 2 + 1 - (Lib.decDigits d).length = 0 by omega] at e
      simpa using e
theorem dgN_len (d : Nat) : (dgN d).length ≤ 3 := by
  unfold dgN
  split
  · rw [dgs_len]; omega
  · split
    · rw [dgs_len]; omega
    · rw [dgs_len]; omega
set_option maxRecDepth 100000 in
set_option maxHeartbeats 1600000 in
theorem pmark_any (i : Int) (w : World) (hL : LayW w) : Calls Tryz.prog 23 #[.int .i64 i] w fun e w' => e = .returned (.string (markS i)) ∧ Below w.heap.size w w' := by
  obtain ⟨d, hd⟩ : ∃ d : Nat, min (max i 0) 999 = (d : Int) := ⟨clN i, by unfold clN; omega⟩
  have hd9 : d ≤ 999 := by omega
  have HD : Hid (clN i = d) := Lib.hid (by unfold clN; omega)
  have hl9 : (Lib.decDigits d).length ≤ 3 := dec_len_le 2 d (by omega)
  have hl1 := dec_pos d
  have hdd := dgs_dec 2 d (by omega)
  obtain ⟨c, hc⟩ : ∃ c, c = 3 - (Lib.decDigits d).length := ⟨_, rfl⟩
  have hsz : (⟨(Lib.decDigits d).toArray⟩ : ByteArray).size = (Lib.decDigits d).length := size_mk _
  have hrz : (⟨(Lib.repeatL [48] c).toArray⟩ : ByteArray).size = c := by rw [size_mk, rep0, List.length_replicate]
  have hs := fun W => run_string_add_sum (P := Tryz.prog) W ⟨#[115]⟩ ⟨(Lib.repeatL [48] c).toArray⟩ (by rw [hrz]; show 1 + c ≤ _; omega)
  have hez : ((⟨#[115]⟩ : ByteArray) ++ (⟨(Lib.repeatL [48] c).toArray⟩ : ByteArray)).size = 1 + c := by rw [ByteArray.size_append, hrz]; rfl
  have hs2 := fun W => run_string_add_sum (P := Tryz.prog) W ((⟨#[115]⟩ : ByteArray) ++ (⟨(Lib.repeatL [48] c).toArray⟩ : ByteArray)) ⟨(Lib.decDigits d).toArray⟩ (by rw [hez, hsz]; omega)
  have HE : Hid ((⟨#[115]⟩ : ByteArray) ++ (⟨(Lib.repeatL [48] c).toArray⟩ : ByteArray) ++ (⟨(Lib.decDigits d).toArray⟩ : ByteArray) = markS i) := Lib.hid (by
    rw [show (⟨#[115]⟩ : ByteArray) = ⟨[115].toArray⟩ from rfl, bsS_add, bsS, bsS_add, rep0, markS, HD.out, ← hdd, hc]
    rfl)
  have hi := fun W (h : Lib.TabIs Tryz.prog W "internal/strconv.uint64pow10" .u64 Lib.pow10Tab) => Go.Proofs.Any.strconv_Itoa (ρ := Tryz.itoaL_ren) Tryz.itoaL (d : Int) (by omega) (by omega) W h
  rw [Lib.itoa_nonneg] at hi
  have HC : Hid (∀ W, LayW W → Calls Tryz.prog 68 #[.int .i64 (d : Nat)] W fun e w' => e = .returned (.string ⟨(Lib.decDigits d).toArray⟩) ∧ Below W.heap.size W w') := Lib.hid fun W h => (hi W h.pow).mono fun e w' ⟨h1, k, os, h2⟩ => ⟨h1, h2 ▸ below_gr W k os⟩
  have HR : Hid (∀ W, Calls Tryz.prog 69 #[.string ⟨#[48]⟩, .int .i64 (c : Nat)] W fun e w' => e = .returned (.string ⟨(Lib.repeatL [48] c).toArray⟩) ∧ Below W.heap.size W w') := Lib.hid fun W => Go.Proofs.Any.strings_Repeat (ρ := Tryz.repL_ren) Tryz.repL repX ⟨#[48]⟩ c W (by omega) (by show 1 * c ≤ _; omega)
  have hw : IntKind.i64.wrap ((3 : Int) - (Lib.decDigits d).length) = (c : Int) := by rw [IntKind.wrap_i64]; omega
  have hw2 : (3 : Int) - (Lib.decDigits d).length = (c : Int) := by omega
  have HL := Lib.hid hL
  have HDD := Lib.hid hdd
  clear hL hdd hi hrz hez hc
  go_enter Tryz.func23, Tryz.ntmps23
  go_wp2_with fail
  refine (HC.out _ HL.out).mono ?_
  rintro e w1 ⟨rfl, hb1⟩
  have HB1 := Lib.hid hb1
  clear hb1
  go_wp2_with fail
  refine (HR.out _).mono ?_
  rintro e w2 ⟨rfl, hb2⟩
  have HB2 := Lib.hid (HB1.out.trans (hb2.mono HB1.out.size))
  clear hb2
  go_wp2
  go_ret
  rw [HE.out]
  exact ⟨rfl, HB2.out⟩
set_option maxRecDepth 100000 in
theorem rmark_any (i : Int) (w : World) : Calls Tryz.prog 24 #[.int .i64 i] w fun e w' => e = .returned (.string (markS i)) ∧ Below w.heap.size w w' := by
  obtain ⟨d, hd⟩ : ∃ d : Nat, min (max i 0) 999 = (d : Int) := ⟨clN i, by unfold clN; omega⟩
  have hd9 : d ≤ 999 := by omega
  have HD : Hid (clN i = d) := Lib.hid (by unfold clN; omega)
  have hs := fun W => run_string_add_sum (P := Tryz.prog) W ⟨#[115]⟩ (bsS (dgs 3 d)) (by rw [bsS_size, dgs_len]; decide)
  have HE : Hid ((⟨#[115]⟩ : ByteArray) ++ bsS (dgs 3 d) = markS i) := Lib.hid (by
    rw [show (⟨#[115]⟩ : ByteArray) = ⟨[115].toArray⟩ from rfl, bsS, bsS_add, markS, HD.out]
    rfl)
  go_enter Tryz.func24, Tryz.ntmps24
  go_wp2_with fail
  refine (rdigits_any d 3 (by decide) (by omega) _).mono ?_
  rintro e w' ⟨rfl, hb⟩
  have HB := Lib.hid hb
  clear hb
  go_wp2
  go_ret
  rw [HE.out]
  exact ⟨rfl, HB.out⟩
theorem data_cat (i n : Int) (a b : List UInt8) (ha : a = dgs 1 (dg1 i)) (hb : b = dgN (clN n)) : (⟨#[100]⟩ : ByteArray) ++ (⟨a.toArray⟩ : ByteArray) ++ (⟨#[46]⟩ : ByteArray) ++ (⟨b.toArray⟩ : ByteArray) = dataS i n := by
  rw [show (⟨#[100]⟩ : ByteArray) = ⟨[100].toArray⟩ from rfl, show (⟨#[46]⟩ : ByteArray) = ⟨[46].toArray⟩ from rfl, bsS_add, bsS, bsS_add, bsS, bsS_add, ha, hb, dataS]
  simp [bsS]
set_option maxRecDepth 100000 in
set_option maxHeartbeats 1600000 in
theorem pdata_any (i n : Int) (w : World) (hL : LayW w) : Calls Tryz.prog 20 #[.int .i64 i, .int .i64 n] w fun e w' => e = .returned (.string (dataS i n)) ∧ Below w.heap.size w w' := by
  obtain ⟨d, hd⟩ : ∃ d : Nat, min (max i 0) 9 = (d : Int) := ⟨dg1 i, by unfold dg1; omega⟩
  have hd9 : d ≤ 9 := by omega
  have HD : Hid (dg1 i = d) := Lib.hid (by unfold dg1; omega)
  obtain ⟨q, hq⟩ : ∃ d : Nat, min (max n 0) 999 = (d : Int) := ⟨clN n, by unfold clN; omega⟩
  have hq9 : q ≤ 999 := by omega
  have HQ : Hid (clN n = q) := Lib.hid (by unfold clN; omega)
  have HC : Hid (∀ W, Calls Tryz.prog 68 #[.int .i64 (d : Nat)] W fun e w' => e = .returned (.string ⟨(Lib.decDigits d).toArray⟩) ∧ w' = W) := Lib.hid fun W => Go.Proofs.Any.strconv_Itoa_small (ρ := Tryz.itoaL_ren) { Tryz.itoaL with } d (by omega) W
  have hi := fun W (h : Lib.TabIs Tryz.prog W "internal/strconv.uint64pow10" .u64 Lib.pow10Tab) => Go.Proofs.Any.strconv_Itoa (ρ := Tryz.itoaL_ren) Tryz.itoaL (q : Int) (by omega) (by omega) W h
  rw [Lib.itoa_nonneg] at hi
  have HC2 : Hid (∀ W, LayW W → Calls Tryz.prog 68 #[.int .i64 (q : Nat)] W fun e w' => e = .returned (.string ⟨(Lib.decDigits q).toArray⟩) ∧ Below W.heap.size W w') := Lib.hid fun W h => (hi W h.pow).mono fun e w' ⟨h1, k, os, h2⟩ => ⟨h1, h2 ▸ below_gr W k os⟩
  have z1 : (⟨(Lib.decDigits d).toArray⟩ : ByteArray).size = 1 := by rw [size_mk, dec1 hd9, dgs_len]
  have z2 : (⟨(Lib.decDigits q).toArray⟩ : ByteArray).size ≤ 3 := by rw [size_mk, dec_dgN q hq9]; exact dgN_len q
  have hs := fun W => run_string_add_sum (P := Tryz.prog) W ⟨#[100]⟩ ⟨(Lib.decDigits d).toArray⟩ (by rw [z1]; decide)
  have y1 : ((⟨#[100]⟩ : ByteArray) ++ (⟨(Lib.decDigits d).toArray⟩ : ByteArray)).size = 2 := by rw [ByteArray.size_append, z1]; rfl
  have hs2 := fun W => run_string_add_sum (P := Tryz.prog) W ((⟨#[100]⟩ : ByteArray) ++ (⟨(Lib.decDigits d).toArray⟩ : ByteArray)) ⟨#[46]⟩ (by rw [y1]; decide)
  have y2 : ((⟨#[100]⟩ : ByteArray) ++ (⟨(Lib.decDigits d).toArray⟩ : ByteArray) ++ (⟨#[46]⟩ : ByteArray)).size = 3 := by rw [ByteArray.size_append, y1]; rfl
  have hs3 := fun W => run_string_add_sum (P := Tryz.prog) W ((⟨#[100]⟩ : ByteArray) ++ (⟨(Lib.decDigits d).toArray⟩ : ByteArray) ++ (⟨#[46]⟩ : ByteArray)) ⟨(Lib.decDigits q).toArray⟩ (by rw [y2]; omega)
  have HE : Hid ((⟨#[100]⟩ : ByteArray) ++ (⟨(Lib.decDigits d).toArray⟩ : ByteArray) ++ (⟨#[46]⟩ : ByteArray) ++ (⟨(Lib.decDigits q).toArray⟩ : ByteArray) = dataS i n) := Lib.hid (data_cat i n _ _ (by rw [HD.out, dec1 hd9]) (by rw [HQ.out, dec_dgN q hq9]))
  have HL := Lib.hid hL
  clear hL hi z1 z2 y1 y2
  go_enter Tryz.func20, Tryz.ntmps20
  go_wp2_with fail
  refine (HC.out _).mono ?_
  rintro e w1 ⟨rfl, rfl⟩
  go_wp2_with fail
  refine (HC2.out _ HL.out).mono ?_
  rintro e w2 ⟨rfl, hb2⟩
  have HB2 := Lib.hid hb2
  clear hb2
  go_wp2
  go_ret
  rw [HE.out]
  exact ⟨rfl, HB2.out⟩
set_option maxRecDepth 100000 in
set_option maxHeartbeats 1600000 in
theorem rdata_any (i n : Int) (w : World) : Calls Tryz.prog 21 #[.int .i64 i, .int .i64 n] w fun e w' => e = .returned (.string (dataS i n)) ∧ Below w.heap.size w w' := by
  obtain ⟨d, hd⟩ : ∃ d : Nat, min (max i 0) 9 = (d : Int) := ⟨dg1 i, by unfold dg1; omega⟩
  have hd9 : d ≤ 9 := by omega
  have HD : Hid (dg1 i = d) := Lib.hid (by unfold dg1; omega)
  obtain ⟨q, hq⟩ : ∃ d : Nat, min (max n 0) 999 = (d : Int) := ⟨clN n, by unfold clN; omega⟩
  have hq9 : q ≤ 999 := by omega
  have HQ : Hid (clN n = q) := Lib.hid (by unfold clN; omega)
  obtain ⟨m, hm, hm3, hmw⟩ : ∃ m, dgN q = dgs m q ∧ m ≤ 3 ∧ ((q ≤ 9 ∧ m = 1) ∨ (9 < q ∧ q ≤ 99 ∧ m = 2) ∨ (99 < q ∧ m = 3)) := by
    unfold dgN
    by_cases h1 : q ≤ 9
    · exact ⟨1, if_pos h1, by omega, .inl ⟨h1, rfl⟩⟩
    · by_cases h2 : q ≤ 99
      · exact ⟨2, by rw [if_neg h1, if_pos h2], by omega, .inr (.inl ⟨by omega, h2, rfl⟩)⟩
      · exact ⟨3, by rw [if_neg h1, if_neg h2], by omega, .inr (.inr ⟨by omega, rfl⟩)⟩
  have z1 : (bsS (dgs 1 d)).size = 1 := by rw [bsS_size, dgs_len]
  have z2 : (bsS (dgs m q)).size = m := by rw [bsS_size, dgs_len]
  have hs := fun W => run_string_add_sum (P := Tryz.prog) W ⟨#[100]⟩ (bsS (dgs 1 d)) (by rw [z1]; decide)
  have y1 : ((⟨#[100]⟩ : ByteArray) ++ bsS (dgs 1 d)).size = 2 := by rw [ByteArray.size_append, z1]; rfl
  have hs2 := fun W => run_string_add_sum (P := Tryz.prog) W ((⟨#[100]⟩ : ByteArray) ++ bsS (dgs 1 d)) ⟨#[46]⟩ (by rw [y1]; decide)
  have y2 : ((⟨#[100]⟩ : ByteArray) ++ bsS (dgs 1 d) ++ (⟨#[46]⟩ : ByteArray)).size = 3 := by rw [ByteArray.size_append, y1]; rfl
  have hs3 := fun W => run_string_add_sum (P := Tryz.prog) W ((⟨#[100]⟩ : ByteArray) ++ bsS (dgs 1 d) ++ (⟨#[46]⟩ : ByteArray)) (bsS (dgs m q)) (by rw [y2, z2]; omega)
  have HE : Hid ((⟨#[100]⟩ : ByteArray) ++ bsS (dgs 1 d) ++ (⟨#[46]⟩ : ByteArray) ++ bsS (dgs m q) = dataS i n) := Lib.hid (data_cat i n _ _ (by rw [HD.out]) (by rw [HQ.out, hm]))
  have HR : Hid (∀ W, Calls Tryz.prog 64 #[.int .i64 q, .int .i64 m] W fun e w' => e = .returned (.string (bsS (dgs m q))) ∧ Below W.heap.size W w') := Lib.hid fun W => rdigits_any q m (by omega) (by omega) W
  clear z1 z2 y1 y2 hm
  rcases hmw with ⟨h1, rfl⟩ | ⟨h1, h2, rfl⟩ | ⟨h1, rfl⟩
  all_goals
    go_enter Tryz.func21, Tryz.ntmps21
    go_wp2_with fail
    refine (rdigits_any d 1 (by decide) (by omega) _).mono ?_
    rintro e w1 ⟨rfl, hb1⟩
    have HB1 := Lib.hid hb1
    clear hb1
    go_wp2_with fail
    refine (HR.out _).mono ?_
    rintro e w2 ⟨rfl, hb2⟩
    have HB2 := Lib.hid (HB1.out.trans (hb2.mono HB1.out.size))
    clear hb2
    go_wp2
    go_ret
    rw [HE.out]
    exact ⟨rfl, HB2.out⟩
end Go.Proofs.YtlekdfajcpmolaaGreatDoor
namespace Go.Proofs.YtlekdfajcpmolaaGreatDoor

/-- what a write does, in what can be reckoned -/
theorem doP_write (i : Int) (h : HeD) (e : EnD) (h1 : mayHD h = true) (h2 : mayE e = true) (h3 : h.seq < e.seq) (h4 : e.kind = 1) (h5 : e.off + e.data.length ≤ h.size) :
    doP i h e = ⟨⟨h.u, h.c, h.o, h.size, setAll h.map (wrSteps h e.off e.data), h.snaps, h.last, e.seq⟩, (wrSteps h e.off e.data).map (txS i h e.seq) ++ [lastT i e.seq (headB' ⟨h.u, h.c, h.o, h.size, setAll h.map (wrSteps h e.off e.data), h.snaps, h.last, e.seq⟩)], 0, 0⟩ := by
  have hc : opPl h (clE e) = ⟨⟨h.u, h.c, h.o, h.size, setAll h.map (wrSteps h e.off e.data), h.snaps, h.last, h.seq⟩, wrSteps h e.off e.data, 0, 0⟩ := by
    have k1 : (clE e).kind = 1 := h4
    have k2 : (clE e).off = e.off := by unfold clE; rw [if_pos (.inl h4)]
    have k3 : (clE e).data = e.data := by unfold clE; simp only; rw [if_pos h4]
    unfold opPl
    rw [if_pos k1, k2, k3, if_neg (by omega)]
  have hd : doH h (clE e) = ⟨h.u, h.c, h.o, h.size, setAll h.map (wrSteps h e.off e.data), h.snaps, h.last, e.seq⟩ := by
    unfold doH
    rw [hc]
    dsimp only [HeD.atS, clE]
  unfold doP
  rw [if_neg (by rw [h1]; decide), if_neg (by rw [h2]; simp; omega), hc]
  simp only
  rw [if_neg (by decide), hd]
def exH : HeD := ⟨2, 2, 4, 8, [], [], 0, 0⟩
def exE : EnD := ⟨1, 0, 1, 1, 0, 0, [97, 98, 99]⟩
def exG : HeD := ⟨2, 2, 4, 8, [1, 1], [], 0, 1⟩
def exT (o : ByteArray) (off : Int) (l : List UInt8) : TxD := ⟨o, [⟨4, 0, 1, ByteArray.empty, []⟩, ⟨5, off, 0, ByteArray.empty, l⟩, ⟨12, 0, 1, ByteArray.empty, []⟩]⟩
/-- the third transaction -/
def exL : TxD := lastT 3 1 (headB' exG)
theorem exW : wrSteps exH 1 [97, 98, 99] = [⟨0, 1, ⟨5, 1, 0, ByteArray.empty, [97]⟩⟩, ⟨1, 1, ⟨5, 0, 0, ByteArray.empty, [98, 99]⟩⟩] := by kernel_rfl
theorem ex_may : mayHD exH = true := by kernel_rfl
theorem ex_mayE : mayE exE = true := by kernel_rfl
theorem ex_set : setAll [] [⟨0, 1, ⟨5, 1, 0, ByteArray.empty, [97]⟩⟩, ⟨1, 1, ⟨5, 0, 0, ByteArray.empty, [98, 99]⟩⟩] = [1, 1] := by kernel_rfl
theorem ex_d0 : dataS 3 0 = ⟨#[100, 51, 46, 48]⟩ := by kernel_rfl
theorem ex_d1 : dataS 3 1 = ⟨#[100, 51, 46, 49]⟩ := by kernel_rfl
theorem ex_h3 : headS 3 = ⟨#[104, 51]⟩ := by kernel_rfl
theorem ex_m7 : markS 7 = ⟨#[115, 48, 48, 55]⟩ := by kernel_rfl
theorem ex_t (n off : Int) (l : List UInt8) (o : ByteArray) (h : dataS 3 n = o) : txS 3 exH 1 ⟨n, 1, ⟨5, off, 0, ByteArray.empty, l⟩⟩ = exT o off l := by
  rw [← h]
  rfl
theorem ex_do : doP 3 exH exE = ⟨exG, [exT ⟨#[100, 51, 46, 48]⟩ 1 [97], exT ⟨#[100, 51, 46, 49]⟩ 0 [98, 99], exL], 0, 0⟩ := by
  have h := doP_write 3 exH exE ex_may ex_mayE (by decide) rfl (by decide)
  have hw : wrSteps exH exE.off exE.data = [⟨0, 1, ⟨5, 1, 0, ByteArray.empty, [97]⟩⟩, ⟨1, 1, ⟨5, 0, 0, ByteArray.empty, [98, 99]⟩⟩] := exW
  rw [hw] at h
  rw [h]
  have hs : setAll exH.map [⟨0, 1, ⟨5, 1, 0, ByteArray.empty, [97]⟩⟩, ⟨1, 1, ⟨5, 0, 0, ByteArray.empty, [98, 99]⟩⟩] = [1, 1] := ex_set
  rw [hs, List.map_cons, List.map_cons, List.map_nil, show exE.seq = 1 from rfl, ex_t 0 1 [97] _ ex_d0, ex_t 1 0 [98, 99] _ ex_d1]
  rfl
end Go.Proofs.YtlekdfajcpmolaaGreatDoor
