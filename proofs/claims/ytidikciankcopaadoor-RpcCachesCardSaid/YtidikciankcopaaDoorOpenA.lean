/- An act of the scripts that the laws of sessions and caches are handed, opened as data. -/
import Derived.Test.YtidikciankcopaaDoorOpenD
namespace Go.Proofs.YtidikciankcopaaDoor
open Go.ChangeShapes Go.WideShapes Go.ChangeAt Go.RowKit Go.Deep Go.Joins

structure ActD where
  kind : Int
  q : RqD
  p : RpD
  ticks : Int
instance ActD.some : Inhabited ActD := ⟨⟨0, RqD.none, RpD.none, 0⟩⟩
def Enc.act : Enc ActD where
  size := 21
  rd := fun A w cs a => ∃ cq cp, cs = [.int .i64 a.kind] ++ cq ++ cp ++ [.int .i64 a.ticks] ∧ Enc.rq.rd A w cq a.q ∧ Enc.rp.rd A w cp a.p
  len := fun ⟨cq, cp, h, hq, hp⟩ => by
    have h1 := Enc.rq.len hq
    have h2 := Enc.rp.len hp
    rw [h]
    simp only [List.length_append, h1, h2]
    rfl
  one := fun ⟨cq, cp, h, hq, hp⟩ u hu => by
    rw [h] at hu
    simp only [List.mem_append, List.mem_singleton] at hu
    rcases hu with ((rfl | hu) | hu) | rfl
    · rfl
    · exact Enc.rq.one hq u hu
    · exact Enc.rp.one hp u hu
    · rfl
  mono := fun ⟨cq, cp, h, hq, hp⟩ hs => ⟨cq, cp, h, Enc.rq.mono hq hs, Enc.rp.mono hp hs⟩
  weak := fun ⟨cq, cp, h, hq, hp⟩ hs => ⟨cq, cp, h, Enc.rq.weak hq hs, Enc.rp.weak hp hs⟩
theorem list4' {α : Type} {l : List α} (h : l.length = 4) : ∃ a b c d, l = [a, b, c, d] := by
  match l, h with
  | [a, b, c, d], _ => exact ⟨a, b, c, d, rfl⟩
theorem list21 {α : Type} {l : List α} (h : l.length = 21) : l = (l.drop 0).take 1 ++ (l.drop 1).take 9 ++ (l.drop 10).take 10 ++ (l.drop 20).take 1 := by
  match l, h with
  | [a, b, c, d, e, f, g, i, j, k, l, m, n, o, p, q, r, s, t, u, v], _ => rfl
set_option maxRecDepth 100000 in
theorem opn_act : Opn 41 Enc.act := by
  refine ⟨by kernel_rfl, fun H enc w n cs y h => ?_⟩
  obtain ⟨xs, m, _, rfl, hl, hlen, hf⟩ := DataW.trod_struct Tryd.underlying41 h
  have hl21 := list21 (hl.trans (show Tryd.prog.cellsOf 41 = 21 by kernel_rfl))
  obtain ⟨y0, y1, y2, y3, rfl⟩ := list4' (l := xs) hlen
  obtain ⟨x0, e0⟩ := opn_cut (y := y0) opn_i (k := 0) rfl (hf 0 _ rfl)
  obtain ⟨x1, r1⟩ := opn_cut (y := y1) opn_rq (k := 1) rfl (hf 1 _ rfl)
  obtain ⟨x2, r2⟩ := opn_cut (y := y2) opn_rp (k := 10) rfl (hf 2 _ rfl)
  obtain ⟨x3, e3⟩ := opn_cut (y := y3) opn_i (k := 20) rfl (hf 3 _ rfl)
  have e0 : (cs.drop 0).take 1 = [.int .i64 x0] := e0
  have e3 : (cs.drop 20).take 1 = [.int .i64 x3] := e3
  refine ⟨⟨x0, x1, x2, x3⟩, _, _, ?_, r1, r2⟩
  rw [← e0, ← e3]
  exact hl21
set_option maxRecDepth 100000 in
theorem opn_acts {H : Type} {enc : TypeId × Value → H} {W : World} {base : Nat} {v : Value} {d : DataW H} {p : List MemPlace} (hv : Value.okWide Tryd.prog W .any base 22 v)
    (h : DataW.Trod enc Tryd.prog W 0 (fun _ => true) true 22 v d p) : ∃ l, SlE Enc.act (Hp W) W v l :=
  opn_row Tryd.underlying22 (by kernel_rfl) (by decide) opn_act hv h

set_option maxRecDepth 100000 in
theorem Acts.at {A : Nat → Prop} {w : World} {a : Option Addr} {n c : Nat} {l : List ActD} (h : SlE Enc.act A w (.slice a n c) l) {i : Nat} (hi : i < l.length) :
    ∃ b off oa oc da dc ka kc, a = some ⟨b, off, none⟩ ∧ b < w.heap.size ∧ SlE Enc.op A w (.slice oa (l[i]).q.txn.ops.length oc) (l[i]).q.txn.ops ∧ RB A w (.slice da (l[i]).p.obj.data.length dc) (l[i]).p.obj.data ∧ SlE Enc.key A w (.slice ka (l[i]).p.obj.keys.length kc) (l[i]).p.obj.keys ∧
      (∀ u ∈ ([.int .i64 (l[i]).kind, .int .i64 (l[i]).q.client, .int .i64 (l[i]).q.life, .int .i64 (l[i]).q.seq, .int .i64 (l[i]).q.kind, .int .i64 (l[i]).q.image, .int .i64 (l[i]).q.who, .int .i64 (l[i]).q.n, .string (l[i]).q.txn.obj, .slice oa (l[i]).q.txn.ops.length oc,
        .int .i64 (l[i]).p.client, .int .i64 (l[i]).p.life, .int .i64 (l[i]).p.seq, .int .i64 (l[i]).p.e, .int .i64 (l[i]).p.n, .int .i64 (l[i]).p.index, .bool (l[i]).p.there, .slice da (l[i]).p.obj.data.length dc, .slice ka (l[i]).p.obj.keys.length kc, .int .i64 (l[i]).p.obj.seq, .int .i64 (l[i]).ticks] : List Value), u.oneCell' = true) ∧
      ∀ j, j < 21 → w.cell? ⟨b, off + i * 21 + j, none⟩ = ([.int .i64 (l[i]).kind, .int .i64 (l[i]).q.client, .int .i64 (l[i]).q.life, .int .i64 (l[i]).q.seq, .int .i64 (l[i]).q.kind, .int .i64 (l[i]).q.image, .int .i64 (l[i]).q.who, .int .i64 (l[i]).q.n, .string (l[i]).q.txn.obj, .slice oa (l[i]).q.txn.ops.length oc,
        .int .i64 (l[i]).p.client, .int .i64 (l[i]).p.life, .int .i64 (l[i]).p.seq, .int .i64 (l[i]).p.e, .int .i64 (l[i]).p.n, .int .i64 (l[i]).p.index, .bool (l[i]).p.there, .slice da (l[i]).p.obj.data.length dc, .slice ka (l[i]).p.obj.keys.length kc, .int .i64 (l[i]).p.obj.seq, .int .i64 (l[i]).ticks] : List Value)[j]? := by
  obtain ⟨b, off, cap, cs, e, hb, hA, hrd, hc⟩ := h.at (i := i) (x := l[i]) (by simp [hi])
  have hone := Enc.act.one hrd
  obtain ⟨cq, cp, rfl, ⟨ov, rfl, ho⟩, ⟨dv, kv, rfl, hd, hk⟩⟩ := hrd
  simp only [Value.slice.injEq] at e
  obtain ⟨rfl, _, _⟩ := e
  obtain ⟨oa, oc, rfl⟩ := ho.shape
  obtain ⟨da, dc, rfl⟩ := hd.shape
  obtain ⟨ka, kc, rfl⟩ := hk.shape
  exact ⟨b, off, oa, oc, da, dc, ka, kc, rfl, hb, ho, hd, hk, hone, fun j hj => by rw [Nat.add_assoc]; exact hc j hj⟩
end Go.Proofs.YtidikciankcopaaDoor
