/- Layer 13: what else may be done beside a world of the law's. -/
import Derived.Test.YtglifjecihmbhaaCellM
import Derived.Test.YtglifjecihmbhaaCellN
open Go Go.RowKit
namespace Go.Proofs.Ytglifjecihmbhaa

/-- Block b is none of a world's. -/
def Lay.away (L : Lay) (b : Nat) : Prop := b ≠ L.m ∧ b ≠ L.a ∧ b ≠ L.b ∧ b ≠ L.v ∧ b ≠ L.lk ∧ ∀ k, k ≤ 5 → b ≠ L.ops k ∧ b ≠ L.own k

theorem Inv.new {w0 w : World} {L : Lay} {C : ACell} {A : Nat → AOp} (h : Inv w0 w L C A) {b : Nat} (hb : w.heap.size ≤ b) : L.away b := by
  obtain ⟨t, hm⟩ := h.mem
  have s1 := hm.top.lt
  have s2 := hm.words.lt
  have s3 := hm.live.lt
  have s4 := h.top.lt
  have s5 := h.lk.lt
  exact ⟨by omega, by omega, by omega, by omega, by omega, fun k hk => by have := (h.ops k hk).lt; have := (h.own k hk).lt; omega⟩

theorem Inv.onlyB {w0 w w' : World} {L : Lay} {C : ACell} {A : Nat → AOp} (h : Inv w0 w L C A) {b : Nat} (h2 : Only [b] w w') (ha : L.away b) (hb : w0.heap.size ≤ b) : Inv w0 w' L C A := by
  obtain ⟨t, hm⟩ := h.mem
  obtain ⟨a1, a2, a3, a4, a5, a6⟩ := ha
  exact ⟨⟨t, hm.only h2 (by simp; omega) (by simp; omega) (by simp; omega)⟩, h.top.only h2 (by simp; omega), h.lk.only h2 (by simp; omega), fun i hi => (h.ops i hi).only h2 (by have := a6 i hi; simp; omega), fun i hi => (h.own i hi).only h2 (by have := a6 i hi; simp; omega), h.good, h.len, ((h.frame.mono (T := b :: L.blocks) (fun k hk => List.mem_cons_of_mem _ hk)).trans (h2.mono (by simp))).drop (fun k hk hlt => (List.mem_cons.1 hk).elim (fun e => absurd hlt (by omega)) id)⟩

theorem grown_only {w w' : World} {row : Option Nat} (h : w.grownBy w' row) : Only row.toList w w' :=
  ⟨h.os, h.tape, h.output, h.size, fun k hk hs => h.block k hk (fun e => hs (by rw [← e]; simp))⟩
theorem Inv.grown {w0 w w' : World} {L : Lay} {C : ACell} {A : Nat → AOp} (h : Inv w0 w L C A) {row : Option Nat} (h2 : w.grownBy w' row) (ha : ∀ b, row = some b → L.away b ∧ w0.heap.size ≤ b) : Inv w0 w' L C A := by
  have h3 := grown_only h2
  cases row with
  | none => exact h.only0 h3
  | some b => exact h.onlyB h3 (ha b rfl).1 (ha b rfl).2
theorem Lay.away_in {L : Lay} {b : Nat} (h : L.away b) : b ∉ L.blocks := by
  obtain ⟨a1, a2, a3, a4, a5, a6⟩ := h
  intro hb
  simp only [Lay.blocks, List.mem_cons, List.not_mem_nil, or_false] at hb
  rcases hb with h | h | h | h | h | h | h | h | h | h | h | h | h | h | h | h | h
  · exact a1 h
  · exact a2 h
  · exact a3 h
  · exact a4 h
  · exact a5 h
  · exact (a6 0 (by omega)).1 h
  · exact (a6 1 (by omega)).1 h
  · exact (a6 2 (by omega)).1 h
  · exact (a6 3 (by omega)).1 h
  · exact (a6 4 (by omega)).1 h
  · exact (a6 5 (by omega)).1 h
  · exact (a6 0 (by omega)).2 h
  · exact (a6 1 (by omega)).2 h
  · exact (a6 2 (by omega)).2 h
  · exact (a6 3 (by omega)).2 h
  · exact (a6 4 (by omega)).2 h
  · exact (a6 5 (by omega)).2 h
/-- A row that is none of a world's stays as it is while the world moves. -/
theorem Inv.row {w w' : World} {L : Lay} {C : ACell} {A : Nat → AOp} (h : Inv w w' L C A) {base : Nat} {e : TypeId} {size : Nat} {v : Value} {n : Nat} {xs : List Value} (ho : w.ownsRow base e size v n xs)
    (ha : ∀ b, v.ownBlock = some b → L.away b) : w'.ownsRow base e size v n xs := by
  refine ⟨ho.1, ?_⟩
  rcases ho.2 with hn | ⟨g, cap, cur, rfl, hb, hgg, rest⟩
  · exact .inl hn
  · refine .inr ⟨g, cap, cur, rfl, hb, ?_, rest⟩
    rw [h.frame.block g (Array.getElem?_eq_some_iff.1 hgg).1 (Lay.away_in (ha g rfl))]
    exact hgg

theorem Inv.loadJ {w0 w : World} {L : Lay} {C : ACell} {A : Nat → AOp} (h : Inv w0 w L C A) {B : Nat} (hL : L.fine B) (i : Int) (h0 : 0 ≤ i) (h20 : i < 20) :
    Calls Try.prog 12 #[.pointer (some ⟨L.m, 0, none⟩), .int .i64 i] w fun e w' => e = .returned (.tuple #[.int .i64 (C.words.getD i.toNat 0), .int .i64 0]) ∧ Inv w0 w' L C A ∧ Only [L.m, L.a, L.b] w w' := by
  obtain ⟨t, hm⟩ := h.mem
  obtain ⟨v1, v2, v3⟩ := hL.vm
  obtain ⟨l1, l2, l3⟩ := hL.lm
  obtain ⟨g1, g2, g3, g4, g5⟩ := hL.low
  refine (load_any L.m L.a L.b _ i w hm).mono ?_
  rintro e w' ⟨rfl, h1, h2⟩
  have hc := C.codeL t i h0 h20
  rw [MemS.load, if_pos hc] at h1
  rw [MemS.word, if_pos hc, hc]
  refine ⟨rfl, ⟨⟨_, h1⟩, h.top.only h2 (by simp; omega), h.lk.only h2 (by simp; omega), fun i hi => ?_, fun i hi => ?_, h.good, h.len, h.frame.trans (h2.mono L.inm)⟩, h2⟩
  · obtain ⟨q0, q1, q2, q3, q4, q5⟩ := hL.ops i hi
    exact (h.ops i hi).only h2 (by simp; omega)
  · obtain ⟨q0, q1, q2, q3, q4, q5⟩ := hL.own i hi
    exact (h.own i hi).only h2 (by simp; omega)

theorem Inv.endJ {w0 w : World} {L : Lay} {C : ACell} {A : Nat → AOp} (h : Inv w0 w L C A) {B : Nat} (hL : L.fine B) (k : Nat) (hk : k ≤ 5) :
    Calls Try.prog 11 #[.pointer (some ⟨L.ops k, 0, none⟩)] w fun e w' => e = .returned ((A k).prog k).endV ∧ Inv w0 w' L C A ∧ Only [] w w' := by
  obtain ⟨t, hm⟩ := h.mem
  obtain ⟨o0, o1, o2, o3, o4, o5⟩ := hL.ops k hk
  refine (cend_any (L.ops k) L.m L.a L.b _ _ w ⟨h.ops k hk, hm, o1, o2, o3⟩).mono ?_
  rintro e w' ⟨rfl, h2⟩
  exact ⟨rfl, h.only0 h2, h2⟩

theorem AOp.endV0 (s : AOp) (h : s.ended = true) : (s.prog 0).endV = .tuple #[.agg #[.bool s.waits, .int .i64 0, .int .i64 0, .int .i64 s.first], .int .i64 0] := by
  show Value.tuple #[if s.ended = true then .agg #[_, .int .i64 (if 0 = 0 ∧ s.ended = true then 0 else _), .int .i64 (if 0 = 0 ∧ s.ended = true then 0 else _), _] else _, .int .i64 (if s.ended = true then _ else _)] = _
  rw [if_pos h, if_pos h, if_pos ⟨rfl, h⟩, if_pos ⟨rfl, h⟩]; rfl
theorem AOp.endVx (s : AOp) (k : Nat) (hk : k ≠ 0) (h : s.ended = true) : (s.prog k).endV = .tuple #[.agg #[.bool s.waits, .int .i64 s.value, .int .i64 s.why, .int .i64 s.first], .int .i64 0] := by
  show Value.tuple #[if s.ended = true then .agg #[_, .int .i64 (if k = 0 ∧ s.ended = true then 0 else _), .int .i64 (if k = 0 ∧ s.ended = true then 0 else _), _] else _, .int .i64 (if s.ended = true then _ else _)] = _
  rw [if_pos h, if_pos h, if_neg (fun h => hk h.1), if_neg (fun h => hk h.1)]; rfl

/-- How often each one was met: once or never. -/
def tm (l : List Nat) : List Value := [0, 1, 2, 3, 4, 5].map fun y => .int .i64 (if y ∈ l then 1 else 0)
theorem tm_nil : tm [] = [.int .i64 0, .int .i64 0, .int .i64 0, .int .i64 0, .int .i64 0, .int .i64 0] := rfl
theorem tm_get (l : List Nat) (x : Nat) (h : x ≤ 5) : (tm l)[x]? = some (.int .i64 (if x ∈ l then 1 else 0)) := by
  rcases (show x = 0 ∨ x = 1 ∨ x = 2 ∨ x = 3 ∨ x = 4 ∨ x = 5 by omega) with rfl | rfl | rfl | rfl | rfl | rfl <;> rfl
theorem tm_set (l : List Nat) (x : Nat) (h : x ≤ 5) : (tm l).set x (.int .i64 1) = tm (l ++ [x]) := by
  rcases (show x = 0 ∨ x = 1 ∨ x = 2 ∨ x = 3 ∨ x = 4 ∨ x = 5 by omega) with rfl | rfl | rfl | rfl | rfl | rfl <;> simp [tm]

end Go.Proofs.Ytglifjecihmbhaa
