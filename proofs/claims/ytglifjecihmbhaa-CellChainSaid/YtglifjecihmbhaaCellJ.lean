/- Layer 13: a world of the law's: where its blocks are, what it reads as; one move of one, in the program and in the document. -/
import Derived.Test.YtglifjecihmbhaaCellI
import Derived.Deep.QuietTactic
import Derived.BigQuiet
open Go Go.RowKit
namespace Go.Proofs.Ytglifjecihmbhaa

/-- The blocks of a world lie apart, from B on. -/
structure Lay.fine (L : Lay) (B : Nat) : Prop where
  low : B ≤ L.m ∧ B ≤ L.a ∧ B ≤ L.b ∧ B ≤ L.v ∧ B ≤ L.lk
  vm : L.v ≠ L.m ∧ L.v ≠ L.a ∧ L.v ≠ L.b
  lm : L.lk ≠ L.m ∧ L.lk ≠ L.a ∧ L.lk ≠ L.b
  vl : L.v ≠ L.lk
  ops : ∀ k, k ≤ 5 → B ≤ L.ops k ∧ L.ops k ≠ L.m ∧ L.ops k ≠ L.a ∧ L.ops k ≠ L.b ∧ L.ops k ≠ L.v ∧ L.ops k ≠ L.lk
  own : ∀ k, k ≤ 5 → B ≤ L.own k ∧ L.own k ≠ L.m ∧ L.own k ≠ L.a ∧ L.own k ≠ L.b ∧ L.own k ≠ L.v ∧ L.own k ≠ L.lk
  oo : ∀ i j, i ≤ 5 → j ≤ 5 → L.ops i ≠ L.own j
  pp : ∀ i j, i ≤ 5 → j ≤ 5 → i ≠ j → L.ops i ≠ L.ops j ∧ L.own i ≠ L.own j

/-- All the blocks of a world. -/
def Lay.blocks (L : Lay) : List Nat := [L.m, L.a, L.b, L.v, L.lk, L.ops 0, L.ops 1, L.ops 2, L.ops 3, L.ops 4, L.ops 5, L.own 0, L.own 1, L.own 2, L.own 3, L.own 4, L.own 5]
theorem Lay.in_ops (L : Lay) (k : Nat) (h : k ≤ 5) : L.ops k ∈ L.blocks := by
  rcases (show k = 0 ∨ k = 1 ∨ k = 2 ∨ k = 3 ∨ k = 4 ∨ k = 5 by omega) with rfl | rfl | rfl | rfl | rfl | rfl <;> simp [Lay.blocks]
theorem Lay.in_own (L : Lay) (k : Nat) (h : k ≤ 5) : L.own k ∈ L.blocks := by
  rcases (show k = 0 ∨ k = 1 ∨ k = 2 ∨ k = 3 ∨ k = 4 ∨ k = 5 by omega) with rfl | rfl | rfl | rfl | rfl | rfl <;> simp [Lay.blocks]
theorem Lay.in4 (L : Lay) (k : Nat) (h : k ≤ 5) : ∀ j, j ∈ [L.ops k, L.m, L.a, L.b] → j ∈ L.blocks := fun j hj => by
  simp only [List.mem_cons, List.not_mem_nil, or_false] at hj
  rcases hj with rfl | rfl | rfl | rfl
  · exact L.in_ops k h
  all_goals simp [Lay.blocks]
theorem Lay.in3 (L : Lay) (k : Nat) (h : k ≤ 5) : ∀ j, j ∈ [L.v, L.lk, L.own k] → j ∈ L.blocks := fun j hj => by
  simp only [List.mem_cons, List.not_mem_nil, or_false] at hj
  rcases hj with rfl | rfl | rfl
  · simp [Lay.blocks]
  · simp [Lay.blocks]
  · exact L.in_own k h
theorem Lay.inm (L : Lay) : ∀ j, j ∈ [L.m, L.a, L.b] → j ∈ L.blocks := fun j hj => by
  simp only [List.mem_cons, List.not_mem_nil, or_false] at hj
  rcases hj with rfl | rfl | rfl <;> simp [Lay.blocks]
theorem Lay.fine.all {L : Lay} {B : Nat} (h : L.fine B) : ∀ k, k ∈ L.blocks → B ≤ k := fun k hk => by
  obtain ⟨g1, g2, g3, g4, g5⟩ := h.low
  simp only [Lay.blocks, List.mem_cons, List.not_mem_nil, or_false] at hk
  rcases hk with rfl | rfl | rfl | rfl | rfl | rfl | rfl | rfl | rfl | rfl | rfl | rfl | rfl | rfl | rfl | rfl | rfl
  all_goals first | omega | exact (h.ops _ (by omega)).1 | exact (h.own _ (by omega)).1

/-- What a world reads as: the cell and the operations, of the document; the program's are their like. -/
structure Inv (w0 w : World) (L : Lay) (C : ACell) (A : Nat → AOp) : Prop where
  mem : ∃ t, IsMem w L.m L.a L.b (C.mem t)
  top : Blk w L.v (L.cells C) 42
  lk : Blk w L.lk (C.L.map (.int .i64)) 2
  ops : ∀ k, k ≤ 5 → Blk w (L.ops k) (((A k).prog k).cells (L.ops k)) 66
  own : ∀ k, k ≤ 5 → Blk w (L.own k) (A k).cells 30
  good : ∀ k, k ≤ 5 → (A k).good k
  len : C.L.length = 6
  frame : Only L.blocks w0 w

/-- Behind a move of k. -/
def ACell.go (C : ACell) (A : Nat → AOp) (k : Nat) : ACell := ((A k).step C).1
def opsGo (C : ACell) (A : Nat → AOp) (k : Nat) : Nat → AOp := fun i => if i = k then ((A k).step C).2 else A i

/-- In the middle of a move: the program's part is done. -/
structure Mid (w0 w : World) (L : Lay) (C C' : ACell) (A : Nat → AOp) (k : Nat) (s' : AOp) : Prop where
  mem : ∃ t, IsMem w L.m L.a L.b (C'.mem t)
  top : Blk w L.v (L.cells C) 42
  lk : Blk w L.lk (C.L.map (.int .i64)) 2
  ops : ∀ i, i ≤ 5 → Blk w (L.ops i) (((if i = k then s' else A i).prog i).cells (L.ops i)) 66
  own : ∀ i, i ≤ 5 → Blk w (L.own i) (A i).cells 30
  frame : Only L.blocks w0 w

theorem Inv.bel {w0 w : World} {L : Lay} {C : ACell} {A : Nat → AOp} (h : Inv w0 w L C A) (hL : L.fine w0.heap.size) : Below w0.heap.size w0 w :=
  h.frame.below (Nat.le_refl _) hL.all
theorem Inv.again {w0 w : World} {L : Lay} {C : ACell} {A : Nat → AOp} (h : Inv w0 w L C A) : Inv w w L C A := { h with frame := Only.refl _ _ }
theorem Inv.since {w0 w w' : World} {L : Lay} {C C' : ACell} {A A' : Nat → AOp} (h : Inv w0 w L C A) (h' : Inv w w' L C' A') : Inv w0 w' L C' A' := { h' with frame := h.frame.trans h'.frame }

theorem Inv.first {w0 w : World} {L : Lay} {C : ACell} {A : Nat → AOp} (h : Inv w0 w L C A) {B : Nat} (hL : L.fine B) (k : Nat) (hk : k ≤ 5) :
    Calls Try.prog 17 #[.pointer (some ⟨L.ops k, 0, none⟩), .pointer (some ⟨L.m, 0, none⟩)] w fun e w' => e = .returned (.bool ((A k).step C).2.ended) ∧ Mid w0 w' L C (C.go A k) A k ((A k).step C).2 := by
  obtain ⟨t, hm⟩ := h.mem
  obtain ⟨o0, o1, o2, o3, o4, o5⟩ := hL.ops k hk
  obtain ⟨v1, v2, v3⟩ := hL.vm
  obtain ⟨l1, l2, l3⟩ := hL.lm
  obtain ⟨g1, g2, g3, g4, g5⟩ := hL.low
  refine (cmove_any (L.ops k) L.m L.a L.b _ _ w ⟨h.ops k hk, hm, o1, o2, o3⟩ (AOp.right _ _)).mono ?_
  rintro e w' ⟨rfl, h1, h2⟩
  obtain ⟨t', ht⟩ := sim k (A k) C t (h.good k hk) h.len
  rw [ht] at h1 ⊢
  refine ⟨rfl, ⟨⟨t', h1.mem⟩, h.top.only h2 (by simp; omega), h.lk.only h2 (by simp; omega), fun i hi => ?_, fun i hi => ?_, h.frame.trans (h2.mono (L.in4 k hk))⟩⟩
  · by_cases e : i = k
    · subst e; rw [if_pos rfl]; exact h1.op
    · rw [if_neg e]
      obtain ⟨p1, p2⟩ := hL.pp i k hi hk e
      obtain ⟨q0, q1, q2, q3, q4, q5⟩ := hL.ops i hi
      exact (h.ops i hi).only h2 (by simp; omega)
  · have p1 := hL.oo k i hk hi
    obtain ⟨q0, q1, q2, q3, q4, q5⟩ := hL.own i hi
    exact (h.own i hi).only h2 (by simp; omega)

theorem Mid.second {w0 w : World} {L : Lay} {C : ACell} {A : Nat → AOp} {k : Nat} (h : Mid w0 w L C (C.go A k) A k ((A k).step C).2) {B : Nat} (hL : L.fine B) (hk : k ≤ 5) (hg : ∀ k, k ≤ 5 → (A k).good k) (hlen : C.L.length = 6) :
    Calls Try.prog 19 #[.pointer (some ⟨L.v, 2, none⟩), .pointer (some ⟨L.own k, 0, none⟩)] w fun e w' => e = .returned (.tuple #[]) ∧ Inv w0 w' L (C.go A k) (opsGo C A k) := by
  obtain ⟨o0, o1, o2, o3, o4, o5⟩ := hL.own k hk
  obtain ⟨v1, v2, v3⟩ := hL.vm
  obtain ⟨l1, l2, l3⟩ := hL.lm
  obtain ⟨g1, g2, g3, g4, g5⟩ := hL.low
  have vl := hL.vl
  refine (rmove_any L (L.own k) C (A k) k w ⟨h.top, h.lk, h.own k hk, hL.vl, Ne.symm o4, Ne.symm o5, hlen⟩ (hg k hk)).mono ?_
  rintro e w' ⟨rfl, h1, h2⟩
  obtain ⟨t, hm⟩ := h.mem
  refine ⟨rfl, ⟨⟨t, hm.only h2 (by simp; omega) (by simp; omega) (by simp; omega)⟩, h1.top, h1.lk, fun i hi => ?_, fun i hi => ?_, fun i hi => ?_, ACell.len_step _ hlen, h.frame.trans (h2.mono (L.in3 k hk))⟩⟩
  · have p1 := hL.oo i k hi hk
    obtain ⟨q0, q1, q2, q3, q4, q5⟩ := hL.ops i hi
    exact (h.ops i hi).only h2 (by simp; omega)
  · unfold opsGo
    by_cases e : i = k
    · subst e; rw [if_pos rfl]; exact h1.op
    · rw [if_neg e]
      obtain ⟨p1, p2⟩ := hL.pp i k hi hk e
      obtain ⟨q0, q1, q2, q3, q4, q5⟩ := hL.own i hi
      exact (h.own i hi).only h2 (by simp; omega)
  · unfold opsGo
    by_cases e : i = k
    · subst e; rw [if_pos rfl]; exact AOp.good_step C (hg i hk)
    · rw [if_neg e]; exact hg i hi

theorem Inv.loadI {w0 w : World} {L : Lay} {C : ACell} {A : Nat → AOp} (h : Inv w0 w L C A) {B : Nat} (hL : L.fine B) (i : Int) (h0 : 0 ≤ i) (h20 : i < 20) :
    Calls Try.prog 12 #[.pointer (some ⟨L.m, 0, none⟩), .int .i64 i] w fun e w' => e = .returned (.tuple #[.int .i64 (C.words.getD i.toNat 0), .int .i64 0]) ∧ Inv w0 w' L C A := by
  obtain ⟨t, hm⟩ := h.mem
  obtain ⟨v1, v2, v3⟩ := hL.vm
  obtain ⟨l1, l2, l3⟩ := hL.lm
  obtain ⟨g1, g2, g3, g4, g5⟩ := hL.low
  refine (load_any L.m L.a L.b _ i w hm).mono ?_
  rintro e w' ⟨rfl, h1, h2⟩
  have hc := C.codeL t i h0 h20
  rw [MemS.load, if_pos hc] at h1
  rw [MemS.word, if_pos hc, hc]
  refine ⟨rfl, ⟨⟨_, h1⟩, h.top.only h2 (by simp; omega), h.lk.only h2 (by simp; omega), fun i hi => ?_, fun i hi => ?_, h.good, h.len, h.frame.trans (h2.mono L.inm)⟩⟩
  · obtain ⟨q0, q1, q2, q3, q4, q5⟩ := hL.ops i hi
    exact (h.ops i hi).only h2 (by simp; omega)
  · obtain ⟨q0, q1, q2, q3, q4, q5⟩ := hL.own i hi
    exact (h.own i hi).only h2 (by simp; omega)

theorem Inv.only0 {w0 w w' : World} {L : Lay} {C : ACell} {A : Nat → AOp} (h : Inv w0 w L C A) (h2 : Only [] w w') : Inv w0 w' L C A := by
  obtain ⟨t, hm⟩ := h.mem
  exact ⟨⟨t, hm.only h2 (by simp) (by simp) (by simp)⟩, h.top.only h2 (by simp), h.lk.only h2 (by simp), fun i hi => (h.ops i hi).only h2 (by simp), fun i hi => (h.own i hi).only h2 (by simp), h.good, h.len, h.frame.trans (h2.mono (by simp))⟩

theorem Inv.endI {w0 w : World} {L : Lay} {C : ACell} {A : Nat → AOp} (h : Inv w0 w L C A) {B : Nat} (hL : L.fine B) (k : Nat) (hk : k ≤ 5) :
    Calls Try.prog 11 #[.pointer (some ⟨L.ops k, 0, none⟩)] w fun e w' => e = .returned ((A k).prog k).endV ∧ Inv w0 w' L C A := by
  obtain ⟨t, hm⟩ := h.mem
  obtain ⟨o0, o1, o2, o3, o4, o5⟩ := hL.ops k hk
  refine (cend_any (L.ops k) L.m L.a L.b _ _ w ⟨h.ops k hk, hm, o1, o2, o3⟩).mono ?_
  rintro e w' ⟨rfl, h2⟩
  exact ⟨rfl, h.only0 h2⟩

end Go.Proofs.Ytglifjecihmbhaa
