/- Layer 13: what a move of the program comes to, told by the document's: 'sim'; what the two have in common is kept. -/
import Derived.Test.YtglifjecihmbhaaCellH
open Go Go.RowKit
namespace Go.Proofs.Ytglifjecihmbhaa

theorem AOp.good_step {k : Nat} {s : AOp} (C : ACell) (h : s.good k) : (s.step C).2.good k := by
  obtain ⟨x, pc, h0, value, why, ended, waits, first⟩ := s
  obtain ⟨hx, hk5, hu, hz⟩ := h
  simp only at hx hu hz
  subst hx
  unfold AOp.step
  cases ended with
  | true => exact ⟨rfl, hk5, (fun h => by cases h), hz⟩
  | false =>
    obtain ⟨hw, hf, hwt⟩ := hu rfl
    subst hw
    rw [if_neg (by simp)]
    by_cases hk : k = 0
    · subst hk
      have hp := hf rfl
      rcases (show pc = 0 ∨ pc = 1 ∨ pc = 2 ∨ pc = 3 by omega) with rfl | rfl | rfl | rfl
      all_goals simp only [Int.natCast_zero, Int.lt_irrefl, if_false]
      · exact ⟨rfl, hk5, fun _ => ⟨rfl, fun _ => by simp, fun h => by omega⟩, fun h => by omega⟩
      · exact ⟨rfl, hk5, fun _ => ⟨rfl, fun _ => by simp, fun h => by omega⟩, fun h => by omega⟩
      · exact ⟨rfl, hk5, fun _ => ⟨rfl, fun _ => by simp, fun h => by omega⟩, fun h => by omega⟩
      · split
        · exact ⟨rfl, hk5, (fun h => by cases h), fun h => by omega⟩
        · exact ⟨rfl, hk5, fun _ => ⟨rfl, fun _ => by simp, fun h => by omega⟩, fun h => by omega⟩
    · have hp := hwt (by omega)
      have hz := hz (by omega)
      rw [if_pos (by show (0 : Int) < (k : Int); omega)]
      rcases (show pc = 0 ∨ pc = 1 ∨ pc = 2 ∨ pc = 3 ∨ pc = 4 by omega) with rfl | rfl | rfl | rfl | rfl
      · simp only
        split
        · exact ⟨rfl, hk5, fun _ => ⟨rfl, fun h => by omega, fun _ => by simp⟩, fun _ => ⟨fun _ => hz.1 (by omega), fun _ => hz.2.1 (by omega), (fun h => by cases h)⟩⟩
        · exact ⟨rfl, hk5, fun _ => ⟨rfl, fun h => by omega, fun _ => by simp⟩, fun _ => ⟨fun _ => hz.1 (by omega), fun _ => hz.2.1 (by omega), (fun h => by cases h)⟩⟩
      · exact ⟨rfl, hk5, fun _ => ⟨rfl, fun h => by omega, fun _ => by simp⟩, fun _ => ⟨fun _ => hz.1 (by omega), fun _ => hz.2.1 (by omega), (fun h => by cases h)⟩⟩
      · simp only
        split
        · exact ⟨rfl, hk5, (fun h => by cases h), fun _ => ⟨fun _ => hz.1 (by omega), fun _ => hz.2.1 (by omega), fun _ => Nat.le_refl 3⟩⟩
        · exact ⟨rfl, hk5, fun _ => ⟨rfl, fun h => by omega, fun _ => by simp⟩, fun _ => ⟨fun _ => hz.1 (by omega), fun _ => hz.2.1 (by omega), (fun h => by cases h)⟩⟩
      · exact ⟨rfl, hk5, fun _ => ⟨rfl, fun h => by omega, fun _ => by simp⟩, fun _ => ⟨(fun h => by simp at h), fun _ => hz.2.1 (by omega), (fun h => by cases h)⟩⟩
      · exact ⟨rfl, hk5, (fun h => by cases h), fun _ => ⟨(fun h => by simp at h), (fun h => by simp at h), (fun h => by cases h)⟩⟩

theorem ACell.len_step {C : ACell} (s : AOp) (h : C.L.length = 6) : (s.step C).1.L.length = 6 := by
  unfold AOp.step
  split
  · exact h
  · split
    · split <;> (try split) <;> simp [h]
    · split <;> (try split) <;> simp [h]

theorem sim (k : Nat) (s : AOp) (C : ACell) (t : Int) (hg : s.good k) (hl : C.L.length = 6) : ∃ t', (s.prog k).move (C.mem t) = ((s.step C).2.prog k, (s.step C).1.mem t') := by
  obtain ⟨x, pc, h0, value, why, ended, waits, first⟩ := s
  obtain ⟨hx, hk5, hu, -⟩ := hg
  simp only at hx hu
  subst hx
  cases ended with
  | true =>
    have e1 : (AOp.prog k ⟨(k : Int), pc, h0, value, why, true, waits, first⟩).ended = true := rfl
    exact ⟨t, by rw [OpS.move, if_pos e1, AOp.step, if_pos rfl]⟩
  | false =>
    obtain ⟨hw, hf, hwt⟩ := hu rfl
    subst hw
    by_cases hk : k = 0
    · subst hk
      have hp := hf rfl
      rcases (show pc = 0 ∨ pc = 1 ∨ pc = 2 ∨ pc = 3 by omega) with rfl | rfl | rfl | rfl
      · exact ⟨wrap64 (t + 1), by simp [OpS.move, OpS.run, AOp.prog, AOp.next, AOp.step, OpS.fin, OpS.val, ACell.codeL, ACell.store3]⟩
      · exact ⟨wrap64 (t + 1), by simp [OpS.move, OpS.run, AOp.prog, AOp.next, AOp.step, OpS.fin, OpS.reason, ACell.codeL, ACell.store4]⟩
      · have e1 := C.load t 2 (by omega)
        have e2 : (C.mem t).load 2 = C.mem (wrap64 (t + 1)) := e1
        exact ⟨wrap64 (t + 1), by simp [OpS.move, OpS.run, AOp.prog, AOp.next, AOp.step, OpS.fin, OpS.head, ACell.codeL, ACell.word2, e2]⟩
      · by_cases hE : C.H = h0
        · exact ⟨wrap64 (t + 1), by simp [OpS.move, OpS.run, AOp.prog, AOp.next, AOp.step, OpS.fin, OpS.close, ACell.codeL, ACell.hit, ACell.swap_hit _ _ _ _ hE, hE]⟩
        · exact ⟨wrap64 (t + 1), by simp [OpS.move, OpS.run, AOp.prog, AOp.next, AOp.step, OpS.fin, OpS.close, ACell.codeL, ACell.hit, ACell.swap_miss _ _ _ _ hE, hE]⟩
    · have hp := hwt (by omega)
      have hkp : 0 < k := by omega
      have hk1 : 1 ≤ k := by omega
      rcases (show pc = 0 ∨ pc = 1 ∨ pc = 2 ∨ pc = 3 ∨ pc = 4 by omega) with rfl | rfl | rfl | rfl | rfl
      · have e2 : (C.mem t).load 2 = C.mem (wrap64 (t + 1)) := C.load t 2 (by omega)
        by_cases hE : C.H = -1
        · exact ⟨wrap64 (t + 1), by simp [OpS.move, OpS.run, AOp.prog, AOp.next, AOp.step, OpS.fin, OpS.look, ACell.codeL, ACell.word2, e2, hE, hk, hkp]⟩
        · exact ⟨wrap64 (t + 1), by simp [OpS.move, OpS.run, AOp.prog, AOp.next, AOp.step, OpS.fin, OpS.look, ACell.codeL, ACell.word2, e2, hE, hk, hkp]⟩
      · have e3 := C.codeL t (10 + (k : Int)) (by omega) (by omega)
        exact ⟨wrap64 (t + 1), by simp [OpS.move, OpS.run, AOp.prog, AOp.next, AOp.step, OpS.fin, OpS.tie, e3, ACell.tie C hl t _ k hk1 hk5, hk, hkp]⟩
      · by_cases hE : C.H = h0
        · exact ⟨wrap64 (t + 1), by simp [OpS.move, OpS.run, AOp.prog, AOp.next, AOp.step, OpS.fin, OpS.queue, ACell.codeL, ACell.hit, ACell.swap_hit _ _ _ _ hE, hE, hk, hkp]⟩
        · exact ⟨wrap64 (t + 1), by simp [OpS.move, OpS.run, AOp.prog, AOp.next, AOp.step, OpS.fin, OpS.queue, ACell.codeL, ACell.hit, ACell.swap_miss _ _ _ _ hE, hE, hk, hkp]⟩
      · have e2 : (C.mem t).load 3 = C.mem (wrap64 (t + 1)) := C.load t 3 (by omega)
        exact ⟨wrap64 (t + 1), by simp [OpS.move, OpS.run, AOp.prog, AOp.next, AOp.step, OpS.fin, OpS.told, ACell.codeL, ACell.word3, e2, hk, hkp]⟩
      · have e2 : (C.mem t).load 4 = C.mem (wrap64 (t + 1)) := C.load t 4 (by omega)
        exact ⟨wrap64 (t + 1), by simp [OpS.move, OpS.run, AOp.prog, AOp.next, AOp.step, OpS.fin, OpS.whyS, ACell.codeL, ACell.word4, e2, hk, hkp]⟩

theorem AOp.right (k : Nat) (s : AOp) : (s.prog k).right := by
  refine ⟨?_, by show (0 : Int) ≤ 2; omega, by show (2 : Int) ≤ 1000000; omega⟩
  have e : (s.prog k).next = AOp.next k s := rfl
  rw [e]
  unfold AOp.next
  split
  · split <;> simp
  · split
    · simp
    · split <;> simp

end Go.Proofs.Ytglifjecihmbhaa
