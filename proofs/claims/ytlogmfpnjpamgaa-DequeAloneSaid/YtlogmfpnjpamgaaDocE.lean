/- Layer 9, the document's side: any move. -/
import Derived.Test.YtlogmfpnjpamgaaDocB
import Derived.Test.YtlogmfpnjpamgaaDocC
import Derived.Test.YtlogmfpnjpamgaaDocD
open Go Go.RowKit
namespace Go.Proofs.Ytlogmfpnjpamgaa
set_option linter.unusedVariables false

section
variable {w0 w : World} {v l q room N : Nat} {D : Dq} {x e t : Int}

theorem rcast {f : FuncId} {args : Array Value} {kind : Nat} {r : Value} {D D' : Dq} {o o' : DOp} (h : Calls Try.prog f args w (RPost w0 v l q kind room r D o)) (hd : D = D') (hs : o = o') : Calls Try.prog f args w (RPost w0 v l q kind room r D' o') := hs ▸ hd ▸ h

theorem dv_1_0_0 (hr1 : 1 ≤ room) (hr : room ≤ 1000) (h : RW w0 w v l q 1 room D ⟨0, 1, x, e, t, false, 0, 0⟩) (hD : DqOk 1 room N D) (ho : (⟨0, 0, x, e, t, false, 0, 0⟩ : DOp).Ok 1 room N) (hN : N ≤ 1000000) :
    Calls Try.prog 37 #[.pointer (some ⟨v, 0, none⟩), .pointer (some ⟨q, 0, none⟩)] w (RPost w0 v l q 1 room (.tuple #[]) (DOp.step 1 room D ⟨0, 0, x, e, t, false, 0, 0⟩).2 (DOp.step 1 room D ⟨0, 0, x, e, t, false, 0, 0⟩).1) := by
  obtain ⟨-, -, hp⟩ := ho
  have hp := hp rfl
  simp [DqOk, Ok1, TOk] at hp hD
  by_cases hE : D 0 = room
  · exact rcast (d1_0_0f h hE) (by simp [DOp.step, DOp.step1, hE]) (by simp [DOp.step, DOp.step1, hE])
  · exact rcast (d1_0_0n h hE) (by simp [DOp.step, DOp.step1, hE]) (by simp [DOp.step, DOp.step1, hE])

theorem dv_1_0_1 (hr1 : 1 ≤ room) (hr : room ≤ 1000) (h : RW w0 w v l q 1 room D ⟨0, 2, x, e, t, false, 0, 0⟩) (hD : DqOk 1 room N D) (ho : (⟨0, 1, x, e, t, false, 0, 0⟩ : DOp).Ok 1 room N) (hN : N ≤ 1000000) :
    Calls Try.prog 37 #[.pointer (some ⟨v, 0, none⟩), .pointer (some ⟨q, 0, none⟩)] w (RPost w0 v l q 1 room (.tuple #[]) (DOp.step 1 room D ⟨0, 1, x, e, t, false, 0, 0⟩).2 (DOp.step 1 room D ⟨0, 1, x, e, t, false, 0, 0⟩).1) := by
  obtain ⟨-, -, hp⟩ := ho
  have hp := hp rfl
  simp [DqOk, Ok1, TOk] at hp hD
  obtain ⟨i, hi0⟩ : ∃ i : Nat, e = i := ⟨(e).toNat, by omega⟩
  have hn : e.toNat = i := by omega
  exact rcast (d1_0_1 h hi0 (by omega) hr) (by simp [DOp.step, DOp.step1, hn, hi0]) (by simp [DOp.step, DOp.step1, hn, hi0])

theorem dv_1_0_2 (hr1 : 1 ≤ room) (hr : room ≤ 1000) (h : RW w0 w v l q 1 room D ⟨0, 3, x, e, t, false, 0, 0⟩) (hD : DqOk 1 room N D) (ho : (⟨0, 2, x, e, t, false, 0, 0⟩ : DOp).Ok 1 room N) (hN : N ≤ 1000000) :
    Calls Try.prog 37 #[.pointer (some ⟨v, 0, none⟩), .pointer (some ⟨q, 0, none⟩)] w (RPost w0 v l q 1 room (.tuple #[]) (DOp.step 1 room D ⟨0, 2, x, e, t, false, 0, 0⟩).2 (DOp.step 1 room D ⟨0, 2, x, e, t, false, 0, 0⟩).1) := by
  obtain ⟨-, -, hp⟩ := ho
  have hp := hp rfl
  simp [DqOk, Ok1, TOk] at hp hD
  exact rcast (d1_0_2 h (by omega) (by omega)) (by simp [DOp.step, DOp.step1]) (by simp [DOp.step, DOp.step1])

theorem dv_1_1_0 (hr1 : 1 ≤ room) (hr : room ≤ 1000) (h : RW w0 w v l q 1 room D ⟨1, 1, x, e, t, false, 0, 0⟩) (hD : DqOk 1 room N D) (ho : (⟨1, 0, x, e, t, false, 0, 0⟩ : DOp).Ok 1 room N) (hN : N ≤ 1000000) :
    Calls Try.prog 37 #[.pointer (some ⟨v, 0, none⟩), .pointer (some ⟨q, 0, none⟩)] w (RPost w0 v l q 1 room (.tuple #[]) (DOp.step 1 room D ⟨1, 0, x, e, t, false, 0, 0⟩).2 (DOp.step 1 room D ⟨1, 0, x, e, t, false, 0, 0⟩).1) := by
  obtain ⟨-, -, hp⟩ := ho
  have hp := hp rfl
  simp [DqOk, Ok1, TOk] at hp hD
  by_cases hE : D 0 = 0
  · exact rcast (d1_1_0f h hE) (by simp [DOp.step, DOp.step1, hE]) (by simp [DOp.step, DOp.step1, hE])
  · exact rcast (d1_1_0n h hE) (by simp [DOp.step, DOp.step1, hE]) (by simp [DOp.step, DOp.step1, hE])

theorem dv_1_1_1 (hr1 : 1 ≤ room) (hr : room ≤ 1000) (h : RW w0 w v l q 1 room D ⟨1, 2, x, e, t, false, 0, 0⟩) (hD : DqOk 1 room N D) (ho : (⟨1, 1, x, e, t, false, 0, 0⟩ : DOp).Ok 1 room N) (hN : N ≤ 1000000) :
    Calls Try.prog 37 #[.pointer (some ⟨v, 0, none⟩), .pointer (some ⟨q, 0, none⟩)] w (RPost w0 v l q 1 room (.tuple #[]) (DOp.step 1 room D ⟨1, 1, x, e, t, false, 0, 0⟩).2 (DOp.step 1 room D ⟨1, 1, x, e, t, false, 0, 0⟩).1) := by
  obtain ⟨-, -, hp⟩ := ho
  have hp := hp rfl
  simp [DqOk, Ok1, TOk] at hp hD
  exact rcast (d1_1_1 h (by omega) (by omega)) (by simp [DOp.step, DOp.step1]) (by simp [DOp.step, DOp.step1])

theorem dv_1_1_2 (hr1 : 1 ≤ room) (hr : room ≤ 1000) (h : RW w0 w v l q 1 room D ⟨1, 3, x, e, t, false, 0, 0⟩) (hD : DqOk 1 room N D) (ho : (⟨1, 2, x, e, t, false, 0, 0⟩ : DOp).Ok 1 room N) (hN : N ≤ 1000000) :
    Calls Try.prog 37 #[.pointer (some ⟨v, 0, none⟩), .pointer (some ⟨q, 0, none⟩)] w (RPost w0 v l q 1 room (.tuple #[]) (DOp.step 1 room D ⟨1, 2, x, e, t, false, 0, 0⟩).2 (DOp.step 1 room D ⟨1, 2, x, e, t, false, 0, 0⟩).1) := by
  obtain ⟨-, -, hp⟩ := ho
  have hp := hp rfl
  simp [DqOk, Ok1, TOk] at hp hD
  obtain ⟨i, hi0⟩ : ∃ i : Nat, e - 1 = i := ⟨(e - 1).toNat, by omega⟩
  have hn : e.toNat - 1 = i := by omega
  have he1 : e = (i : Int) + 1 := by omega
  exact rcast (d1_1_2 h he1 (by omega) hr) (by simp [DOp.step, DOp.step1, hn, he1]) (by simp [DOp.step, DOp.step1, hn, he1])

theorem dv_1_1_3 (hr1 : 1 ≤ room) (hr : room ≤ 1000) (h : RW w0 w v l q 1 room D ⟨1, 4, x, e, t, false, 0, 0⟩) (hD : DqOk 1 room N D) (ho : (⟨1, 3, x, e, t, false, 0, 0⟩ : DOp).Ok 1 room N) (hN : N ≤ 1000000) :
    Calls Try.prog 37 #[.pointer (some ⟨v, 0, none⟩), .pointer (some ⟨q, 0, none⟩)] w (RPost w0 v l q 1 room (.tuple #[]) (DOp.step 1 room D ⟨1, 3, x, e, t, false, 0, 0⟩).2 (DOp.step 1 room D ⟨1, 3, x, e, t, false, 0, 0⟩).1) := by
  obtain ⟨-, -, hp⟩ := ho
  have hp := hp rfl
  simp [DqOk, Ok1, TOk] at hp hD
  by_cases hE : D 1 % 65536 < e - 1
  · exact rcast (d1_1_3f h (by omega) (by omega) (by omega) hE) (by simp [DOp.step, DOp.step1, hE]) (by simp [DOp.step, DOp.step1, hE])
  · exact rcast (d1_1_3n h (by omega) (by omega) (by omega) (by omega)) (by simp [DOp.step, DOp.step1, hE]) (by simp [DOp.step, DOp.step1, hE])

theorem dv_1_1_4 (hr1 : 1 ≤ room) (hr : room ≤ 1000) (h : RW w0 w v l q 1 room D ⟨1, 5, x, e, t, false, 0, 0⟩) (hD : DqOk 1 room N D) (ho : (⟨1, 4, x, e, t, false, 0, 0⟩ : DOp).Ok 1 room N) (hN : N ≤ 1000000) :
    Calls Try.prog 37 #[.pointer (some ⟨v, 0, none⟩), .pointer (some ⟨q, 0, none⟩)] w (RPost w0 v l q 1 room (.tuple #[]) (DOp.step 1 room D ⟨1, 4, x, e, t, false, 0, 0⟩).2 (DOp.step 1 room D ⟨1, 4, x, e, t, false, 0, 0⟩).1) := by
  obtain ⟨-, -, hp⟩ := ho
  have hp := hp rfl
  simp [DqOk, Ok1, TOk] at hp hD
  by_cases hE : e - 1 = t % 65536
  · exact rcast (d1_1_4f h (by omega) (by omega) (by omega) (by omega) hE) (by simp [DOp.step, DOp.step1, hE]) (by simp [DOp.step, DOp.step1, hE])
  · exact rcast (d1_1_4n h (by omega) (by omega) (by omega) (by omega) hE) (by simp [DOp.step, DOp.step1, hE]) (by simp [DOp.step, DOp.step1, hE])

theorem dv_1_1_5 (hr1 : 1 ≤ room) (hr : room ≤ 1000) (h : RW w0 w v l q 1 room D ⟨1, 6, x, e, t, false, 0, 0⟩) (hD : DqOk 1 room N D) (ho : (⟨1, 5, x, e, t, false, 0, 0⟩ : DOp).Ok 1 room N) (hN : N ≤ 1000000) :
    Calls Try.prog 37 #[.pointer (some ⟨v, 0, none⟩), .pointer (some ⟨q, 0, none⟩)] w (RPost w0 v l q 1 room (.tuple #[]) (DOp.step 1 room D ⟨1, 5, x, e, t, false, 0, 0⟩).2 (DOp.step 1 room D ⟨1, 5, x, e, t, false, 0, 0⟩).1) := by
  obtain ⟨-, -, hp⟩ := ho
  have hp := hp rfl
  simp [DqOk, Ok1, TOk] at hp hD
  by_cases hE : D 1 = t
  · exact rcast (d1_1_5f h (by omega) (by omega) hE) (by simp [DOp.step, DOp.step1, hE]) (by simp [DOp.step, DOp.step1, hE])
  · exact rcast (d1_1_5n h (by omega) (by omega) hE) (by simp [DOp.step, DOp.step1, hE]) (by simp [DOp.step, DOp.step1, hE])

theorem dv_1_1_6 (hr1 : 1 ≤ room) (hr : room ≤ 1000) (h : RW w0 w v l q 1 room D ⟨1, 7, x, e, t, false, 0, 0⟩) (hD : DqOk 1 room N D) (ho : (⟨1, 6, x, e, t, false, 0, 0⟩ : DOp).Ok 1 room N) (hN : N ≤ 1000000) :
    Calls Try.prog 37 #[.pointer (some ⟨v, 0, none⟩), .pointer (some ⟨q, 0, none⟩)] w (RPost w0 v l q 1 room (.tuple #[]) (DOp.step 1 room D ⟨1, 6, x, e, t, false, 0, 0⟩).2 (DOp.step 1 room D ⟨1, 6, x, e, t, false, 0, 0⟩).1) := by
  obtain ⟨-, -, hp⟩ := ho
  have hp := hp rfl
  simp [DqOk, Ok1, TOk] at hp hD
  exact rcast (d1_1_6 h (by omega) (by omega)) (by simp [DOp.step, DOp.step1]) (by simp [DOp.step, DOp.step1])

theorem dv_1_2_0 (hr1 : 1 ≤ room) (hr : room ≤ 1000) (h : RW w0 w v l q 1 room D ⟨2, 1, x, e, t, false, 0, 0⟩) (hD : DqOk 1 room N D) (ho : (⟨2, 0, x, e, t, false, 0, 0⟩ : DOp).Ok 1 room N) (hN : N ≤ 1000000) :
    Calls Try.prog 37 #[.pointer (some ⟨v, 0, none⟩), .pointer (some ⟨q, 0, none⟩)] w (RPost w0 v l q 1 room (.tuple #[]) (DOp.step 1 room D ⟨2, 0, x, e, t, false, 0, 0⟩).2 (DOp.step 1 room D ⟨2, 0, x, e, t, false, 0, 0⟩).1) := by
  obtain ⟨-, -, hp⟩ := ho
  have hp := hp rfl
  simp [DqOk, Ok1, TOk] at hp hD
  exact rcast (d1_2_0 h) (by simp [DOp.step, DOp.step1]) (by simp [DOp.step, DOp.step1])

theorem dv_1_2_1 (hr1 : 1 ≤ room) (hr : room ≤ 1000) (h : RW w0 w v l q 1 room D ⟨2, 2, x, e, t, false, 0, 0⟩) (hD : DqOk 1 room N D) (ho : (⟨2, 1, x, e, t, false, 0, 0⟩ : DOp).Ok 1 room N) (hN : N ≤ 1000000) :
    Calls Try.prog 37 #[.pointer (some ⟨v, 0, none⟩), .pointer (some ⟨q, 0, none⟩)] w (RPost w0 v l q 1 room (.tuple #[]) (DOp.step 1 room D ⟨2, 1, x, e, t, false, 0, 0⟩).2 (DOp.step 1 room D ⟨2, 1, x, e, t, false, 0, 0⟩).1) := by
  obtain ⟨-, -, hp⟩ := ho
  have hp := hp rfl
  simp [DqOk, Ok1, TOk] at hp hD
  by_cases hE : D 0 ≤ t % 65536
  · exact rcast (d1_2_1f h (by omega) (by omega) hE) (by simp [DOp.step, DOp.step1, hE]) (by simp [DOp.step, DOp.step1, hE])
  · exact rcast (d1_2_1n h (by omega) (by omega) (by omega)) (by simp [DOp.step, DOp.step1, hE]) (by simp [DOp.step, DOp.step1, hE])

theorem dv_1_2_2 (hr1 : 1 ≤ room) (hr : room ≤ 1000) (h : RW w0 w v l q 1 room D ⟨2, 3, x, e, t, false, 0, 0⟩) (hD : DqOk 1 room N D) (ho : (⟨2, 2, x, e, t, false, 0, 0⟩ : DOp).Ok 1 room N) (hN : N ≤ 1000000) :
    Calls Try.prog 37 #[.pointer (some ⟨v, 0, none⟩), .pointer (some ⟨q, 0, none⟩)] w (RPost w0 v l q 1 room (.tuple #[]) (DOp.step 1 room D ⟨2, 2, x, e, t, false, 0, 0⟩).2 (DOp.step 1 room D ⟨2, 2, x, e, t, false, 0, 0⟩).1) := by
  obtain ⟨-, -, hp⟩ := ho
  have hp := hp rfl
  simp [DqOk, Ok1, TOk] at hp hD
  obtain ⟨i, hi0⟩ : ∃ i : Nat, t % 65536 = i := ⟨(t % 65536).toNat, by omega⟩
  have hn : (t % 65536).toNat = i := by omega
  exact rcast (d1_2_2 h (by omega) (by omega) hi0 (by omega) hr) (by simp [DOp.step, DOp.step1, hn, hi0]) (by simp [DOp.step, DOp.step1, hn, hi0])

theorem dv_1_2_3 (hr1 : 1 ≤ room) (hr : room ≤ 1000) (h : RW w0 w v l q 1 room D ⟨2, 4, x, e, t, false, 0, 0⟩) (hD : DqOk 1 room N D) (ho : (⟨2, 3, x, e, t, false, 0, 0⟩ : DOp).Ok 1 room N) (hN : N ≤ 1000000) :
    Calls Try.prog 37 #[.pointer (some ⟨v, 0, none⟩), .pointer (some ⟨q, 0, none⟩)] w (RPost w0 v l q 1 room (.tuple #[]) (DOp.step 1 room D ⟨2, 3, x, e, t, false, 0, 0⟩).2 (DOp.step 1 room D ⟨2, 3, x, e, t, false, 0, 0⟩).1) := by
  obtain ⟨-, -, hp⟩ := ho
  have hp := hp rfl
  simp [DqOk, Ok1, TOk] at hp hD
  by_cases hE : D 1 = t
  · exact rcast (d1_2_3f h (by omega) (by omega) hE) (by simp [DOp.step, DOp.step1, hE]) (by simp [DOp.step, DOp.step1, hE])
  · exact rcast (d1_2_3n h (by omega) (by omega) hE) (by simp [DOp.step, DOp.step1, hE]) (by simp [DOp.step, DOp.step1, hE])

theorem dv_1 (hr1 : 1 ≤ room) (hr : room ≤ 1000) (s : DOp) (h : RW w0 w v l q 1 room D { s with next := s.next + 1 }) (hD : DqOk 1 room N D) (ho : s.Ok 1 room N) (hN : N ≤ 1000000) (he : s.ended = false) :
    Calls Try.prog 37 #[.pointer (some ⟨v, 0, none⟩), .pointer (some ⟨q, 0, none⟩)] w (RPost w0 v l q 1 room (.tuple #[]) (s.step 1 room D).2 (s.step 1 room D).1) := by
  obtain ⟨what, next, x, e, t, ended, result, why⟩ := s
  simp only at he
  subst he
  have hz := ho.zero rfl
  have hw := ho.what
  have hp := ho.pc rfl
  simp only at hz hw
  obtain ⟨rfl, rfl⟩ := hz
  simp [Ok1] at hp
  rcases three_cases hw with rfl | rfl | rfl
  · rcases (show next = 0 ∨ next = 1 ∨ next = 2 by omega) with rfl | rfl | rfl
    · exact dv_1_0_0 hr1 hr h hD ho hN
    · exact dv_1_0_1 hr1 hr h hD ho hN
    · exact dv_1_0_2 hr1 hr h hD ho hN
  · rcases (show next = 0 ∨ next = 1 ∨ next = 2 ∨ next = 3 ∨ next = 4 ∨ next = 5 ∨ next = 6 by omega) with rfl | rfl | rfl | rfl | rfl | rfl | rfl
    · exact dv_1_1_0 hr1 hr h hD ho hN
    · exact dv_1_1_1 hr1 hr h hD ho hN
    · exact dv_1_1_2 hr1 hr h hD ho hN
    · exact dv_1_1_3 hr1 hr h hD ho hN
    · exact dv_1_1_4 hr1 hr h hD ho hN
    · exact dv_1_1_5 hr1 hr h hD ho hN
    · exact dv_1_1_6 hr1 hr h hD ho hN
  · rcases (show next = 0 ∨ next = 1 ∨ next = 2 ∨ next = 3 by omega) with rfl | rfl | rfl | rfl
    · exact dv_1_2_0 hr1 hr h hD ho hN
    · exact dv_1_2_1 hr1 hr h hD ho hN
    · exact dv_1_2_2 hr1 hr h hD ho hN
    · exact dv_1_2_3 hr1 hr h hD ho hN

theorem dv_2_0_0 (hr1 : 1 ≤ room) (hr : room ≤ 1000) (h : RW w0 w v l q 2 room D ⟨0, 1, x, e, t, false, 0, 0⟩) (hD : DqOk 2 room N D) (ho : (⟨0, 0, x, e, t, false, 0, 0⟩ : DOp).Ok 2 room N) (hN : N ≤ 1000000) :
    Calls Try.prog 38 #[.pointer (some ⟨v, 0, none⟩), .pointer (some ⟨q, 0, none⟩)] w (RPost w0 v l q 2 room (.tuple #[]) (DOp.step 2 room D ⟨0, 0, x, e, t, false, 0, 0⟩).2 (DOp.step 2 room D ⟨0, 0, x, e, t, false, 0, 0⟩).1) := by
  obtain ⟨-, -, hp⟩ := ho
  have hp := hp rfl
  simp [DqOk, Ok2, TOk] at hp hD
  by_cases hE : D 1 % 65536 = room
  · exact rcast (d2_0_0f h (by omega) hE) (by simp [DOp.step, DOp.step2, hE]) (by simp [DOp.step, DOp.step2, hE])
  · exact rcast (d2_0_0n h (by omega) hE) (by simp [DOp.step, DOp.step2, hE]) (by simp [DOp.step, DOp.step2, hE])

theorem dv_2_0_1 (hr1 : 1 ≤ room) (hr : room ≤ 1000) (h : RW w0 w v l q 2 room D ⟨0, 2, x, e, t, false, 0, 0⟩) (hD : DqOk 2 room N D) (ho : (⟨0, 1, x, e, t, false, 0, 0⟩ : DOp).Ok 2 room N) (hN : N ≤ 1000000) :
    Calls Try.prog 38 #[.pointer (some ⟨v, 0, none⟩), .pointer (some ⟨q, 0, none⟩)] w (RPost w0 v l q 2 room (.tuple #[]) (DOp.step 2 room D ⟨0, 1, x, e, t, false, 0, 0⟩).2 (DOp.step 2 room D ⟨0, 1, x, e, t, false, 0, 0⟩).1) := by
  obtain ⟨-, -, hp⟩ := ho
  have hp := hp rfl
  simp [DqOk, Ok2, TOk] at hp hD
  obtain ⟨i, hi0⟩ : ∃ i : Nat, t % 65536 = i := ⟨(t % 65536).toNat, by omega⟩
  have hn : (t % 65536).toNat = i := by omega
  exact rcast (d2_0_1 h (by omega) (by omega) hi0 (by omega) hr) (by simp [DOp.step, DOp.step2, hn, hi0]) (by simp [DOp.step, DOp.step2, hn, hi0])

theorem dv_2_0_2 (hr1 : 1 ≤ room) (hr : room ≤ 1000) (h : RW w0 w v l q 2 room D ⟨0, 3, x, e, t, false, 0, 0⟩) (hD : DqOk 2 room N D) (ho : (⟨0, 2, x, e, t, false, 0, 0⟩ : DOp).Ok 2 room N) (hN : N ≤ 1000000) :
    Calls Try.prog 38 #[.pointer (some ⟨v, 0, none⟩), .pointer (some ⟨q, 0, none⟩)] w (RPost w0 v l q 2 room (.tuple #[]) (DOp.step 2 room D ⟨0, 2, x, e, t, false, 0, 0⟩).2 (DOp.step 2 room D ⟨0, 2, x, e, t, false, 0, 0⟩).1) := by
  obtain ⟨-, -, hp⟩ := ho
  have hp := hp rfl
  simp [DqOk, Ok2, TOk] at hp hD
  exact rcast (d2_0_2 h (by omega) (by omega)) (by simp [DOp.step, DOp.step2]) (by simp [DOp.step, DOp.step2])

theorem dv_2_1_0 (hr1 : 1 ≤ room) (hr : room ≤ 1000) (h : RW w0 w v l q 2 room D ⟨1, 1, x, e, t, false, 0, 0⟩) (hD : DqOk 2 room N D) (ho : (⟨1, 0, x, e, t, false, 0, 0⟩ : DOp).Ok 2 room N) (hN : N ≤ 1000000) :
    Calls Try.prog 38 #[.pointer (some ⟨v, 0, none⟩), .pointer (some ⟨q, 0, none⟩)] w (RPost w0 v l q 2 room (.tuple #[]) (DOp.step 2 room D ⟨1, 0, x, e, t, false, 0, 0⟩).2 (DOp.step 2 room D ⟨1, 0, x, e, t, false, 0, 0⟩).1) := by
  obtain ⟨-, -, hp⟩ := ho
  have hp := hp rfl
  simp [DqOk, Ok2, TOk] at hp hD
  by_cases hE : D 1 % 65536 = 0
  · exact rcast (d2_1_0f h (by omega) hE) (by simp [DOp.step, DOp.step2, hE]) (by simp [DOp.step, DOp.step2, hE])
  · exact rcast (d2_1_0n h (by omega) hE) (by simp [DOp.step, DOp.step2, hE]) (by simp [DOp.step, DOp.step2, hE])

theorem dv_2_1_1 (hr1 : 1 ≤ room) (hr : room ≤ 1000) (h : RW w0 w v l q 2 room D ⟨1, 2, x, e, t, false, 0, 0⟩) (hD : DqOk 2 room N D) (ho : (⟨1, 1, x, e, t, false, 0, 0⟩ : DOp).Ok 2 room N) (hN : N ≤ 1000000) :
    Calls Try.prog 38 #[.pointer (some ⟨v, 0, none⟩), .pointer (some ⟨q, 0, none⟩)] w (RPost w0 v l q 2 room (.tuple #[]) (DOp.step 2 room D ⟨1, 1, x, e, t, false, 0, 0⟩).2 (DOp.step 2 room D ⟨1, 1, x, e, t, false, 0, 0⟩).1) := by
  obtain ⟨-, -, hp⟩ := ho
  have hp := hp rfl
  simp [DqOk, Ok2, TOk] at hp hD
  obtain ⟨i, hi0⟩ : ∃ i : Nat, t % 65536 - 1 = i := ⟨(t % 65536 - 1).toNat, by omega⟩
  have hn : (t % 65536).toNat - 1 = i := by omega
  have he1 : t % 65536 = (i : Int) + 1 := by omega
  exact rcast (d2_1_1 h (by omega) (by omega) he1 (by omega) hr) (by simp [DOp.step, DOp.step2, hn]) (by simp [DOp.step, DOp.step2, hn])

theorem dv_2_2_0 (hr1 : 1 ≤ room) (hr : room ≤ 1000) (h : RW w0 w v l q 2 room D ⟨2, 1, x, e, t, false, 0, 0⟩) (hD : DqOk 2 room N D) (ho : (⟨2, 0, x, e, t, false, 0, 0⟩ : DOp).Ok 2 room N) (hN : N ≤ 1000000) :
    Calls Try.prog 38 #[.pointer (some ⟨v, 0, none⟩), .pointer (some ⟨q, 0, none⟩)] w (RPost w0 v l q 2 room (.tuple #[]) (DOp.step 2 room D ⟨2, 0, x, e, t, false, 0, 0⟩).2 (DOp.step 2 room D ⟨2, 0, x, e, t, false, 0, 0⟩).1) := by
  obtain ⟨-, -, hp⟩ := ho
  have hp := hp rfl
  simp [DqOk, Ok2, TOk] at hp hD
  by_cases hE : D 1 % 65536 = 0
  · exact rcast (d2_2_0f h (by omega) hE) (by simp [DOp.step, DOp.step2, hE]) (by simp [DOp.step, DOp.step2, hE])
  · exact rcast (d2_2_0n h (by omega) hE) (by simp [DOp.step, DOp.step2, hE]) (by simp [DOp.step, DOp.step2, hE])

theorem dv_2_2_1 (hr1 : 1 ≤ room) (hr : room ≤ 1000) (h : RW w0 w v l q 2 room D ⟨2, 2, x, e, t, false, 0, 0⟩) (hD : DqOk 2 room N D) (ho : (⟨2, 1, x, e, t, false, 0, 0⟩ : DOp).Ok 2 room N) (hN : N ≤ 1000000) :
    Calls Try.prog 38 #[.pointer (some ⟨v, 0, none⟩), .pointer (some ⟨q, 0, none⟩)] w (RPost w0 v l q 2 room (.tuple #[]) (DOp.step 2 room D ⟨2, 1, x, e, t, false, 0, 0⟩).2 (DOp.step 2 room D ⟨2, 1, x, e, t, false, 0, 0⟩).1) := by
  obtain ⟨-, -, hp⟩ := ho
  have hp := hp rfl
  simp [DqOk, Ok2, TOk] at hp hD
  obtain ⟨i, hi0⟩ : ∃ i : Nat, t % 65536 - 1 = i := ⟨(t % 65536 - 1).toNat, by omega⟩
  have hn : (t % 65536).toNat - 1 = i := by omega
  have he1 : t % 65536 = (i : Int) + 1 := by omega
  exact rcast (d2_2_1 h (by omega) (by omega) he1 (by omega) hr) (by simp [DOp.step, DOp.step2, hn]) (by simp [DOp.step, DOp.step2, hn])

theorem dv_2_1_2 (hr1 : 1 ≤ room) (hr : room ≤ 1000) (h : RW w0 w v l q 2 room D ⟨1, 3, x, e, t, false, 0, 0⟩) (hD : DqOk 2 room N D) (ho : (⟨1, 2, x, e, t, false, 0, 0⟩ : DOp).Ok 2 room N) (hN : N ≤ 1000000) :
    Calls Try.prog 38 #[.pointer (some ⟨v, 0, none⟩), .pointer (some ⟨q, 0, none⟩)] w (RPost w0 v l q 2 room (.tuple #[]) (DOp.step 2 room D ⟨1, 2, x, e, t, false, 0, 0⟩).2 (DOp.step 2 room D ⟨1, 2, x, e, t, false, 0, 0⟩).1) := by
  obtain ⟨-, -, hp⟩ := ho
  have hp := hp rfl
  simp [DqOk, Ok2, TOk] at hp hD
  exact rcast (d2_1_2 h (by omega) (by omega)) (by simp [DOp.step, DOp.step2]) (by simp [DOp.step, DOp.step2])

theorem dv_2_2_2 (hr1 : 1 ≤ room) (hr : room ≤ 1000) (h : RW w0 w v l q 2 room D ⟨2, 3, x, e, t, false, 0, 0⟩) (hD : DqOk 2 room N D) (ho : (⟨2, 2, x, e, t, false, 0, 0⟩ : DOp).Ok 2 room N) (hN : N ≤ 1000000) :
    Calls Try.prog 38 #[.pointer (some ⟨v, 0, none⟩), .pointer (some ⟨q, 0, none⟩)] w (RPost w0 v l q 2 room (.tuple #[]) (DOp.step 2 room D ⟨2, 2, x, e, t, false, 0, 0⟩).2 (DOp.step 2 room D ⟨2, 2, x, e, t, false, 0, 0⟩).1) := by
  obtain ⟨-, -, hp⟩ := ho
  have hp := hp rfl
  simp [DqOk, Ok2, TOk] at hp hD
  by_cases hE : D 1 = t
  · exact rcast (d2_2_2f h (by omega) (by omega) hE) (by simp [DOp.step, DOp.step2, hE]) (by simp [DOp.step, DOp.step2, hE])
  · exact rcast (d2_2_2n h (by omega) (by omega) hE) (by simp [DOp.step, DOp.step2, hE]) (by simp [DOp.step, DOp.step2, hE])

theorem dv_2 (hr1 : 1 ≤ room) (hr : room ≤ 1000) (s : DOp) (h : RW w0 w v l q 2 room D { s with next := s.next + 1 }) (hD : DqOk 2 room N D) (ho : s.Ok 2 room N) (hN : N ≤ 1000000) (he : s.ended = false) :
    Calls Try.prog 38 #[.pointer (some ⟨v, 0, none⟩), .pointer (some ⟨q, 0, none⟩)] w (RPost w0 v l q 2 room (.tuple #[]) (s.step 2 room D).2 (s.step 2 room D).1) := by
  obtain ⟨what, next, x, e, t, ended, result, why⟩ := s
  simp only at he
  subst he
  have hz := ho.zero rfl
  have hw := ho.what
  have hp := ho.pc rfl
  simp only at hz hw
  obtain ⟨rfl, rfl⟩ := hz
  simp [Ok2] at hp
  rcases three_cases hw with rfl | rfl | rfl
  · rcases (show next = 0 ∨ next = 1 ∨ next = 2 by omega) with rfl | rfl | rfl
    · exact dv_2_0_0 hr1 hr h hD ho hN
    · exact dv_2_0_1 hr1 hr h hD ho hN
    · exact dv_2_0_2 hr1 hr h hD ho hN
  · rcases (show next = 0 ∨ next = 1 ∨ next = 2 by omega) with rfl | rfl | rfl
    · exact dv_2_1_0 hr1 hr h hD ho hN
    · exact dv_2_1_1 hr1 hr h hD ho hN
    · exact dv_2_1_2 hr1 hr h hD ho hN
  · rcases (show next = 0 ∨ next = 1 ∨ next = 2 by omega) with rfl | rfl | rfl
    · exact dv_2_2_0 hr1 hr h hD ho hN
    · exact dv_2_2_1 hr1 hr h hD ho hN
    · exact dv_2_2_2 hr1 hr h hD ho hN

theorem dv_3_0_0 (hr1 : 1 ≤ room) (hr : room ≤ 1000) (h : RW w0 w v l q 3 room D ⟨0, 1, x, e, t, false, 0, 0⟩) (hD : DqOk 3 room N D) (ho : (⟨0, 0, x, e, t, false, 0, 0⟩ : DOp).Ok 3 room N) (hN : N ≤ 1000000) :
    Calls Try.prog 39 #[.pointer (some ⟨v, 0, none⟩), .pointer (some ⟨q, 0, none⟩)] w (RPost w0 v l q 3 room (.tuple #[]) (DOp.step 3 room D ⟨0, 0, x, e, t, false, 0, 0⟩).2 (DOp.step 3 room D ⟨0, 0, x, e, t, false, 0, 0⟩).1) := by
  obtain ⟨-, -, hp⟩ := ho
  have hp := hp rfl
  simp [DqOk, Ok3] at hp hD
  exact rcast (d3_0_0 h) (by simp [DOp.step, DOp.step3]) (by simp [DOp.step, DOp.step3])

theorem dv_3_1_0 (hr1 : 1 ≤ room) (hr : room ≤ 1000) (h : RW w0 w v l q 3 room D ⟨1, 1, x, e, t, false, 0, 0⟩) (hD : DqOk 3 room N D) (ho : (⟨1, 0, x, e, t, false, 0, 0⟩ : DOp).Ok 3 room N) (hN : N ≤ 1000000) :
    Calls Try.prog 39 #[.pointer (some ⟨v, 0, none⟩), .pointer (some ⟨q, 0, none⟩)] w (RPost w0 v l q 3 room (.tuple #[]) (DOp.step 3 room D ⟨1, 0, x, e, t, false, 0, 0⟩).2 (DOp.step 3 room D ⟨1, 0, x, e, t, false, 0, 0⟩).1) := by
  obtain ⟨-, -, hp⟩ := ho
  have hp := hp rfl
  simp [DqOk, Ok3] at hp hD
  exact rcast (d3_1_0 h) (by simp [DOp.step, DOp.step3]) (by simp [DOp.step, DOp.step3])

theorem dv_3_2_0 (hr1 : 1 ≤ room) (hr : room ≤ 1000) (h : RW w0 w v l q 3 room D ⟨2, 1, x, e, t, false, 0, 0⟩) (hD : DqOk 3 room N D) (ho : (⟨2, 0, x, e, t, false, 0, 0⟩ : DOp).Ok 3 room N) (hN : N ≤ 1000000) :
    Calls Try.prog 39 #[.pointer (some ⟨v, 0, none⟩), .pointer (some ⟨q, 0, none⟩)] w (RPost w0 v l q 3 room (.tuple #[]) (DOp.step 3 room D ⟨2, 0, x, e, t, false, 0, 0⟩).2 (DOp.step 3 room D ⟨2, 0, x, e, t, false, 0, 0⟩).1) := by
  obtain ⟨-, -, hp⟩ := ho
  have hp := hp rfl
  simp [DqOk, Ok3] at hp hD
  exact rcast (d3_2_0 h) (by simp [DOp.step, DOp.step3]) (by simp [DOp.step, DOp.step3])

theorem dv_3_0_1 (hr1 : 1 ≤ room) (hr : room ≤ 1000) (h : RW w0 w v l q 3 room D ⟨0, 2, x, e, t, false, 0, 0⟩) (hD : DqOk 3 room N D) (ho : (⟨0, 1, x, e, t, false, 0, 0⟩ : DOp).Ok 3 room N) (hN : N ≤ 1000000) :
    Calls Try.prog 39 #[.pointer (some ⟨v, 0, none⟩), .pointer (some ⟨q, 0, none⟩)] w (RPost w0 v l q 3 room (.tuple #[]) (DOp.step 3 room D ⟨0, 1, x, e, t, false, 0, 0⟩).2 (DOp.step 3 room D ⟨0, 1, x, e, t, false, 0, 0⟩).1) := by
  obtain ⟨-, -, hp⟩ := ho
  have hp := hp rfl
  simp [DqOk, Ok3] at hp hD
  by_cases hE : (room : Int) ≤ D 0 - t
  · exact rcast (d3_0_1f h (by omega) (by omega) (by omega) (by omega) hE) (by simp [DOp.step, DOp.step3, hE]) (by simp [DOp.step, DOp.step3, hE])
  · exact rcast (d3_0_1n h (by omega) (by omega) (by omega) (by omega) (by omega)) (by simp [DOp.step, DOp.step3, hE]) (by simp [DOp.step, DOp.step3, hE])

theorem dv_3_0_2 (hr1 : 1 ≤ room) (hr : room ≤ 1000) (h : RW w0 w v l q 3 room D ⟨0, 3, x, e, t, false, 0, 0⟩) (hD : DqOk 3 room N D) (ho : (⟨0, 2, x, e, t, false, 0, 0⟩ : DOp).Ok 3 room N) (hN : N ≤ 1000000) :
    Calls Try.prog 39 #[.pointer (some ⟨v, 0, none⟩), .pointer (some ⟨q, 0, none⟩)] w (RPost w0 v l q 3 room (.tuple #[]) (DOp.step 3 room D ⟨0, 2, x, e, t, false, 0, 0⟩).2 (DOp.step 3 room D ⟨0, 2, x, e, t, false, 0, 0⟩).1) := by
  obtain ⟨-, -, hp⟩ := ho
  have hp := hp rfl
  simp [DqOk, Ok3] at hp hD
  obtain ⟨i, hi0⟩ : ∃ i : Nat, e % (room : Int) = i := ⟨(e % (room : Int)).toNat, by have := Int.emod_nonneg e (show (room : Int) ≠ 0 by omega); omega⟩
  have hn : e.toNat % room = i := by have := Int.toNat_emod (x := e) (y := (room : Int)) (by omega) (by omega); simp at this; omega
  have hl : (i : Int) < room := by have := Int.emod_lt_of_pos e (show (0 : Int) < room by omega); omega
  exact rcast (d3_0_2 h (by omega) hi0 (by omega) hr) (by simp [DOp.step, DOp.step3, hn]) (by simp [DOp.step, DOp.step3, hn])

theorem dv_3_0_3 (hr1 : 1 ≤ room) (hr : room ≤ 1000) (h : RW w0 w v l q 3 room D ⟨0, 4, x, e, t, false, 0, 0⟩) (hD : DqOk 3 room N D) (ho : (⟨0, 3, x, e, t, false, 0, 0⟩ : DOp).Ok 3 room N) (hN : N ≤ 1000000) :
    Calls Try.prog 39 #[.pointer (some ⟨v, 0, none⟩), .pointer (some ⟨q, 0, none⟩)] w (RPost w0 v l q 3 room (.tuple #[]) (DOp.step 3 room D ⟨0, 3, x, e, t, false, 0, 0⟩).2 (DOp.step 3 room D ⟨0, 3, x, e, t, false, 0, 0⟩).1) := by
  obtain ⟨-, -, hp⟩ := ho
  have hp := hp rfl
  simp [DqOk, Ok3] at hp hD
  exact rcast (d3_0_3 h (by omega) (by omega)) (by simp [DOp.step, DOp.step3]) (by simp [DOp.step, DOp.step3])

theorem dv_3_1_1 (hr1 : 1 ≤ room) (hr : room ≤ 1000) (h : RW w0 w v l q 3 room D ⟨1, 2, x, e, t, false, 0, 0⟩) (hD : DqOk 3 room N D) (ho : (⟨1, 1, x, e, t, false, 0, 0⟩ : DOp).Ok 3 room N) (hN : N ≤ 1000000) :
    Calls Try.prog 39 #[.pointer (some ⟨v, 0, none⟩), .pointer (some ⟨q, 0, none⟩)] w (RPost w0 v l q 3 room (.tuple #[]) (DOp.step 3 room D ⟨1, 1, x, e, t, false, 0, 0⟩).2 (DOp.step 3 room D ⟨1, 1, x, e, t, false, 0, 0⟩).1) := by
  obtain ⟨-, -, hp⟩ := ho
  have hp := hp rfl
  simp [DqOk, Ok3] at hp hD
  by_cases hE : D 0 ≤ t
  · exact rcast (d3_1_1f h hE) (by simp [DOp.step, DOp.step3, hE]) (by simp [DOp.step, DOp.step3, hE])
  · exact rcast (d3_1_1n h (by omega)) (by simp [DOp.step, DOp.step3, hE]) (by simp [DOp.step, DOp.step3, hE])

theorem dv_3_1_2 (hr1 : 1 ≤ room) (hr : room ≤ 1000) (h : RW w0 w v l q 3 room D ⟨1, 3, x, e, t, false, 0, 0⟩) (hD : DqOk 3 room N D) (ho : (⟨1, 2, x, e, t, false, 0, 0⟩ : DOp).Ok 3 room N) (hN : N ≤ 1000000) :
    Calls Try.prog 39 #[.pointer (some ⟨v, 0, none⟩), .pointer (some ⟨q, 0, none⟩)] w (RPost w0 v l q 3 room (.tuple #[]) (DOp.step 3 room D ⟨1, 2, x, e, t, false, 0, 0⟩).2 (DOp.step 3 room D ⟨1, 2, x, e, t, false, 0, 0⟩).1) := by
  obtain ⟨-, -, hp⟩ := ho
  have hp := hp rfl
  simp [DqOk, Ok3] at hp hD
  obtain ⟨i, hi0⟩ : ∃ i : Nat, t % (room : Int) = i := ⟨(t % (room : Int)).toNat, by have := Int.emod_nonneg t (show (room : Int) ≠ 0 by omega); omega⟩
  have hn : t.toNat % room = i := by have := Int.toNat_emod (x := t) (y := (room : Int)) (by omega) (by omega); simp at this; omega
  have hl : (i : Int) < room := by have := Int.emod_lt_of_pos t (show (0 : Int) < room by omega); omega
  exact rcast (d3_1_2 h (by omega) hi0 (by omega) hr) (by simp [DOp.step, DOp.step3, hn]) (by simp [DOp.step, DOp.step3, hn])

theorem dv_3_2_1 (hr1 : 1 ≤ room) (hr : room ≤ 1000) (h : RW w0 w v l q 3 room D ⟨2, 2, x, e, t, false, 0, 0⟩) (hD : DqOk 3 room N D) (ho : (⟨2, 1, x, e, t, false, 0, 0⟩ : DOp).Ok 3 room N) (hN : N ≤ 1000000) :
    Calls Try.prog 39 #[.pointer (some ⟨v, 0, none⟩), .pointer (some ⟨q, 0, none⟩)] w (RPost w0 v l q 3 room (.tuple #[]) (DOp.step 3 room D ⟨2, 1, x, e, t, false, 0, 0⟩).2 (DOp.step 3 room D ⟨2, 1, x, e, t, false, 0, 0⟩).1) := by
  obtain ⟨-, -, hp⟩ := ho
  have hp := hp rfl
  simp [DqOk, Ok3] at hp hD
  by_cases hE : D 0 ≤ t
  · exact rcast (d3_2_1f h hE) (by simp [DOp.step, DOp.step3, hE]) (by simp [DOp.step, DOp.step3, hE])
  · exact rcast (d3_2_1n h (by omega)) (by simp [DOp.step, DOp.step3, hE]) (by simp [DOp.step, DOp.step3, hE])

theorem dv_3_2_2 (hr1 : 1 ≤ room) (hr : room ≤ 1000) (h : RW w0 w v l q 3 room D ⟨2, 3, x, e, t, false, 0, 0⟩) (hD : DqOk 3 room N D) (ho : (⟨2, 2, x, e, t, false, 0, 0⟩ : DOp).Ok 3 room N) (hN : N ≤ 1000000) :
    Calls Try.prog 39 #[.pointer (some ⟨v, 0, none⟩), .pointer (some ⟨q, 0, none⟩)] w (RPost w0 v l q 3 room (.tuple #[]) (DOp.step 3 room D ⟨2, 2, x, e, t, false, 0, 0⟩).2 (DOp.step 3 room D ⟨2, 2, x, e, t, false, 0, 0⟩).1) := by
  obtain ⟨-, -, hp⟩ := ho
  have hp := hp rfl
  simp [DqOk, Ok3] at hp hD
  obtain ⟨i, hi0⟩ : ∃ i : Nat, t % (room : Int) = i := ⟨(t % (room : Int)).toNat, by have := Int.emod_nonneg t (show (room : Int) ≠ 0 by omega); omega⟩
  have hn : t.toNat % room = i := by have := Int.toNat_emod (x := t) (y := (room : Int)) (by omega) (by omega); simp at this; omega
  have hl : (i : Int) < room := by have := Int.emod_lt_of_pos t (show (0 : Int) < room by omega); omega
  exact rcast (d3_2_2 h (by omega) hi0 (by omega) hr) (by simp [DOp.step, DOp.step3, hn]) (by simp [DOp.step, DOp.step3, hn])

theorem dv_3_1_3 (hr1 : 1 ≤ room) (hr : room ≤ 1000) (h : RW w0 w v l q 3 room D ⟨1, 4, x, e, t, false, 0, 0⟩) (hD : DqOk 3 room N D) (ho : (⟨1, 3, x, e, t, false, 0, 0⟩ : DOp).Ok 3 room N) (hN : N ≤ 1000000) :
    Calls Try.prog 39 #[.pointer (some ⟨v, 0, none⟩), .pointer (some ⟨q, 0, none⟩)] w (RPost w0 v l q 3 room (.tuple #[]) (DOp.step 3 room D ⟨1, 3, x, e, t, false, 0, 0⟩).2 (DOp.step 3 room D ⟨1, 3, x, e, t, false, 0, 0⟩).1) := by
  obtain ⟨-, -, hp⟩ := ho
  have hp := hp rfl
  simp [DqOk, Ok3] at hp hD
  exact rcast (d3_1_3 h (by omega) (by omega)) (by simp [DOp.step, DOp.step3]) (by simp [DOp.step, DOp.step3])

theorem dv_3_2_3 (hr1 : 1 ≤ room) (hr : room ≤ 1000) (h : RW w0 w v l q 3 room D ⟨2, 4, x, e, t, false, 0, 0⟩) (hD : DqOk 3 room N D) (ho : (⟨2, 3, x, e, t, false, 0, 0⟩ : DOp).Ok 3 room N) (hN : N ≤ 1000000) :
    Calls Try.prog 39 #[.pointer (some ⟨v, 0, none⟩), .pointer (some ⟨q, 0, none⟩)] w (RPost w0 v l q 3 room (.tuple #[]) (DOp.step 3 room D ⟨2, 3, x, e, t, false, 0, 0⟩).2 (DOp.step 3 room D ⟨2, 3, x, e, t, false, 0, 0⟩).1) := by
  obtain ⟨-, -, hp⟩ := ho
  have hp := hp rfl
  simp [DqOk, Ok3] at hp hD
  by_cases hE : D 1 = t
  · exact rcast (d3_2_3f h (by omega) (by omega) hE) (by simp [DOp.step, DOp.step3, hE]) (by simp [DOp.step, DOp.step3, hE])
  · exact rcast (d3_2_3n h (by omega) (by omega) hE) (by simp [DOp.step, DOp.step3, hE]) (by simp [DOp.step, DOp.step3, hE])

theorem dv_3 (hr1 : 1 ≤ room) (hr : room ≤ 1000) (s : DOp) (h : RW w0 w v l q 3 room D { s with next := s.next + 1 }) (hD : DqOk 3 room N D) (ho : s.Ok 3 room N) (hN : N ≤ 1000000) (he : s.ended = false) :
    Calls Try.prog 39 #[.pointer (some ⟨v, 0, none⟩), .pointer (some ⟨q, 0, none⟩)] w (RPost w0 v l q 3 room (.tuple #[]) (s.step 3 room D).2 (s.step 3 room D).1) := by
  obtain ⟨what, next, x, e, t, ended, result, why⟩ := s
  simp only at he
  subst he
  have hz := ho.zero rfl
  have hw := ho.what
  have hp := ho.pc rfl
  simp only at hz hw
  obtain ⟨rfl, rfl⟩ := hz
  simp [Ok3] at hp
  rcases three_cases hw with rfl | rfl | rfl
  · rcases (show next = 0 ∨ next = 1 ∨ next = 2 ∨ next = 3 by omega) with rfl | rfl | rfl | rfl
    · exact dv_3_0_0 hr1 hr h hD ho hN
    · exact dv_3_0_1 hr1 hr h hD ho hN
    · exact dv_3_0_2 hr1 hr h hD ho hN
    · exact dv_3_0_3 hr1 hr h hD ho hN
  · rcases (show next = 0 ∨ next = 1 ∨ next = 2 ∨ next = 3 by omega) with rfl | rfl | rfl | rfl
    · exact dv_3_1_0 hr1 hr h hD ho hN
    · exact dv_3_1_1 hr1 hr h hD ho hN
    · exact dv_3_1_2 hr1 hr h hD ho hN
    · exact dv_3_1_3 hr1 hr h hD ho hN
  · rcases (show next = 0 ∨ next = 1 ∨ next = 2 ∨ next = 3 by omega) with rfl | rfl | rfl | rfl
    · exact dv_3_2_0 hr1 hr h hD ho hN
    · exact dv_3_2_1 hr1 hr h hD ho hN
    · exact dv_3_2_2 hr1 hr h hD ho hN
    · exact dv_3_2_3 hr1 hr h hD ho hN

end

section
variable {w0 w : World} {v l q kind room N : Nat} {D : Dq}

theorem doc_ended (s : DOp) (h : RW w0 w v l q kind room D s) (he : s.ended = true) :
    Calls Try.prog 27 #[.pointer (some ⟨v, 0, none⟩), .pointer (some ⟨q, 0, none⟩)] w (RPost w0 v l q kind room (.tuple #[]) D s) := by
  have c5 := h.op.cell 5
  simp [DOp.cells] at c5
  rw [he] at c5
  have H := Lib.hid h
  clear h he
  go_enter Try.func27, Try.ntmps27
  go_wp2_with fail
  exact bodyPost_ret (v := .tuple #[]) (results_none rfl _ _ _) rfl ⟨rfl, H.out⟩

theorem doc_go (s : DOp) (h : RW w0 w v l q kind room D s) (he : s.ended = false) (hn : s.next ≤ 6) (hk : kind = 1 ∨ kind = 2 ∨ kind = 3) {D' : Dq} {s' : DOp}
    (hc1 : kind = 1 → ∀ w1, RW w0 w1 v l q kind room D { s with next := s.next + 1 } → Calls Try.prog 37 #[.pointer (some ⟨v, 0, none⟩), .pointer (some ⟨q, 0, none⟩)] w1 (RPost w0 v l q kind room (.tuple #[]) D' s'))
    (hc2 : kind = 2 → ∀ w1, RW w0 w1 v l q kind room D { s with next := s.next + 1 } → Calls Try.prog 38 #[.pointer (some ⟨v, 0, none⟩), .pointer (some ⟨q, 0, none⟩)] w1 (RPost w0 v l q kind room (.tuple #[]) D' s'))
    (hc3 : kind = 3 → ∀ w1, RW w0 w1 v l q kind room D { s with next := s.next + 1 } → Calls Try.prog 39 #[.pointer (some ⟨v, 0, none⟩), .pointer (some ⟨q, 0, none⟩)] w1 (RPost w0 v l q kind room (.tuple #[]) D' s')) :
    Calls Try.prog 27 #[.pointer (some ⟨v, 0, none⟩), .pointer (some ⟨q, 0, none⟩)] w (RPost w0 v l q kind room (.tuple #[]) D' s') := by
  have c5 := h.op.cell 5; have c1 := h.op.cell 1; have f1 := h.op.free 1; have d0 := h.top.cell 0
  simp [DOp.cells] at c5 c1 d0
  rw [he] at c5
  have hvq := h.vq
  have hs : IntKind.i64.wrap ((s.next : Int) + 1) = (s.next : Int) + 1 := IntWalk.i64_in _ (by omega)
  have H1 := Lib.hid (RW.setO (o' := { s with next := s.next + 1 }) h 1 (.int .i64 ((s.next : Int) + 1)) rfl)
  clear h he
  rcases hk with rfl | rfl | rfl
  · have C := Lib.hid (hc1 rfl); clear hc1 hc2 hc3
    go_enter Try.func27, Try.ntmps27
    go_wp2_with fail
    refine (C.out _ H1.out).mono ?_
    rintro e w1 ⟨rfl, h1⟩
    have H2 := Lib.hid h1; clear h1
    go_wp2_with fail
    go_end0
    exact ⟨rfl, H2.out⟩
  · have C := Lib.hid (hc2 rfl); clear hc1 hc2 hc3
    go_enter Try.func27, Try.ntmps27
    go_wp2_with fail
    refine (C.out _ H1.out).mono ?_
    rintro e w1 ⟨rfl, h1⟩
    have H2 := Lib.hid h1; clear h1
    go_wp2_with fail
    go_end0
    exact ⟨rfl, H2.out⟩
  · have C := Lib.hid (hc3 rfl); clear hc1 hc2 hc3
    go_enter Try.func27, Try.ntmps27
    go_wp2_with fail
    refine (C.out _ H1.out).mono ?_
    rintro e w1 ⟨rfl, h1⟩
    have H2 := Lib.hid h1; clear h1
    go_wp2_with fail
    go_end0
    exact ⟨rfl, H2.out⟩

theorem ok_next {s : DOp} (hk : kind = 1 ∨ kind = 2 ∨ kind = 3) (ho : s.Ok kind room N) (he : s.ended = false) : s.next ≤ 6 := by
  have hp := ho.pc he
  have hw := ho.what
  rcases hk with rfl | rfl | rfl
  · simp [Ok1] at hp; omega
  · simp [Ok2] at hp; omega
  · simp [Ok3] at hp; omega

theorem doc_any (s : DOp) (h : RW w0 w v l q kind room D s) (hk : kind = 1 ∨ kind = 2 ∨ kind = 3) (hr1 : 1 ≤ room) (hr : room ≤ 1000) (hD : DqOk kind room N D) (ho : s.Ok kind room N) (hN : N ≤ 1000000) :
    Calls Try.prog 27 #[.pointer (some ⟨v, 0, none⟩), .pointer (some ⟨q, 0, none⟩)] w (RPost w0 v l q kind room (.tuple #[]) (s.step kind room D).2 (s.step kind room D).1) := by
  by_cases he : s.ended = true
  · have e : s.step kind room D = (s, D) := by rw [DOp.step, if_pos he]
    rw [e]
    exact doc_ended s h he
  · have he := eq_false_of_ne_true he
    exact doc_go s h he (ok_next hk ho he) hk (fun hk w1 h1 => by subst hk; exact dv_1 hr1 hr s h1 hD ho hN he) (fun hk w1 h1 => by subst hk; exact dv_2 hr1 hr s h1 hD ho hN he) (fun hk w1 h1 => by subst hk; exact dv_3 hr1 hr s h1 hD ho hN he)
end

end Go.Proofs.Ytlogmfpnjpamgaa
