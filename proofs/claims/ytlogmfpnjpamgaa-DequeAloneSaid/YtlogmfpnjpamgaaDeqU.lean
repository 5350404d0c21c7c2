/- Layer 9: alone, a push, a pop and a steal; plain. -/
import Derived.Test.YtlogmfpnjpamgaaDeqT
open Go Go.RowKit
namespace Go.Proofs.Ytlogmfpnjpamgaa

section
variable {kind room used : Nat} {D : Dq} {x : Int} {l : List Int}

theorem runs_of {kind room : Nat} {D D' : Dq} {what : Nat} {x res why : Int} {l' : List Int} {used' : Nat} {o : DOp} (e : (DOp.new what x).runN kind room 20 D = (o, D')) (h1 : o.ended = true) (h2 : o.result = res) (h3 : o.why = why) (h4 : Rep kind room l' used' D') : Runs kind room D what x res why l' used' := by
  unfold Runs
  rw [e]
  refine ⟨?_, h4⟩
  show DOp.tells o = _
  unfold DOp.tells
  rw [if_pos h1, if_pos h1, h2, h3]

theorem rep1 (D : Dq) : Rep 1 room l used D = Rep1 room l used D := rfl
theorem rep2 (D : Dq) : Rep 2 room l used D = Rep2 room l D := rfl
theorem rep3 (D : Dq) : Rep 3 room l used D = Rep3 room l D := rfl

theorem alone_push_full (hk : kind = 1 ∨ kind = 2 ∨ kind = 3) (h : Rep kind room l used D) (hf : l.length = room ∨ kind = 1 ∧ used = room) : Runs kind room D 0 x 0 8 l used := by
  rcases hk with rfl | rfl | rfl
  · rw [rep1] at h
    obtain ⟨top, h1, h2, h3, h4, h5, h6⟩ := h
    exact runs_of (run1_push_full (by omega)) rfl rfl rfl ⟨top, h1, h2, h3, h4, h5, h6⟩
  · rw [rep2] at h
    exact runs_of (run2_push_full (by have := h.1; omega)) rfl rfl rfl h
  · rw [rep3] at h
    obtain ⟨hd, h1, h2, h3, h4⟩ := h
    exact runs_of (run3_push_full (by omega)) rfl rfl rfl ⟨hd, h1, h2, h3, h4⟩

theorem alone_push (hk : kind = 1 ∨ kind = 2 ∨ kind = 3) (hr : 1 ≤ room) (hr2 : room ≤ 1000) (h : Rep kind room l used D) (hf : ¬ (l.length = room ∨ kind = 1 ∧ used = room)) : Runs kind room D 0 x 0 0 (l ++ [x]) (used + 1) := by
  rcases hk with rfl | rfl | rfl
  · rw [rep1] at h
    obtain ⟨top, h1, h2, h3, h4, h5, h6⟩ := h
    refine runs_of (run1_push (by omega)) rfl rfl rfl ?_
    rw [rep1]
    refine ⟨top, ?_, ?_, ?_, by simp; omega, by omega, ?_⟩
    · rw [Dq.put_ne _ _ _ (by omega), Dq.put_ne _ _ _ (by omega)]; exact h1
    · rw [Dq.put_ne _ _ _ (by omega), Dq.put_ne _ _ _ (by omega)]; exact h2
    · rw [Dq.put_self, h3]; rfl
    · intro i hi
      rw [Dq.put_ne _ _ _ (by omega)]
      by_cases hl : i < l.length
      · rw [Dq.put_ne _ _ _ (by omega), getD_append_lt hl]; exact h6 i hl
      · simp at hi
        obtain rfl : i = l.length := by omega
        rw [getD_append_eq, show 2 + (top + l.length) = 2 + (D 0).toNat by omega, Dq.put_self]
  · rw [rep2] at h
    obtain ⟨h1, h2, h3, h4⟩ := h
    refine runs_of (run2_push (by omega)) rfl rfl rfl ?_
    rw [rep2]
    refine ⟨?_, ?_, by simp; omega, ?_⟩
    · rw [Dq.put_self]; simp; omega
    · rw [Dq.put_self]; omega
    · intro i hi
      rw [Dq.put_ne _ _ _ (by omega)]
      by_cases hl : i < l.length
      · rw [Dq.put_ne _ _ _ (by omega), getD_append_lt hl]; exact h4 i hl
      · simp at hi
        obtain rfl : i = l.length := by omega
        rw [getD_append_eq, show 2 + l.length = 2 + (D 1 % 65536).toNat by omega, Dq.put_self]
  · rw [rep3] at h
    obtain ⟨hd, h1, h2, h3, h4⟩ := h
    refine runs_of (run3_push (by omega)) rfl rfl rfl ?_
    rw [rep3]
    refine ⟨hd, ?_, ?_, by simp; omega, ?_⟩
    · rw [Dq.put_ne _ _ _ (by omega), Dq.put_ne _ _ _ (by omega)]; exact h1
    · rw [Dq.put_self, h2]; simp; omega
    · intro i hi
      rw [Dq.put_ne _ _ _ (by omega)]
      by_cases hl : i < l.length
      · have := mod_ne (h := hd) (room := room) (i := i) (j := l.length) hl (by omega)
        rw [show (D 0).toNat = hd + l.length by omega, Dq.put_ne _ _ _ (by omega), getD_append_lt hl]; exact h4 i hl
      · simp at hi
        obtain rfl : i = l.length := by omega
        rw [getD_append_eq, show (D 0).toNat = hd + l.length by omega, Dq.put_self]

theorem alone_pop_none (hk : kind = 1 ∨ kind = 2 ∨ kind = 3) (h : Rep kind room [] used D) : Runs kind room D 1 0 0 9 [] 0 := by
  rcases hk with rfl | rfl | rfl
  · rw [rep1] at h
    obtain ⟨top, h1, h2, h3, h4, h5, h6⟩ := h
    simp at h4
    by_cases h0 : used = 0
    · exact runs_of (run1_pop_zero (by omega)) rfl rfl rfl ⟨0, by omega, h2, by omega, by simp, by omega, fun i hi => by simp at hi⟩
    · refine runs_of (run1_pop_none (by omega) (by omega)) rfl rfl rfl ?_
      rw [rep1]
      refine ⟨0, ?_, ?_, ?_, by simp, by omega, fun i hi => by simp at hi⟩
      · rw [Dq.put_self]; omega
      · rw [Dq.put_self]; omega
      · rw [Dq.put_ne _ _ _ (by omega), Dq.put_self]; rfl
  · rw [rep2] at h
    exact runs_of (run2_pop_none (by have := h.1; simpa using this)) rfl rfl rfl h
  · rw [rep3] at h
    obtain ⟨hd, h1, h2, h3, h4⟩ := h
    simp at h2
    exact runs_of (run3_pop_none (by omega)) rfl rfl rfl ⟨hd, h1, by simpa using h2, h3, h4⟩

theorem alone_steal_none (hk : kind = 1 ∨ kind = 2 ∨ kind = 3) (h : Rep kind room [] used D) : Runs kind room D 2 0 0 9 [] used := by
  rcases hk with rfl | rfl | rfl
  · rw [rep1] at h
    obtain ⟨top, h1, h2, h3, h4, h5, h6⟩ := h
    simp at h4
    exact runs_of (run1_steal_none (by omega)) rfl rfl rfl ⟨top, h1, h2, h3, by simpa using h4, h5, h6⟩
  · rw [rep2] at h
    exact runs_of (run2_steal_none (by have := h.1; simpa using this)) rfl rfl rfl h
  · rw [rep3] at h
    obtain ⟨hd, h1, h2, h3, h4⟩ := h
    simp at h2
    exact runs_of (run3_steal_none (by omega)) rfl rfl rfl ⟨hd, h1, by simpa using h2, h3, h4⟩

theorem rep2_last (h : Rep2 room l D) (hl : 1 ≤ l.length) : Rep2 room l.dropLast (D.put 1 (D 1 - 1)) := by
  obtain ⟨h1, h2, h3, h4⟩ := h
  refine ⟨?_, ?_, by simp; omega, ?_⟩
  · rw [Dq.put_self]; simp; omega
  · rw [Dq.put_self]; omega
  · intro i hi
    simp at hi
    rw [Dq.put_ne _ _ _ (by omega), getD_dropLast hi]; exact h4 i (by omega)

theorem alone_pop_last (hk : kind = 1 ∨ kind = 2) (h : Rep kind room l used D) (hl : 1 ≤ l.length) : Runs kind room D 1 0 (l.getD (l.length - 1) 0) 0 l.dropLast (if kind = 1 ∧ l.length = 1 then 0 else used - 1) := by
  rcases hk with rfl | rfl
  · rw [rep1] at h
    obtain ⟨top, h1, h2, h3, h4, h5, h6⟩ := h
    have e := h6 (l.length - 1) (by omega)
    rw [show 2 + (top + (l.length - 1)) = 2 + (D 0 - 1).toNat by omega] at e
    by_cases h0 : l.length = 1
    · rw [if_pos ⟨rfl, h0⟩]
      refine runs_of (run1_pop_one (by omega) (by omega)) rfl e rfl ?_
      rw [rep1]
      refine ⟨0, ?_, ?_, ?_, by simp; omega, by omega, fun i hi => by simp at hi; omega⟩
      · rw [Dq.put_self]; omega
      · rw [Dq.put_self]; omega
      · rw [Dq.put_ne _ _ _ (by omega), Dq.put_self]; rfl
    · rw [if_neg (by omega)]
      refine runs_of (run1_pop (by omega) (by omega)) rfl e rfl ?_
      rw [rep1]
      refine ⟨top, ?_, ?_, ?_, by simp; omega, by omega, ?_⟩
      · rw [Dq.put_ne _ _ _ (by omega)]; exact h1
      · rw [Dq.put_ne _ _ _ (by omega)]; exact h2
      · rw [Dq.put_self]; omega
      · intro i hi
        simp at hi
        rw [Dq.put_ne _ _ _ (by omega), getD_dropLast hi]; exact h6 i (by omega)
  · rw [rep2] at h
    rw [if_neg (by omega)]
    have h1 := h.1
    have e := h.2.2.2 (l.length - 1) (by omega)
    rw [show 2 + (l.length - 1) = 2 + (D 1 % 65536 - 1).toNat by omega] at e
    exact runs_of (run2_pop (by omega)) rfl e rfl (rep2_last h hl)

theorem alone_steal_last (h : Rep 2 room l used D) (hl : 1 ≤ l.length) : Runs 2 room D 2 0 (l.getD (l.length - 1) 0) 0 l.dropLast (used - 1) := by
  rw [rep2] at h
  have h1 := h.1
  have e := h.2.2.2 (l.length - 1) (by omega)
  rw [show 2 + (l.length - 1) = 2 + (D 1 % 65536 - 1).toNat by omega] at e
  exact runs_of (run2_steal (by omega)) rfl e rfl (rep2_last h hl)

theorem rep3_first (h : Rep3 room l D) (hl : 1 ≤ l.length) : Rep3 room l.tail (D.put 1 (D 1 + 1)) := by
  obtain ⟨hd, h1, h2, h3, h4⟩ := h
  refine ⟨hd + 1, ?_, ?_, by simp; omega, ?_⟩
  · rw [Dq.put_self]; omega
  · rw [Dq.put_ne _ _ _ (by omega), h2]; simp; omega
  · intro i hi
    simp at hi
    rw [Dq.put_ne _ _ _ (by omega), getD_tail, show hd + 1 + i = hd + (i + 1) by omega]; exact h4 (i + 1) (by omega)

theorem alone_pop_first (h : Rep 3 room l used D) (hl : 1 ≤ l.length) : Runs 3 room D 1 0 (l.getD 0 0) 0 l.tail used := by
  rw [rep3] at h
  have h' := h
  obtain ⟨hd, h1, h2, h3, h4⟩ := h
  have e := h4 0 (by omega)
  rw [show hd + 0 = (D 1).toNat by omega] at e
  exact runs_of (run3_pop (by omega)) rfl e rfl (rep3_first h' hl)

theorem alone_steal_first (hk : kind = 1 ∨ kind = 3) (h : Rep kind room l used D) (hr2 : room ≤ 1000) (hl : 1 ≤ l.length) : Runs kind room D 2 0 (l.getD 0 0) 0 l.tail used := by
  rcases hk with rfl | rfl
  · rw [rep1] at h
    obtain ⟨top, h1, h2, h3, h4, h5, h6⟩ := h
    have e := h6 0 (by omega)
    rw [show 2 + (top + 0) = 2 + (D 1 % 65536).toNat by omega] at e
    refine runs_of (run1_steal (by omega)) rfl e rfl ?_
    rw [rep1]
    refine ⟨top + 1, ?_, ?_, ?_, by simp; omega, h5, ?_⟩
    · rw [Dq.put_self]; omega
    · rw [Dq.put_self]; omega
    · rw [Dq.put_ne _ _ _ (by omega)]; exact h3
    · intro i hi
      simp at hi
      rw [Dq.put_ne _ _ _ (by omega), getD_tail, show top + 1 + i = top + (i + 1) by omega]; exact h6 (i + 1) (by omega)
  · rw [rep3] at h
    have h' := h
    obtain ⟨hd, h1, h2, h3, h4⟩ := h
    have e := h4 0 (by omega)
    rw [show hd + 0 = (D 1).toNat by omega] at e
    exact runs_of (run3_steal (by omega)) rfl e rfl (rep3_first h' hl)

theorem rep_zero (hk : kind = 1 ∨ kind = 2 ∨ kind = 3) : Rep kind room [] 0 (fun _ => 0) := by
  rcases hk with rfl | rfl | rfl
  · exact ⟨0, rfl, by simp, rfl, rfl, by omega, fun i hi => by simp at hi⟩
  · exact ⟨rfl, by simp, by simp, fun i hi => by simp at hi⟩
  · exact ⟨0, rfl, rfl, by simp, fun i hi => by simp at hi⟩
end

end Go.Proofs.Ytlogmfpnjpamgaa
