/- Layer 1: plain laws of what Live and Free tell and do, place by place. -/
import Derived.Test.YtccadafajocbgaaMemE
open Go Go.RowKit
namespace Go.Proofs.Ytccadafajocbgaa

theorem mem_slice {l : List Bool} {i k : Nat} {v : Bool} (h : i + k ≤ l.length) : v ∈ (l.drop i).take k ↔ ∃ j, i ≤ j ∧ j < i + k ∧ l.getD j false = v := by
  constructor
  · intro hv
    obtain ⟨j, hj, e⟩ := List.getElem_of_mem hv
    have hj2 : j < k ∧ i + j < l.length := by simp at hj; omega
    refine ⟨i + j, by omega, by omega, ?_⟩
    rw [List.getD_eq_getElem?_getD, List.getElem?_eq_getElem hj2.2, ← e]
    simp
  · rintro ⟨j, h1, h2, e⟩
    have hj : j < l.length := by omega
    rw [List.getD_eq_getElem?_getD, List.getElem?_eq_getElem hj] at e
    have : (l.drop i).take k = (l.drop i).take k := rfl
    rw [List.mem_iff_getElem]
    refine ⟨j - i, by simp; omega, ?_⟩
    simp only [List.getElem_take, List.getElem_drop]
    have e2 : i + (j - i) = j := by omega
    simp only [e2]
    simpa using e

theorem MemS.tcode_six {s : MemS} {at_ n : Int} {v : Bool} (h : n < 0 ∨ at_ < 0 ∨ (s.words.length : Int) < at_ ∨ (s.words.length : Int) - at_ < n) : s.tcode at_ n v = 6 := by
  rw [MemS.tcode, if_pos h]
theorem MemS.tcode_eleven {s : MemS} {i k j : Nat} {v : Bool} (hl : s.live.length = s.words.length) (h : i + k ≤ s.words.length) (h1 : i ≤ j) (h2 : j < i + k) (hv : s.live.getD j false = v) : s.tcode i k v = 11 := by
  rw [MemS.tcode, if_neg (by omega), if_pos]
  exact (mem_slice (by rw [hl]; simpa using h)).2 ⟨j, by simpa using h1, by simpa using h2, hv⟩
theorem MemS.tcode_zero {s : MemS} {i k : Nat} {v : Bool} (hl : s.live.length = s.words.length) (h : i + k ≤ s.words.length) (hv : ∀ j, i ≤ j → j < i + k → s.live.getD j false ≠ v) : s.tcode i k v = 0 := by
  rw [MemS.tcode, if_neg (by omega), if_neg]
  intro hm
  obtain ⟨j, h1, h2, e⟩ := (mem_slice (by rw [hl]; simpa using h)).1 hm
  exact hv j (by simpa using h1) (by simpa using h2) e
theorem MemS.turn_ne {s : MemS} {at_ n : Int} {v : Bool} (h : s.tcode at_ n v ≠ 0) : s.turn at_ n v = s := by rw [MemS.turn, if_neg h]
theorem MemS.turn_eq {s : MemS} {i k : Nat} {v : Bool} (h : s.tcode i k v = 0) : s.turn i k v = s.fill i v k := by rw [MemS.turn, if_pos h]; rfl

theorem MemS.fill_words (s : MemS) (i : Nat) (v : Bool) (k : Nat) : (s.fill i v k).words.length = s.words.length := fillN_length _ _ _ _
theorem MemS.fill_len (s : MemS) (i : Nat) (v : Bool) (k : Nat) (hl : s.live.length = s.words.length) : (s.fill i v k).live.length = (s.fill i v k).words.length := by
  simp [MemS.fill, fillN_length, hl]
theorem MemS.fill_live (s : MemS) (i : Nat) (v : Bool) (k j : Nat) (h : i + k ≤ s.live.length) : (s.fill i v k).live.getD j false = if i ≤ j ∧ j < i + k then v else s.live.getD j false :=
  fillN_getD _ _ _ _ _ _ h
theorem MemS.fill_word (s : MemS) (i : Nat) (v : Bool) (k j : Nat) (h : i + k ≤ s.words.length) : (s.fill i v k).words.getD j 0 = if i ≤ j ∧ j < i + k then 0 else s.words.getD j 0 :=
  fillN_getD _ _ _ _ _ _ h
theorem MemS.fresh_live (n j : Nat) : (MemS.fresh n).live.getD j false = false := by
  simp only [MemS.fresh, List.getD_eq_getElem?_getD, List.getElem?_replicate]
  split <;> rfl
theorem MemS.fresh_words (n : Nat) : (MemS.fresh n).words.length = n := by simp [MemS.fresh]
theorem MemS.fresh_len (n : Nat) : (MemS.fresh n).live.length = (MemS.fresh n).words.length := by simp [MemS.fresh]
theorem MemS.code_seven {s : MemS} {k : Nat} (hk : k < s.words.length) (hl : s.live.getD k false = false) : s.code k = 7 := by
  unfold MemS.code
  rw [if_neg (by omega), if_neg (by rw [Int.toNat_natCast, hl]; simp)]
theorem MemS.code_six {s : MemS} {k : Int} (h : k < 0 ∨ (s.words.length : Int) ≤ k) : s.code k = 6 := by
  unfold MemS.code
  rw [if_pos h]
theorem MemS.fill_zero (s : MemS) (i : Nat) (v : Bool) : s.fill i v 0 = s := rfl

end Go.Proofs.Ytccadafajocbgaa
