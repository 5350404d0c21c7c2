/- MemBounds: the facts of the memory's states that its walk asks. -/
import Derived.Test.YtpbbpineepdeeaaLMemBounds
open Go Go.RowKit
namespace Go.Proofs.Ytpbbpineepdeeaa

theorem memBounds_walk (x n z : Int) (w : World) (hz : 0 ≤ z ∧ z ≤ 255) : Calls Try.prog 3 #[.int .i64 x, .int .i64 n, .int .u8 z] w fun e w' => e = .returned (.bool true) ∧ Below w.heap.size w w' := by
  obtain ⟨y, rfl⟩ : ∃ y : Nat, z = y := ⟨z.toNat, by omega⟩
  obtain ⟨k, hk⟩ : ∃ k : Nat, (y : Int) % 50 = k := ⟨y % 50, by omega⟩
  have hk50 : k < 50 := by omega
  have l0 : (MemS.fresh 50).live.length = (MemS.fresh 50).words.length := MemS.fresh_len _
  have n0 : (MemS.fresh 50).words.length = 50 := MemS.fresh_words _
  have e1 : (MemS.fresh 50).tcode k ((1 : Nat) : Int) true = 0 := MemS.tcode_zero l0 (by omega) (fun j _ _ => by rw [MemS.fresh_live]; decide)
  have G1 : (MemS.fresh 50).turn k ((1 : Nat) : Int) true = (MemS.fresh 50).fill k true 1 := MemS.turn_eq e1
  have l1 := MemS.fill_len (MemS.fresh 50) k true 1 l0
  have n1 : ((MemS.fresh 50).fill k true 1).words.length = 50 := by rw [MemS.fill_words]; exact n0
  have v1 : ∀ j, ((MemS.fresh 50).fill k true 1).live.getD j false = decide (j = k) := by
    intro j; rw [MemS.fill_live _ _ _ _ _ (by omega), MemS.fresh_live]
    by_cases h : k ≤ j ∧ j < k + 1
    · rw [if_pos h, eq_comm, decide_eq_true_eq]; omega
    · rw [if_neg h, eq_comm, decide_eq_false_iff_not]; omega
  have e2 : ((MemS.fresh 50).fill k true 1).code k = 0 := MemS.code_at (by omega) (by rw [v1]; simp)
  obtain ⟨s2, hs2⟩ : ∃ s, s = ((MemS.fresh 50).fill k true 1).store k 7 := ⟨_, rfl⟩
  have h2 : s2 = (((MemS.fresh 50).fill k true 1).put k 7).tick := by rw [hs2, MemS.store, if_pos e2]
  have l2 : s2.live.length = s2.words.length := by rw [h2]; simpa [MemS.put, MemS.tick] using l1
  have n2 : s2.words.length = 50 := by rw [h2]; simpa [MemS.put, MemS.tick] using n1
  have v2 : ∀ j, s2.live.getD j false = decide (j = k) := by intro j; rw [h2]; exact v1 j
  have w2 : s2.words.getD k 0 = 7 := by
    rw [h2]
    simp only [MemS.put, MemS.tick, List.getD_eq_getElem?_getD, Int.toNat_natCast]
    rw [List.getElem?_set_self (by omega)]; rfl
  by_cases hr : n < 0 ∨ x < 0 ∨ (s2.words.length : Int) < x ∨ (s2.words.length : Int) - x < n
  · have e3 : s2.tcode x n true = 6 := MemS.tcode_six hr
    have G3 : s2.turn x n true = s2 := MemS.turn_ne (by rw [e3]; decide)
    refine memBounds_core x n k y s2 s2 6 w (by omega) hk hk50 (Lib.hid G1) (Lib.hid hs2.symm) e1 e2 e3 (Lib.hid G3) ?_ (Lib.hid (Or.inl ⟨rfl, by rw [n2] at hr; exact hr⟩)) (Lib.hid ?_)
    · rw [MemS.word, if_pos (MemS.code_at (by omega) (by rw [v2]; simp)), Int.toNat_natCast, w2]
    · intro i hi
      by_cases h : i = k
      · exact Or.inl ⟨Or.inl h, MemS.code_at (by omega) (by rw [v2]; simpa using h)⟩
      · exact Or.inr ⟨by simp [h], MemS.code_seven (by omega) (by rw [v2]; simpa using h)⟩
  · obtain ⟨a, rfl⟩ : ∃ a : Nat, x = a := ⟨x.toNat, by omega⟩
    obtain ⟨b, rfl⟩ : ∃ b : Nat, n = b := ⟨n.toNat, by omega⟩
    have hab : a + b ≤ 50 := by omega
    by_cases hh : a ≤ k ∧ k < a + b
    · have e3 : s2.tcode a b true = 11 := MemS.tcode_eleven (j := k) l2 (by omega) hh.1 hh.2 (by rw [v2]; simp)
      have G3 : s2.turn a b true = s2 := MemS.turn_ne (by rw [e3]; decide)
      refine memBounds_core a b k y s2 s2 11 w (by omega) hk hk50 (Lib.hid G1) (Lib.hid hs2.symm) e1 e2 e3 (Lib.hid G3) ?_ (Lib.hid (Or.inr (Or.inl ⟨rfl, by omega⟩))) (Lib.hid ?_)
      · rw [MemS.word, if_pos (MemS.code_at (by omega) (by rw [v2]; simp)), Int.toNat_natCast, w2]
      · intro i hi
        by_cases h : i = k
        · exact Or.inl ⟨Or.inl h, MemS.code_at (by omega) (by rw [v2]; simpa using h)⟩
        · exact Or.inr ⟨by simp [h], MemS.code_seven (by omega) (by rw [v2]; simpa using h)⟩
    · have e3 : s2.tcode a b true = 0 := MemS.tcode_zero l2 (by omega) (fun j h1 h2 => by rw [v2]; simp; omega)
      have G3 : s2.turn a b true = s2.fill a true b := MemS.turn_eq e3
      have n3 : (s2.fill a true b).words.length = 50 := by rw [MemS.fill_words]; exact n2
      have v3 : ∀ j, (s2.fill a true b).live.getD j false = decide (j = k ∨ a ≤ j ∧ j < a + b) := by
        intro j; rw [MemS.fill_live _ _ _ _ _ (by omega), v2]
        by_cases h : a ≤ j ∧ j < a + b <;> simp [h]
      refine memBounds_core a b k y s2 (s2.fill a true b) 0 w (by omega) hk hk50 (Lib.hid G1) (Lib.hid hs2.symm) e1 e2 e3 (Lib.hid G3) ?_ (Lib.hid (Or.inr (Or.inr ⟨rfl, by omega⟩))) (Lib.hid ?_)
      · rw [MemS.word, if_pos (MemS.code_at (by omega) (by rw [v3]; simp)), Int.toNat_natCast, MemS.fill_word _ _ _ _ _ (by omega), if_neg hh, w2]
      · intro i hi
        by_cases h : i = k ∨ a ≤ i ∧ i < a + b
        · exact Or.inl ⟨by rcases h with h | h; exact Or.inl h; exact Or.inr ⟨rfl, by omega⟩, MemS.code_at (by omega) (by rw [v3]; simpa using h)⟩
        · exact Or.inr ⟨fun h' => h (by rcases h' with h' | h'; exact Or.inl h'; exact Or.inr (by omega)), MemS.code_seven (by omega) (by rw [v3]; exact decide_eq_false h)⟩

end Go.Proofs.Ytpbbpineepdeeaa
