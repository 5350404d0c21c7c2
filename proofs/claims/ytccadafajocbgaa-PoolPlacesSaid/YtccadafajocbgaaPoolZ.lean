/- PoolPlaces, plain: what is live while a block is taken, and free behind. -/
import Derived.Test.YtccadafajocbgaaPoolY
open Go Go.RowKit
namespace Go.Proofs.Ytccadafajocbgaa

section
variable {S : PS} {M : MemS} {x : Int}

theorem LI.take2 (h : LI S M) (v c : Int) : ((S.take M v c).1.2 ≠ 0 ∧ LI (S.take M v c).2.1 (S.take M v c).2.2 ∧ (S.take M v c).2.1.W = S.W) ∨
    ∃ x, (S.take M v c).1 = (x, 0) ∧ LI (S.take M v c).2.1 (S.take M v c).2.2 ∧ (S.take M v c).2.1.W = S.W ∧ (S.take M v c).2.1.there x ∧ ((S.take M v c).2.1.blk x).taken = true := by
  obtain ⟨e1, e2, e3⟩ := h.take v c
  rw [e1, e2]
  rcases take_cases h.ok v c with ⟨q1, q2⟩ | ⟨x, l, k, q1, -, -, -, q2, hx, ht, -⟩
  · rw [q2] at e3 ⊢
    exact .inl ⟨q1, e3, rfl⟩
  · rw [q2] at e3 ⊢
    exact .inr ⟨x, q1, e3, rfl, PS.setTaken_there.2 hx, by rw [PS.setTaken_taken (S := S.setRow k l) true hx hx.1, if_pos rfl]⟩
theorem LI.live11 (h : LI S M) (hx : S.there x) (ht : (S.blk x).taken = true) : M.tcode (S.blk x).pos (S.blk x).size true = 11 := by
  have hr := h.room x hx
  exact MemS.tcode_eleven h.len hr.2 (Nat.le_refl _) (by omega) (by rw [h.live x hx _ (Nat.le_refl _) (by omega)]; exact ht)
theorem LI.code0 (h : LI S M) (hx : S.there x) (ht : (S.blk x).taken = true) : M.code (S.blk x).pos = 0 := by
  have hr := h.room x hx
  have := (h.word hx ht (k := 0) (by omega)).2
  simpa using this
theorem LI.give2 (h : LI S M) (hW : 1 ≤ S.W) (hx : S.there x) (ht : (S.blk x).taken = true) : (S.give M 0 x).1 = 0 ∧ LI (S.give M 0 x).2.1 (S.give M 0 x).2.2 ∧ (S.give M 0 x).2.1.W = S.W ∧ (S.give M 0 x).2.2.code (S.blk x).pos = 7 := by
  obtain ⟨e1, e2, e3⟩ := h.give 0 x
  rw [e1, e2]
  rcases give_cases h.ok 0 x with ⟨q1, -⟩ | ⟨q1, -, -, -, -, -, q2, q3⟩
  · exfalso
    apply q1
    unfold PS.giveR
    rw [if_neg (by omega), if_neg (by have := hx.1; have := hx.2; omega), if_neg (by rw [ht]; simp)]
  · refine ⟨q1, e3, q2, ?_⟩
    have hx' : (S.giveS 0 x).there x := by unfold PS.there; rw [q3, PS.setTaken_len]; exact hx
    have hb : (S.giveS 0 x).blk x = (S.setTaken x false).blk x := by unfold PS.blk; rw [q3]
    have hp := PS.setTaken_place false hx hx.1
    have hr := e3.room x hx'
    have hl := e3.live x hx' (S.blk x).pos (by rw [hb, hp.2.2.1]; exact Nat.le_refl _) (by rw [hb, hp.2.2.1]; rw [hb, hp.2.2.1] at hr; omega)
    rw [hb, PS.setTaken_taken false hx hx.1, if_pos rfl] at hl
    rw [hb, hp.2.2.1, hp.2.2.2] at hr
    exact MemS.code_seven (by omega) hl
end

end Go.Proofs.Ytccadafajocbgaa
