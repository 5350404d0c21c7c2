/- PoolApart, plain: what is stored in a taken block stays, whatever is taken and given back besides. -/
import Derived.Test.YtccadafajocbgaaPoolU
open Go Go.RowKit
namespace Go.Proofs.Ytccadafajocbgaa

/-- The first k words of the taken block x read mark. -/
structure AI (S : PS) (M : MemS) (x : Int) (pos size : Nat) (mark : Int) (k : Nat) : Prop where
  li : LI S M
  here : S.there x
  taken : (S.blk x).taken = true
  atp : (S.blk x).pos = pos
  ats : (S.blk x).size = size
  words : ∀ j, pos ≤ j → j < pos + k → M.words.getD j 0 = mark

section
variable {S S' : PS} {M : MemS} {x : Int} {pos size k : Nat} {mark : Int}

theorem LI.word (h : LI S M) {x : Int} (hx : S.there x) (ht : (S.blk x).taken = true) {k : Nat} (hk : k < (S.blk x).size) : (S.blk x).pos + k < M.words.length ∧ M.code (((S.blk x).pos : Int) + k) = 0 := by
  have hr := h.room x hx
  have hlt : (S.blk x).pos + k < M.words.length := by omega
  refine ⟨hlt, ?_⟩
  have := MemS.code_at hlt (by rw [h.live x hx _ (by omega) (by omega)]; exact ht)
  rwa [Int.natCast_add] at this

theorem getD_set {l : List Int} {i j : Nat} {v : Int} (hi : i < l.length) : (l.set i v).getD j 0 = if j = i then v else l.getD j 0 := by
  rw [List.getD_eq_getElem?_getD, List.getElem?_set]
  by_cases e : j = i
  · subst e; rw [if_pos rfl, if_pos hi, if_pos rfl]; rfl
  · rw [if_neg (fun q => e q.symm), if_neg e, ← List.getD_eq_getElem?_getD]
theorem MemS.store_word {M : MemS} {i j : Nat} {v : Int} (hi : i < M.words.length) (hc : M.code i = 0) : (M.store i v).words.getD j 0 = if j = i then v else M.words.getD j 0 := by
  unfold MemS.store
  rw [if_pos hc]
  exact getD_set hi

theorem AI.put (h : AI S M x pos size mark k) (hk : k < size) : M.code ((pos : Int) + k) = 0 ∧ AI S (M.store ((pos : Int) + k) mark) x pos size mark (k + 1) := by
  obtain ⟨h1, h2⟩ := h.li.word h.here h.taken (k := k) (by rw [h.ats]; exact hk)
  rw [h.atp] at h1 h2
  refine ⟨h2, ⟨h.li.store _ _, h.here, h.taken, h.atp, h.ats, fun j g1 g2 => ?_⟩⟩
  rw [← Int.natCast_add] at h2 ⊢
  rw [MemS.store_word h1 h2]
  by_cases e : j = pos + k
  · rw [if_pos e]
  · rw [if_neg e]; exact h.words j g1 (by omega)
theorem AI.load (h : AI S M x pos size mark size) (hk : k < size) : M.word ((pos : Int) + k) = mark ∧ M.code ((pos : Int) + k) = 0 ∧ AI S (M.load ((pos : Int) + k)) x pos size mark size := by
  obtain ⟨h1, h2⟩ := h.li.word h.here h.taken (k := k) (by rw [h.ats]; exact hk)
  rw [h.atp] at h1 h2
  refine ⟨?_, h2, ⟨h.li.load _, h.here, h.taken, h.atp, h.ats, fun j g1 g2 => ?_⟩⟩
  · unfold MemS.word
    rw [if_pos h2, ← Int.natCast_add, Int.toNat_natCast]
    exact h.words _ (by omega) (by omega)
  · unfold MemS.load
    split
    · exact h.words j g1 g2
    · exact h.words j g1 g2
/-- another's words are stored -/
theorem AI.other (h : AI S M x pos size mark size) {y : Int} (hy : S.there y) (hyx : y ≠ x) (ht : (S.blk y).taken = true) {k : Nat} (hk : k < (S.blk y).size) (n : Int) : M.code (((S.blk y).pos : Int) + k) = 0 ∧ AI S (M.store (((S.blk y).pos : Int) + k) n) x pos size mark size := by
  obtain ⟨h1, h2⟩ := h.li.word hy ht hk
  refine ⟨h2, ⟨h.li.store _ _, h.here, h.taken, h.atp, h.ats, fun j g1 g2 => ?_⟩⟩
  have ha := h.li.apart x y h.here hy (fun q => hyx q.symm)
  rw [h.atp, h.ats] at ha
  rw [← Int.natCast_add] at h2 ⊢
  rw [MemS.store_word h1 h2, if_neg (by omega)]
  exact h.words j g1 g2
/-- another is taken, or given back -/
theorem AI.flag (h : AI S M x pos size mark size) {y : Int} (hy : S.there y) (hyx : y ≠ x) {t : Bool} (ht : (S.blk y).taken = !t) (ok' : S'.Ok) (hl : S'.blks = (S.setTaken y t).blks) :
    AI S' (M.turn (S.blk y).pos (S.blk y).size t) x pos size mark size ∧ S'.there y ∧ (S'.blk y).taken = t := by
  have hL := h.li.flag hy ht ok' hl
  have hb : ∀ z, S'.blk z = (S.setTaken y t).blk z := fun z => by unfold PS.blk; rw [hl]
  have hth : ∀ z, S'.there z ↔ S.there z := fun z => by unfold PS.there; rw [hl, PS.setTaken_len]
  have hpl := PS.setTaken_place t hy h.here.1
  refine ⟨⟨hL, (hth x).2 h.here, ?_, by rw [hb, hpl.2.2.1]; exact h.atp, by rw [hb, hpl.2.2.2]; exact h.ats, fun j g1 g2 => ?_⟩, (hth y).2 hy, ?_⟩
  · rw [hb, PS.setTaken_taken t hy h.here.1, if_neg (fun q => hyx q.symm)]; exact h.taken
  · have hr := h.li.room y hy
    have ha := h.li.apart x y h.here hy (fun q => hyx q.symm)
    rw [h.atp, h.ats] at ha
    rw [MemS.turn_eq (h.li.tcode hy ht), MemS.fill_word _ _ _ _ _ hr.2, if_neg (by omega)]
    exact h.words j g1 g2
  · rw [hb, PS.setTaken_taken t hy hy.1, if_pos rfl]
theorem AI.take (h : AI S M x pos size mark size) (v c : Int) : ((S.take M v c).1.2 ≠ 0 ∧ AI (S.take M v c).2.1 (S.take M v c).2.2 x pos size mark size) ∨
    ∃ n, (S.take M v c).1 = (n, 0) ∧ AI (S.take M v c).2.1 (S.take M v c).2.2 x pos size mark size ∧ n ≠ x ∧ (S.take M v c).2.1.there n ∧ ((S.take M v c).2.1.blk n).taken = true := by
  unfold PS.take
  by_cases ho : v < 0 ∨ S.W ≤ v ∨ c < 0 ∨ 3 ≤ c
  · rw [if_pos ho]; exact .inl ⟨by simp, h⟩
  · rw [if_neg ho]
    cases hr : S.row (v.toNat * 4 + c.toNat) with
    | nil => exact .inl ⟨by simp, h⟩
    | cons y l =>
      have hk : v.toNat * 4 + c.toNat < 4 * S.W := by omega
      obtain ⟨hy, ht, -⟩ := h.li.ok.mem _ hk y (by rw [hr]; simp)
      have hyx : y ≠ x := fun e => by rw [e, h.taken] at ht; cases ht
      simp only []
      rw [if_pos (h.li.tcode hy (t := true) ht)]
      obtain ⟨h1, h2, h3⟩ := h.flag (S' := (S.setRow (v.toNat * 4 + c.toNat) l).setTaken y true) hy hyx (t := true) ht (h.li.ok.pull hk hr) rfl
      exact .inr ⟨y, rfl, h1, hyx, h2, h3⟩
theorem AI.give (h : AI S M x pos size mark size) (v y : Int) (hyx : y ≠ x) : AI (S.give M v y).2.1 (S.give M v y).2.2 x pos size mark size := by
  have hg := h.li.give v y
  rcases give_cases h.li.ok v y with ⟨e1, e2⟩ | ⟨e1, g1, g2, hy, ht, ok', -, hb⟩
  · unfold PS.give
    unfold PS.giveR at e1
    by_cases h1 : v < 0 ∨ S.W ≤ v
    · rw [if_pos h1]; exact h
    · rw [if_neg h1] at e1 ⊢
      by_cases h2 : y < 1 ∨ S.blks.length < y
      · rw [if_pos h2]; exact h
      · rw [if_neg h2] at e1 ⊢
        by_cases h3 : (S.blk y).taken = false
        · rw [if_pos h3]; exact h
        · rw [if_neg h3] at e1; exact absurd rfl e1
  · have hf := (h.flag (t := false) hy hyx (by rw [ht]; rfl) ok' hb).1
    rw [hg.2.1]
    have e : (S.give M v y).2.2 = M.turn (S.blk y).pos (S.blk y).size false := by
      unfold PS.give
      rw [if_neg (by omega), if_neg (by have := hy.1; have := hy.2; omega), if_neg (by rw [ht]; simp), if_pos (h.li.tcode hy (t := false) (by rw [ht]; rfl))]
    rw [e]
    exact hf
theorem AI.drain (h : AI S M x pos size mark size) (v : Int) : AI (S.drain v).2 M x pos size mark size := by
  obtain ⟨-, -, hb⟩ := drain_cases h.li.ok v
  have e1 : ∀ y, (S.drain v).2.blk y = S.blk y := fun y => by unfold PS.blk; rw [hb]
  have e2 : ∀ y, (S.drain v).2.there y ↔ S.there y := fun y => by unfold PS.there; rw [hb]
  exact ⟨h.li.drain v, (e2 x).2 h.here, by rw [e1]; exact h.taken, by rw [e1]; exact h.atp, by rw [e1]; exact h.ats, h.words⟩

/-- The first Take: a block, or none that there were. -/
theorem first_take {s : Shp} {base n : Nat} (h : s.Right) (hb : base + s.ws 3 ≤ n) (hn : n ≤ 65536) {M : MemS} (hM : M = MemS.fresh n) {S : PS} (hS : S = s.at_ base (s.off 3)) :
    ((S.take M 0 0).1.2 ≠ 0 ∧ s.n 0 = 0) ∨
    ∃ x, (S.take M 0 0).1 = (x, 0) ∧ AI (S.take M 0 0).2.1 (S.take M 0 0).2.2 x ((S.take M 0 0).2.1.blk x).pos ((S.take M 0 0).2.1.blk x).size mark 0 ∧ ((S.take M 0 0).2.1.blk x).size ≤ n := by
  have hL : LI S M := by rw [hM, hS]; exact LI.fresh h hb hn
  have hW : S.W = s.W := by rw [hS]; rfl
  have hD : KD s base S s.W := by
    rw [hS]
    refine ⟨KB.start h (by omega), fun x hx => ?_, fun u hu => ?_⟩
    · have := Shp.at_there.1 hx
      rw [Shp.at_blk this.1 this.2]; rfl
    · show (if (4 * u + 3) % 4 = 3 then [] else _) = []
      rw [if_pos (by omega)]
  have h1 : 1 ≤ s.W := h.W1
  have hlen := hD.takes.len 0 0 (by omega) (by omega) (by omega)
  unfold PS.take
  rw [if_neg (by rw [hW]; omega)]
  cases hr : S.row ((0 : Int).toNat * 4 + (0 : Int).toNat) with
  | nil =>
    refine .inl ⟨by simp, ?_⟩
    rw [← hlen]
    have : S.row (4 * 0 + 0) = [] := hr
    rw [this]; rfl
  | cons y l =>
    have hk : (0 : Int).toNat * 4 + (0 : Int).toNat < 4 * S.W := by simp; omega
    obtain ⟨hy, ht, -⟩ := hL.ok.mem _ hk y (by rw [hr]; simp)
    simp only []
    rw [if_pos (hL.tcode hy (t := true) ht)]
    have hL' := hL.flag (S' := (S.setRow ((0 : Int).toNat * 4 + (0 : Int).toNat) l).setTaken y true) hy (t := true) ht (hL.ok.pull hk hr) rfl
    have hy' : ((S.setRow ((0 : Int).toNat * 4 + (0 : Int).toNat) l).setTaken y true).there y := PS.setTaken_there.2 hy
    refine .inr ⟨y, rfl, ⟨hL', hy', ?_, rfl, rfl, fun j _ _ => by omega⟩, ?_⟩
    · rw [PS.setTaken_taken (S := S.setRow ((0 : Int).toNat * 4 + (0 : Int).toNat) l) true hy hy.1, if_pos rfl]
    · have hr := (hL'.room y hy').2
      have hw : (M.turn (S.blk y).pos (S.blk y).size true).words.length = n := by
        rw [MemS.turn_eq (hL.tcode hy (t := true) ht), MemS.fill_words, hM, MemS.fresh_words]
      exact Nat.le_trans (Nat.le_trans (Nat.le_add_left _ _) hr) (Nat.le_of_eq hw)
end

end Go.Proofs.Ytccadafajocbgaa
