/- Layer 10, plain: the rows of a pool behind a Take, a Give, a Drain. -/
import Derived.Test.YtccadafajocbgaaPoolC
open Go Go.RowKit
namespace Go.Proofs.Ytccadafajocbgaa

def PS.setRow (S : PS) (k : Nat) (l : List Int) : PS := { S with row := fun j => if j = k then l else S.row j }
def PS.setTaken (S : PS) (x : Int) (t : Bool) : PS := { S with blks := S.blks.set (x - 1).toNat { S.blk x with taken := t } }

section
variable {S : PS}
theorem PS.setTaken_len (S : PS) (x : Int) (t : Bool) : (S.setTaken x t).blks.length = S.blks.length := by simp [PS.setTaken]
theorem PS.setTaken_there {x y : Int} {t : Bool} : (S.setTaken x t).there y ↔ S.there y := by unfold PS.there; rw [PS.setTaken_len]
theorem PS.setTaken_blk {x : Int} (t : Bool) {y : Int} (hx : S.there x) (hy : 1 ≤ y) : (S.setTaken x t).blk y = if y = x then { S.blk x with taken := t } else S.blk y := by
  have h1 := hx.1; have h2 := hx.2
  unfold PS.setTaken
  show (S.blks.set (x - 1).toNat { S.blk x with taken := t }).getD (y - 1).toNat default = _
  rw [List.getD_eq_getElem?_getD, List.getElem?_set]
  by_cases e : y = x
  · subst e
    rw [if_pos rfl, if_pos (by omega), if_pos rfl]; rfl
  · rw [if_neg (by omega), if_neg e, ← List.getD_eq_getElem?_getD]; rfl
theorem PS.setTaken_taken {x : Int} (t : Bool) {y : Int} (hx : S.there x) (hy : 1 ≤ y) : ((S.setTaken x t).blk y).taken = if y = x then t else (S.blk y).taken := by
  rw [PS.setTaken_blk t hx hy]; split <;> rfl
theorem PS.setTaken_home {x : Int} (t : Bool) {y : Int} (hx : S.there x) (hy : 1 ≤ y) : (S.setTaken x t).home y = S.home y := by
  unfold PS.home; rw [PS.setTaken_blk t hx hy]; split
  · rename_i e; subst e; rfl
  · rfl
theorem PS.setTaken_far {x : Int} (t : Bool) {y : Int} (hx : S.there x) (hy : 1 ≤ y) : (S.setTaken x t).far y = S.far y := by
  unfold PS.far; rw [PS.setTaken_blk t hx hy]; split
  · rename_i e; subst e; rfl
  · rfl
theorem PS.setTaken_place {x : Int} (t : Bool) {y : Int} (hx : S.there x) (hy : 1 ≤ y) : ((S.setTaken x t).blk y).owner = (S.blk y).owner ∧ ((S.setTaken x t).blk y).cls = (S.blk y).cls ∧ ((S.setTaken x t).blk y).pos = (S.blk y).pos ∧ ((S.setTaken x t).blk y).size = (S.blk y).size := by
  rw [PS.setTaken_blk t hx hy]; split
  · rename_i e; subst e; exact ⟨rfl, rfl, rfl, rfl⟩
  · exact ⟨rfl, rfl, rfl, rfl⟩

/-- Each block that is not taken stands in one row, at its owner's, but those of l, which stand in none. -/
structure PS.But (S : PS) (l : List Int) : Prop where
  W1 : 1 ≤ S.W
  W2 : S.W ≤ 64
  N : S.blks.length ≤ 192000
  place : ∀ x, S.there x → (S.blk x).owner < S.W ∧ (S.blk x).cls < 3 ∧ (S.blk x).pos ≤ 65536 ∧ (S.blk x).size ≤ 65536
  mem : ∀ k, k < 4 * S.W → ∀ x ∈ S.row k, S.there x ∧ (S.blk x).taken = false ∧ (k = S.home x ∨ k = S.far x) ∧ x ∉ l
  nodup : ∀ k, k < 4 * S.W → (S.row k).Nodup
  once : ∀ x, S.there x → x ∈ S.row (S.home x) → x ∉ S.row (S.far x)
  all : ∀ x, S.there x → (S.blk x).taken = false → x ∉ l → x ∈ S.row (S.home x) ∨ x ∈ S.row (S.far x)
  out : ∀ x ∈ l, S.there x ∧ (S.blk x).taken = false
  outN : l.Nodup

theorem PS.Ok.but (h : S.Ok) : S.But [] :=
  ⟨h.W1, h.W2, h.N, h.place, fun k hk x hx => ⟨(h.mem k hk x hx).1, (h.mem k hk x hx).2.1, (h.mem k hk x hx).2.2, by simp⟩, h.nodup, h.once, fun x hx ht _ => h.all x hx ht, by simp, by simp⟩
theorem PS.But.ok (h : S.But []) : S.Ok :=
  ⟨h.W1, h.W2, h.N, h.place, fun k hk x hx => ⟨(h.mem k hk x hx).1, (h.mem k hk x hx).2.1, (h.mem k hk x hx).2.2.1⟩, h.nodup, h.once, fun x hx ht => h.all x hx ht (by simp)⟩

theorem PS.But.home_lt {l : List Int} (h : S.But l) {x : Int} (hx : S.there x) : S.home x < 4 * S.W ∧ S.far x < 4 * S.W ∧ S.home x ≠ S.far x := by
  have := h.place x hx
  unfold PS.home PS.far
  omega

/-- x is put into its home's row, or into its owner's far row. -/
theorem PS.But.put {l : List Int} {x : Int} (h : S.But (x :: l)) {k : Nat} (hk : k = S.home x ∨ k = S.far x) {l' : List Int} (hl : ∀ y, y ∈ l' ↔ y = x ∨ y ∈ S.row k) (hn : l'.Nodup) : (S.setRow k l').But l := by
  obtain ⟨hx, hxt⟩ := h.out x (by simp)
  obtain ⟨k1, k2, k3⟩ := h.home_lt hx
  have hkW : k < 4 * S.W := by rcases hk with rfl | rfl <;> assumption
  have hxn : ∀ j, j < 4 * S.W → x ∉ S.row j := fun j hj hm => (h.mem j hj x hm).2.2.2 (by simp)
  have hxl : x ∉ l := (List.nodup_cons.1 h.outN).1
  refine ⟨h.W1, h.W2, h.N, h.place, ?_, ?_, ?_, ?_, fun y hy => h.out y (by simp [hy]), (List.nodup_cons.1 h.outN).2⟩
  · intro j hj y hy
    simp only [PS.setRow] at hy hj
    by_cases hjk : j = k
    · rw [if_pos hjk, hl] at hy
      subst hjk
      rcases hy with rfl | hy
      · exact ⟨hx, hxt, hk, hxl⟩
      · have := h.mem j hj y hy
        exact ⟨this.1, this.2.1, this.2.2.1, fun hh => this.2.2.2 (by simp [hh])⟩
    · rw [if_neg hjk] at hy
      have := h.mem j hj y hy
      exact ⟨this.1, this.2.1, this.2.2.1, fun hh => this.2.2.2 (by simp [hh])⟩
  · intro j hj
    simp only [PS.setRow]
    by_cases hjk : j = k
    · rw [if_pos hjk]; exact hn
    · rw [if_neg hjk]; exact h.nodup j hj
  · intro y hy h1 h2
    change y ∈ (if S.home y = k then l' else S.row (S.home y)) at h1
    change y ∈ (if S.far y = k then l' else S.row (S.far y)) at h2
    obtain ⟨j1, j2, j3⟩ := h.home_lt hy
    by_cases e1 : S.home y = k
    · rw [if_pos e1, hl] at h1
      rw [if_neg (by omega)] at h2
      rcases h1 with rfl | h1
      · exact hxn _ j2 h2
      · exact h.once y hy (e1 ▸ h1) h2
    · rw [if_neg e1] at h1
      by_cases e2 : S.far y = k
      · rw [if_pos e2, hl] at h2
        rcases h2 with rfl | h2
        · exact hxn _ j1 h1
        · exact h.once y hy h1 (e2 ▸ h2)
      · rw [if_neg e2] at h2
        exact h.once y hy h1 h2
  · intro y hy ht hyl
    show y ∈ (if S.home y = k then l' else S.row (S.home y)) ∨ y ∈ (if S.far y = k then l' else S.row (S.far y))
    by_cases e : y = x
    · subst e
      rcases hk with hk | hk
      · left; rw [if_pos hk.symm, hl]; exact .inl rfl
      · right; rw [if_pos hk.symm, hl]; exact .inl rfl
    · rcases h.all y hy ht (by simp [e, hyl]) with h1 | h1
      · left
        by_cases e1 : S.home y = k
        · rw [if_pos e1, hl]; exact .inr (e1 ▸ h1)
        · rw [if_neg e1]; exact h1
      · right
        by_cases e1 : S.far y = k
        · rw [if_pos e1, hl]; exact .inr (e1 ▸ h1)
        · rw [if_neg e1]; exact h1

/-- x is taken out of the front of a row. -/
theorem PS.Ok.pull (h : S.Ok) {k : Nat} (hk : k < 4 * S.W) {x : Int} {l : List Int} (he : S.row k = x :: l) : ((S.setRow k l).setTaken x true).Ok := by
  have hm := h.mem k hk x (by rw [he]; simp)
  have hx := hm.1
  have hx' : (S.setRow k l).there x := hx
  have hxn : ∀ j, j < 4 * S.W → j ≠ k → x ∉ S.row j := by
    intro j hj hjk hxj
    have h1 := (h.mem j hj x hxj).2.2
    have h2 := hm.2.2
    have hxk : x ∈ S.row k := by rw [he]; simp
    rcases h1 with h1 | h1 <;> rcases h2 with h2 | h2
    · omega
    · exact h.once x hx (h1 ▸ hxj) (h2 ▸ hxk)
    · exact h.once x hx (h2 ▸ hxk) (h1 ▸ hxj)
    · omega
  have hnd := h.nodup k hk
  rw [he] at hnd
  have hxl : x ∉ l := (List.nodup_cons.1 hnd).1
  have hsub : ∀ j y, y ∈ (S.setRow k l).row j → y ∈ S.row j := by
    intro j y hy
    simp only [PS.setRow] at hy
    by_cases hjk : j = k
    · rw [if_pos hjk] at hy; rw [hjk, he]; simp [hy]
    · rw [if_neg hjk] at hy; exact hy
  have hne : ∀ j, j < 4 * S.W → ∀ y, y ∈ (S.setRow k l).row j → y ≠ x := by
    rintro j hj y hy rfl
    simp only [PS.setRow] at hy
    by_cases hjk : j = k
    · rw [if_pos hjk] at hy; exact hxl hy
    · rw [if_neg hjk] at hy; exact hxn j hj hjk hy
  refine ⟨h.W1, h.W2, by rw [PS.setTaken_len]; exact h.N, ?_, ?_, ?_, ?_, ?_⟩
  · intro y hy
    have hy := PS.setTaken_there.1 hy
    obtain ⟨e1, e2, e3, e4⟩ := PS.setTaken_place true hx' hy.1
    rw [e1, e2, e3, e4]
    exact h.place y hy
  · intro j hj y hy
    have hyj := hsub j y hy
    have h1 := h.mem j hj y hyj
    refine ⟨PS.setTaken_there.2 h1.1, ?_, ?_⟩
    · rw [PS.setTaken_taken true hx' h1.1.1, if_neg (hne j hj y hy)]; exact h1.2.1
    · rw [PS.setTaken_home true hx' h1.1.1, PS.setTaken_far true hx' h1.1.1]; exact h1.2.2
  · intro j hj
    show ((S.setRow k l).row j).Nodup
    simp only [PS.setRow]
    by_cases hjk : j = k
    · rw [if_pos hjk]; exact (List.nodup_cons.1 hnd).2
    · rw [if_neg hjk]; exact h.nodup j hj
  · intro y hy
    have hy := PS.setTaken_there.1 hy
    rw [PS.setTaken_home true hx' hy.1, PS.setTaken_far true hx' hy.1]
    exact fun h1 h2 => h.once y hy (hsub _ _ h1) (hsub _ _ h2)
  · intro y hy ht
    have hy := PS.setTaken_there.1 hy
    rw [PS.setTaken_taken true hx' hy.1] at ht
    by_cases e : y = x
    · rw [if_pos e] at ht; cases ht
    · rw [if_neg e] at ht
      rw [PS.setTaken_home true hx' hy.1, PS.setTaken_far true hx' hy.1]
      have hin : ∀ j, y ∈ S.row j → y ∈ (S.setRow k l).row j := by
        intro j hj
        simp only [PS.setRow]
        by_cases hjk : j = k
        · rw [if_pos hjk]; rw [hjk, he] at hj; simpa [e] using hj
        · rw [if_neg hjk]; exact hj
      rcases h.all y hy ht with h1 | h1
      · exact .inl (hin _ h1)
      · exact .inr (hin _ h1)

/-- A block that is taken is so no more: it stands in no row as yet. -/
theorem PS.Ok.give (h : S.Ok) {x : Int} (hx : S.there x) (ht : (S.blk x).taken = true) : (S.setTaken x false).But [x] := by
  refine ⟨h.W1, h.W2, by rw [PS.setTaken_len]; exact h.N, ?_, ?_, h.nodup, ?_, ?_, ?_, by simp⟩
  · intro y hy
    have hy := PS.setTaken_there.1 hy
    obtain ⟨e1, e2, e3, e4⟩ := PS.setTaken_place false hx hy.1
    rw [e1, e2, e3, e4]
    exact h.place y hy
  · intro j hj y hy
    have h1 := h.mem j hj y hy
    have hne : y ≠ x := by rintro rfl; rw [ht] at h1; cases h1.2.1
    refine ⟨PS.setTaken_there.2 h1.1, ?_, ?_, by simpa using hne⟩
    · rw [PS.setTaken_taken false hx h1.1.1, if_neg hne]; exact h1.2.1
    · rw [PS.setTaken_home false hx h1.1.1, PS.setTaken_far false hx h1.1.1]; exact h1.2.2
  · intro y hy
    have hy := PS.setTaken_there.1 hy
    rw [PS.setTaken_home false hx hy.1, PS.setTaken_far false hx hy.1]
    exact h.once y hy
  · intro y hy h1 h2
    have hy := PS.setTaken_there.1 hy
    have hne : y ≠ x := by simpa using h2
    rw [PS.setTaken_taken false hx hy.1, if_neg hne] at h1
    rw [PS.setTaken_home false hx hy.1, PS.setTaken_far false hx hy.1]
    exact h.all y hy h1
  · intro y hy
    obtain rfl : y = x := by simpa using hy
    exact ⟨PS.setTaken_there.2 hx, by rw [PS.setTaken_taken false hx hx.1, if_pos rfl]⟩

/-- All of a row are taken out. -/
theorem PS.Ok.empty (h : S.Ok) {k : Nat} (hk : k < 4 * S.W) : (S.setRow k []).But (S.row k) := by
  have hsub : ∀ j y, y ∈ (S.setRow k []).row j → y ∈ S.row j ∧ j ≠ k := by
    intro j y hy
    simp only [PS.setRow] at hy
    by_cases hjk : j = k
    · rw [if_pos hjk] at hy; simp at hy
    · rw [if_neg hjk] at hy; exact ⟨hy, hjk⟩
  refine ⟨h.W1, h.W2, h.N, h.place, ?_, ?_, fun y hy h1 h2 => h.once y hy (hsub _ _ h1).1 (hsub _ _ h2).1, ?_, fun y hy => ⟨(h.mem k hk y hy).1, (h.mem k hk y hy).2.1⟩, h.nodup k hk⟩
  · intro j hj y hy
    obtain ⟨h1, hjk⟩ := hsub j y hy
    have h2 := h.mem j hj y h1
    refine ⟨h2.1, h2.2.1, h2.2.2, fun h3 => ?_⟩
    have h4 := (h.mem k hk y h3).2.2
    rcases h2.2.2 with a | a <;> rcases h4 with b | b
    · omega
    · exact h.once y h2.1 (a ▸ h1) (b ▸ h3)
    · exact h.once y h2.1 (b ▸ h3) (a ▸ h1)
    · omega
  · intro j hj
    simp only [PS.setRow]
    by_cases hjk : j = k
    · rw [if_pos hjk]; simp
    · rw [if_neg hjk]; exact h.nodup j hj
  · intro y hy ht hn
    have hin : ∀ j, y ∈ S.row j → y ∈ (S.setRow k []).row j := by
      intro j hj
      simp only [PS.setRow]
      by_cases hjk : j = k
      · exact absurd (hjk ▸ hj) hn
      · rw [if_neg hjk]; exact hj
    rcases h.all y hy ht with h1 | h1
    · exact .inl (hin _ h1)
    · exact .inr (hin _ h1)

/-- Those of l are put home, one by one. -/
def PS.homeAll (S : PS) : List Int → PS
  | [] => S
  | x :: l => (S.setRow (S.home x) (x :: S.row (S.home x))).homeAll l

theorem PS.setRow_blk (S : PS) (k : Nat) (l : List Int) : (S.setRow k l).blk = S.blk := rfl
theorem PS.homeAll_same (l : List Int) : ∀ (S : PS), (S.homeAll l).W = S.W ∧ (S.homeAll l).blks = S.blks := by
  induction l with
  | nil => intro S; exact ⟨rfl, rfl⟩
  | cons x l ih => intro S; exact ih _
theorem PS.homeAll_snoc (l : List Int) (x : Int) : ∀ (S : PS), S.homeAll (l ++ [x]) = (S.homeAll l).setRow (S.home x) (x :: (S.homeAll l).row (S.home x)) := by
  induction l with
  | nil => intro S; rfl
  | cons y l ih => intro S; exact ih _
theorem PS.But.homeAll : ∀ (l : List Int) {S : PS}, S.But l → (S.homeAll l).Ok
  | [], _, h => h.ok
  | x :: l, S, h => by
    have hx := h.out x (by simp)
    refine PS.But.homeAll l (h.put (.inl rfl) (fun y => by simp) (List.nodup_cons.2 ⟨fun hm => ?_, h.nodup _ (h.home_lt hx.1).1⟩))
    exact (h.mem _ (h.home_lt hx.1).1 x hm).2.2.2 (by simp)
theorem PS.homeAll_row (k : Nat) (l' : List Int) : ∀ (l : List Int) (S : PS), (∀ x ∈ l, S.home x ≠ k) → (S.setRow k l').homeAll l = (S.homeAll l).setRow k l'
  | [], _, _ => rfl
  | x :: l, S, h => by
    have hx := h x (by simp)
    have e : (S.setRow k l').setRow (S.home x) (x :: (S.setRow k l').row (S.home x)) = (S.setRow (S.home x) (x :: S.row (S.home x))).setRow k l' := by
      simp only [PS.setRow, if_neg hx]
      congr 1
      funext j
      by_cases h1 : j = S.home x
      · rw [if_pos h1, if_neg (by omega), if_pos h1]
      · rw [if_neg h1]
        by_cases h2 : j = k
        · rw [if_pos h2, if_pos h2]
        · rw [if_neg h2, if_neg h2, if_neg h1]
    show ((S.setRow k l').setRow (S.home x) (x :: (S.setRow k l').row (S.home x))).homeAll l = _
    rw [e]
    exact PS.homeAll_row k l' l _ (fun y hy => h y (by simp [hy]))
theorem PS.homeAll_far (l : List Int) : ∀ (S : PS) (k : Nat), (∀ x ∈ l, S.home x ≠ k) → (S.homeAll l).row k = S.row k := by
  induction l with
  | nil => intro S k _; rfl
  | cons x l ih =>
    intro S k h
    show ((S.setRow (S.home x) (x :: S.row (S.home x))).homeAll l).row k = _
    refine (ih (S.setRow (S.home x) (x :: S.row (S.home x))) k (fun y hy => h y (by simp [hy]))).trans ?_
    simp only [PS.setRow]
    rw [if_neg (fun e => h x (by simp) e.symm)]

theorem PS.homeAll_W (S : PS) (l : List Int) : (S.homeAll l).W = S.W := (PS.homeAll_same l S).1
theorem PS.homeAll_blk (S : PS) (l : List Int) (x : Int) : (S.homeAll l).blk x = S.blk x := by unfold PS.blk; rw [(PS.homeAll_same l S).2]
theorem PS.homeAll_there (S : PS) (l : List Int) (x : Int) : (S.homeAll l).there x ↔ S.there x := by unfold PS.there; rw [(PS.homeAll_same l S).2]
theorem PS.homeAll_len (l : List Int) : ∀ (S : PS) (k : Nat), ((S.homeAll l).row k).length ≤ (S.row k).length + l.length := by
  induction l with
  | nil => intro S k; simp [PS.homeAll]
  | cons x l ih =>
    intro S k
    refine Nat.le_trans (ih (S.setRow (S.home x) (x :: S.row (S.home x))) k) ?_
    simp only [PS.setRow]
    split
    · rename_i e; subst e; simp; omega
    · rw [List.length_cons]; omega

/-- Behind a Drain of worker v. -/
def PS.drainS (S : PS) (v : Nat) : PS := (S.homeAll (S.row (4 * v + 3))).setRow (4 * v + 3) []

theorem PS.Ok.home_far (h : S.Ok) {v : Nat} (hv : v < S.W) : ∀ x ∈ S.row (4 * v + 3), S.home x ≠ 4 * v + 3 := by
  intro x hx
  have h1 := h.mem _ (by omega) x hx
  have h2 := h.place x h1.1
  unfold PS.home
  omega
theorem PS.Ok.drain (h : S.Ok) {v : Nat} (hv : v < S.W) : (S.drainS v).Ok := by
  unfold PS.drainS
  rw [← PS.homeAll_row _ _ _ _ (h.home_far hv)]
  exact PS.But.homeAll _ (h.empty (by omega))
end

end Go.Proofs.Ytccadafajocbgaa
