/- Layer 9: the document's operation, its moves, and what is kept: plain, no program in sight. -/
import Derived.Test.YtlogmfpnjpamgaaDeqC
open Go Go.RowKit
namespace Go.Proofs.Ytlogmfpnjpamgaa

/-- An operation, as the document has it: 0 push, 1 pop, 2 steal. -/
structure DOp where
  what : Nat
  next : Nat
  x : Int
  e : Int
  t : Int
  ended : Bool
  result : Int
  why : Int

def DOp.step1 (room : Nat) (D : Dq) (o : DOp) : DOp × Dq :=
  match o.what, o.next with
  | 0, 0 => (if D 0 = room then { o with next := 1, e := D 0, ended := true, why := 8 } else { o with next := 1, e := D 0 }, D)
  | 0, 1 => ({ o with next := 2 }, D.put (2 + o.e.toNat) o.x)
  | 0, _ => ({ o with next := 3, ended := true }, D.put 0 (o.e + 1))
  | 1, 0 => (if D 0 = 0 then { o with next := 1, e := D 0, ended := true, why := 9 } else { o with next := 1, e := D 0 }, D)
  | 1, 1 => ({ o with next := 2 }, D.put 0 (o.e - 1))
  | 1, 2 => ({ o with next := 3, x := D (2 + (o.e - 1).toNat) }, D)
  | 1, 3 => (if D 1 % 65536 < o.e - 1 then { o with next := 4, t := D 1, ended := true, result := o.x } else { o with next := 4, t := D 1 }, D)
  | 1, 4 => (if o.e - 1 = o.t % 65536 then { o with next := 5 } else { o with next := 6 }, D.put 0 0)
  | 1, 5 => if D 1 = o.t then ({ o with next := 6, ended := true, result := o.x }, D.put 1 (65536 * (o.t / 65536 + 1))) else ({ o with next := 6 }, D)
  | 1, _ => ({ o with next := 7, ended := true, why := 9 }, D.put 1 (65536 * (o.t / 65536 + 1)))
  | _, 0 => ({ o with next := 1, t := D 1 }, D)
  | _, 1 => (if D 0 ≤ o.t % 65536 then { o with next := 2, e := D 0, ended := true, why := 9 } else { o with next := 2, e := D 0 }, D)
  | _, 2 => ({ o with next := 3, x := D (2 + (o.t % 65536).toNat) }, D)
  | _, _ => if D 1 = o.t then ({ o with next := 4, ended := true, result := o.x }, D.put 1 (o.t + 1)) else ({ o with next := 4, ended := true, why := 10 }, D)

def DOp.step2 (room : Nat) (D : Dq) (o : DOp) : DOp × Dq :=
  match o.what, o.next with
  | 0, 0 => (if D 1 % 65536 = room then { o with next := 1, t := D 1, ended := true, why := 8 } else { o with next := 1, t := D 1 }, D)
  | 0, 1 => ({ o with next := 2 }, D.put (2 + (o.t % 65536).toNat) o.x)
  | 0, _ => ({ o with next := 3, ended := true }, D.put 1 (o.t + 65536 + 1))
  | _, 0 => (if D 1 % 65536 = 0 then { o with next := 1, t := D 1, ended := true, why := 9 } else { o with next := 1, t := D 1 }, D)
  | _, 1 => ({ o with next := 2, x := D (2 + (o.t % 65536 - 1).toNat) }, D)
  | 1, _ => ({ o with next := 3, ended := true, result := o.x }, D.put 1 (o.t - 1))
  | _, _ => if D 1 = o.t then ({ o with next := 3, ended := true, result := o.x }, D.put 1 (o.t - 1)) else ({ o with next := 3, ended := true, why := 10 }, D)

def DOp.step3 (room : Nat) (D : Dq) (o : DOp) : DOp × Dq :=
  match o.what, o.next with
  | _, 0 => ({ o with next := 1, t := D 1 }, D)
  | 0, 1 => (if (room : Int) ≤ D 0 - o.t then { o with next := 2, e := D 0, ended := true, why := 8 } else { o with next := 2, e := D 0 }, D)
  | 0, 2 => ({ o with next := 3 }, D.put (2 + o.e.toNat % room) o.x)
  | 0, _ => ({ o with next := 4, ended := true }, D.put 0 (o.e + 1))
  | _, 1 => (if D 0 ≤ o.t then { o with next := 2, e := D 0, ended := true, why := 9 } else { o with next := 2, e := D 0 }, D)
  | _, 2 => ({ o with next := 3, x := D (2 + o.t.toNat % room) }, D)
  | 1, _ => ({ o with next := 4, ended := true, result := o.x }, D.put 1 (o.t + 1))
  | _, _ => if D 1 = o.t then ({ o with next := 4, ended := true, result := o.x }, D.put 1 (o.t + 1)) else ({ o with next := 4, ended := true, why := 10 }, D)

/-- A move: the operation and the words behind it. -/
def DOp.step (kind room : Nat) (D : Dq) (o : DOp) : DOp × Dq :=
  if o.ended = true then (o, D) else if kind = 1 then o.step1 room D else if kind = 2 then o.step2 room D else o.step3 room D

/-- A word T of N tags at most. -/
def TOk (room N : Nat) (t : Int) : Prop := 0 ≤ t ∧ t / 65536 ≤ N ∧ t % 65536 ≤ room

/-- What is kept of a deque's words, N moves behind the beginning. -/
def DqOk (kind room N : Nat) (D : Dq) : Prop :=
  if kind = 1 then 0 ≤ D 0 ∧ D 0 ≤ room ∧ TOk room N (D 1) else if kind = 2 then TOk room N (D 1) else 0 ≤ D 0 ∧ D 0 ≤ N ∧ 0 ≤ D 1 ∧ D 1 ≤ N

def Ok1 (room N what next : Nat) (e t : Int) : Prop :=
  (what = 0 → next ≤ 2 ∧ (1 ≤ next → 0 ≤ e ∧ e < room)) ∧
  (what = 1 → next ≤ 6 ∧ (1 ≤ next → 1 ≤ e ∧ e ≤ room) ∧ (4 ≤ next → TOk room N t) ∧ (next = 5 → e - 1 = t % 65536)) ∧
  (what = 2 → next ≤ 3 ∧ (1 ≤ next → TOk room N t) ∧ (2 ≤ next → t % 65536 < e ∧ e ≤ room))
def Ok2 (room N what next : Nat) (t : Int) : Prop :=
  next ≤ 2 ∧ (1 ≤ next → TOk room N t) ∧ (what = 0 → 1 ≤ next → t % 65536 < room) ∧ (1 ≤ what → 1 ≤ next → 1 ≤ t % 65536)
def Ok3 (N what next : Nat) (e t : Int) : Prop :=
  next ≤ 3 ∧ (1 ≤ next → 0 ≤ t ∧ t ≤ N) ∧ (2 ≤ next → 0 ≤ e ∧ e ≤ N) ∧ (1 ≤ what → 2 ≤ next → t < e)

/-- What is kept of an operation. -/
structure DOp.Ok (kind room N : Nat) (o : DOp) : Prop where
  what : o.what ≤ 2
  zero : o.ended = false → o.result = 0 ∧ o.why = 0
  pc : o.ended = false → if kind = 1 then Ok1 room N o.what o.next o.e o.t else if kind = 2 then Ok2 room N o.what o.next o.t else Ok3 N o.what o.next o.e o.t

theorem TOk.mono {room N M : Nat} {t : Int} (h : TOk room N t) (hn : N ≤ M) : TOk room M t := by unfold TOk at h ⊢; omega
theorem DqOk.mono {kind room N M : Nat} {D : Dq} (h : DqOk kind room N D) (hn : N ≤ M) : DqOk kind room M D := by
  unfold DqOk TOk at h ⊢
  split at h
  · rename_i hk; rw [if_pos hk]; omega
  · rename_i hk
    rw [if_neg hk]
    split at h
    · rename_i hk2; rw [if_pos hk2]; omega
    · rename_i hk2; rw [if_neg hk2]; omega
theorem DOp.Ok.mono {kind room N M : Nat} {o : DOp} (h : o.Ok kind room N) (hn : N ≤ M) : o.Ok kind room M := by
  refine ⟨h.what, h.zero, fun he => ?_⟩
  have := h.pc he
  unfold Ok1 Ok2 Ok3 TOk at this ⊢
  split at this
  · rename_i hk; rw [if_pos hk]; omega
  · rename_i hk
    rw [if_neg hk]
    split at this
    · rename_i hk2; rw [if_pos hk2]; omega
    · rename_i hk2; rw [if_neg hk2]; omega

theorem TOk.zero (room N : Nat) : TOk room N 0 := by unfold TOk; omega
theorem TOk.le {room N : Nat} {t : Int} (h : TOk room N t) (hr : room ≤ 1000) : t ≤ 65536 * N + 1000 := by unfold TOk at h; omega

theorem Dq.put_self (D : Dq) (k : Nat) (v : Int) : D.put k v k = v := by simp [Dq.put]
theorem Dq.put_ne (D : Dq) (k : Nat) (v : Int) {j : Nat} (h : j ≠ k) : D.put k v j = D j := by simp [Dq.put, h]

/-- A new operation. -/
def DOp.new (what : Nat) (x : Int) : DOp := ⟨what, 0, x, 0, 0, false, 0, 0⟩
theorem DOp.new_ok (kind room N what : Nat) (x : Int) (h : what ≤ 2) : (DOp.new what x).Ok kind room N := by
  refine ⟨h, fun _ => ⟨rfl, rfl⟩, fun _ => ?_⟩
  unfold Ok1 Ok2 Ok3 TOk DOp.new
  simp only
  split
  · omega
  · split <;> omega

theorem three_cases {n : Nat} (h : n ≤ 2) : n = 0 ∨ n = 1 ∨ n = 2 := by omega

theorem step_ok1 (room N : Nat) (D : Dq) (o : DOp) (hr : room ≤ 1000) (hD : DqOk 1 room N D) (ho : o.Ok 1 room N) : (o.step 1 room D).1.Ok 1 room (N + 1) ∧ DqOk 1 room (N + 1) (o.step 1 room D).2 := by
  by_cases he : o.ended = true
  · rw [DOp.step, if_pos he]; exact ⟨ho.mono (by omega), hD.mono (by omega)⟩
  · obtain ⟨hw, hz, hp⟩ := ho
    obtain ⟨what, next, x, e, t, ended, result, why⟩ := o
    obtain rfl : ended = false := eq_false_of_ne_true he
    have hz := hz rfl
    have hp := hp rfl
    simp only at hw hz hp
    unfold DqOk at hD
    simp only [if_true] at hp hD
    unfold Ok1 at hp
    simp only [DOp.step, DOp.step1, Bool.false_eq_true, if_false, if_true]
    rcases three_cases hw with rfl | rfl | rfl
    · rcases three_cases (hp.1 rfl).1 with rfl | rfl | rfl
      all_goals simp only
      all_goals (try split)
      all_goals (refine ⟨⟨by simp, by simp; try omega, ?_⟩, ?_⟩ <;> simp [DqOk, Ok1, TOk, Dq.put] at hp hD ⊢ <;> omega)
    · rcases (show next = 0 ∨ next = 1 ∨ next = 2 ∨ next = 3 ∨ next = 4 ∨ next = 5 ∨ next = 6 by omega) with rfl | rfl | rfl | rfl | rfl | rfl | rfl
      all_goals simp only
      all_goals (try split)
      all_goals (refine ⟨⟨by simp, by simp; try omega, ?_⟩, ?_⟩ <;> simp [DqOk, Ok1, TOk, Dq.put] at hp hD ⊢ <;> omega)
    · rcases (show next = 0 ∨ next = 1 ∨ next = 2 ∨ next = 3 by omega) with rfl | rfl | rfl | rfl
      all_goals simp only
      all_goals (try split)
      all_goals (refine ⟨⟨by simp, by simp; try omega, ?_⟩, ?_⟩ <;> simp [DqOk, Ok1, TOk, Dq.put] at hp hD ⊢ <;> omega)

theorem step_ok2 (room N : Nat) (D : Dq) (o : DOp) (hr : room ≤ 1000) (hD : DqOk 2 room N D) (ho : o.Ok 2 room N) : (o.step 2 room D).1.Ok 2 room (N + 1) ∧ DqOk 2 room (N + 1) (o.step 2 room D).2 := by
  by_cases he : o.ended = true
  · rw [DOp.step, if_pos he]; exact ⟨ho.mono (by omega), hD.mono (by omega)⟩
  · obtain ⟨hw, hz, hp⟩ := ho
    obtain ⟨what, next, x, e, t, ended, result, why⟩ := o
    obtain rfl : ended = false := eq_false_of_ne_true he
    have hz := hz rfl
    have hp := hp rfl
    simp only at hw hz hp
    unfold DqOk at hD
    simp only [if_true, if_neg (show ¬ 2 = 1 by decide)] at hp hD
    unfold Ok2 at hp
    simp only [DOp.step, DOp.step2, Bool.false_eq_true, if_false, if_true, if_neg (show ¬ 2 = 1 by decide)]
    rcases three_cases hw with rfl | rfl | rfl
    all_goals rcases three_cases hp.1 with rfl | rfl | rfl
    all_goals simp only
    all_goals (try split)
    all_goals (refine ⟨⟨by simp, by simp; try omega, ?_⟩, ?_⟩ <;> simp [DqOk, Ok2, TOk, Dq.put] at hp hD ⊢ <;> omega)

theorem step_ok3 (room N : Nat) (D : Dq) (o : DOp) (hr : room ≤ 1000) (hD : DqOk 3 room N D) (ho : o.Ok 3 room N) : (o.step 3 room D).1.Ok 3 room (N + 1) ∧ DqOk 3 room (N + 1) (o.step 3 room D).2 := by
  by_cases he : o.ended = true
  · rw [DOp.step, if_pos he]; exact ⟨ho.mono (by omega), hD.mono (by omega)⟩
  · obtain ⟨hw, hz, hp⟩ := ho
    obtain ⟨what, next, x, e, t, ended, result, why⟩ := o
    obtain rfl : ended = false := eq_false_of_ne_true he
    have hz := hz rfl
    have hp := hp rfl
    simp only at hw hz hp
    unfold DqOk at hD
    simp only [if_true, if_neg (show ¬ 3 = 1 by decide), if_neg (show ¬ 3 = 2 by decide)] at hp hD
    unfold Ok3 at hp
    simp only [DOp.step, DOp.step3, Bool.false_eq_true, if_false, if_true, if_neg (show ¬ 3 = 1 by decide), if_neg (show ¬ 3 = 2 by decide)]
    rcases three_cases hw with rfl | rfl | rfl
    all_goals rcases (show next = 0 ∨ next = 1 ∨ next = 2 ∨ next = 3 by omega) with rfl | rfl | rfl | rfl
    all_goals simp only
    all_goals (try split)
    all_goals (refine ⟨⟨by simp, by simp; try omega, ?_⟩, ?_⟩ <;> simp [DqOk, Ok3, Dq.put] at hp hD ⊢ <;> omega)

theorem step_ok (kind room N : Nat) (D : Dq) (o : DOp) (hk : kind = 1 ∨ kind = 2 ∨ kind = 3) (hr : room ≤ 1000) (hD : DqOk kind room N D) (ho : o.Ok kind room N) : (o.step kind room D).1.Ok kind room (N + 1) ∧ DqOk kind room (N + 1) (o.step kind room D).2 := by
  rcases hk with rfl | rfl | rfl
  · exact step_ok1 room N D o hr hD ho
  · exact step_ok2 room N D o hr hD ho
  · exact step_ok3 room N D o hr hD ho

end Go.Proofs.Ytlogmfpnjpamgaa
