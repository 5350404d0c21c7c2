/- Layer 9, plain: the law's world, plainly. -/
import Derived.Test.YtlogmfpnjpamgaaDeqP
open Go Go.RowKit
namespace Go.Proofs.Ytlogmfpnjpamgaa

/-- A law's world, plainly: the deque's words, whose operation is where, how many were pushed or tried, which found no room, which were handed out. -/
structure AW where
  D : Dq
  h : Nat → Option DOp
  pushed : Nat
  full : List Int
  handed : List Int

/-- Who has no operation begins one. -/
def AW.op (A : AW) (who : Nat) (pop : Bool) : DOp :=
  match A.h who with
  | some o => o
  | none => if who = 0 then (if pop = true then DOp.new 1 0 else DOp.new 0 ((A.pushed + 1 : Nat) : Int)) else DOp.new 2 0
def AW.np (A : AW) (who : Nat) (pop : Bool) : Nat :=
  match A.h who with
  | some _ => A.pushed
  | none => if who = 0 ∧ pop = false then A.pushed + 1 else A.pushed
def AW.beg (A : AW) (who : Nat) (pop : Bool) : AW := { A with h := fun i => if i = who then some (A.op who pop) else A.h i, pushed := A.np who pop }
/-- An operation's move is done: what it comes to. -/
def AW.fin (A : AW) (who : Nat) (o : DOp) (D : Dq) : AW :=
  { D := D, h := fun i => if i = who then (if o.ended = true then none else some o) else A.h i, pushed := A.pushed,
    full := if o.ended = true ∧ o.why = 8 then A.full ++ [o.x] else A.full,
    handed := if o.ended = true ∧ o.why = 0 ∧ 0 < o.what then A.handed ++ [o.result] else A.handed }
def AW.stp (kind room : Nat) (A : AW) (who : Nat) (o : DOp) : AW := A.fin who (o.step kind room A.D).1 (o.step kind room A.D).2
def AW.move (kind room : Nat) (A : AW) (who : Nat) (pop : Bool) : AW := (A.beg who pop).stp kind room who (A.op who pop)

/-- How many of the k words from lo on are n. -/
def cnt (D : Dq) (lo : Nat) (n : Int) : Nat → Nat
  | 0 => 0
  | k + 1 => cnt D lo n k + (if D (2 + (lo + k)) = n then 1 else 0)

theorem cnt_low (D : Dq) (lo : Nat) (n : Int) (k : Nat) : cnt D lo n (k + 1) = (if D (2 + lo) = n then 1 else 0) + cnt D (lo + 1) n k := by
  induction k with
  | zero => simp [cnt]
  | succ k ih =>
    rw [cnt, ih, cnt, Nat.add_assoc, show lo + 1 + k = lo + (k + 1) by omega]
theorem cnt_congr {D D' : Dq} {lo : Nat} {n : Int} {k : Nat} (h : ∀ i, lo ≤ i → i < lo + k → D' (2 + i) = D (2 + i)) : cnt D' lo n k = cnt D lo n k := by
  induction k with
  | zero => rfl
  | succ k ih => rw [cnt, cnt, ih (fun i h1 h2 => h i h1 (by omega)), h (lo + k) (by omega) (by omega)]
theorem count_snoc (l : List Int) (x n : Int) : (l ++ [x]).count n = l.count n + (if x = n then 1 else 0) := by
  rw [List.count_append, List.count_singleton]
  by_cases h : x = n <;> simp [h]

/-- Kind 1: where what is there ends. -/
def U1 (D : Dq) : Option DOp → Int
  | some o => if o.what = 1 ∧ 2 ≤ o.next then o.e else D 0
  | none => D 0
/-- what is being pushed -/
def ip : Option DOp → Option Int
  | some o => if o.what = 0 then some o.x else none
  | none => none

def Th1 (D : Dq) (U : Int) (o : DOp) : Prop :=
  o.what = 2 ∧ (1 ≤ o.next → o.t ≤ D 1) ∧ (2 ≤ o.next → o.t = D 1 → D 1 % 65536 < U) ∧ (3 ≤ o.next → o.t = D 1 → o.x = D (2 + (D 1 % 65536).toNat))
def Own1 (D : Dq) (o : DOp) : Prop :=
  o.what ≤ 1 ∧
  (o.what = 0 → D 1 % 65536 ≤ D 0 ∧ (1 ≤ o.next → o.e = D 0) ∧ (2 ≤ o.next → D (2 + o.e.toNat) = o.x)) ∧
  (o.what = 1 → (o.next = 0 → D 1 % 65536 ≤ D 0) ∧ (o.next = 1 → o.e = D 0 ∧ D 1 % 65536 ≤ D 0) ∧ (2 ≤ o.next → D 1 % 65536 ≤ o.e) ∧ (2 ≤ o.next → o.next ≤ 4 → D 0 = o.e - 1) ∧ (3 ≤ o.next → o.x = D (2 + (o.e - 1).toNat)) ∧
    (4 ≤ o.next → o.t / 65536 = D 1 / 65536 ∧ o.e - 1 ≤ o.t % 65536 ∧ o.t % 65536 ≤ D 1 % 65536) ∧ (5 ≤ o.next → D 0 = 0) ∧ (o.next = 6 → D 1 % 65536 = o.e))
def Acc1 (A : AW) : Prop := ∀ n : Int, A.handed.count n + cnt A.D (A.D 1 % 65536).toNat n (U1 A.D (A.h 0) - A.D 1 % 65536).toNat + A.full.count n + (if ip (A.h 0) = some n then 1 else 0) = if 1 ≤ n ∧ n ≤ A.pushed then 1 else 0

structure Inv1 (A : AW) : Prop where
  th : ∀ i o, i ≠ 0 → A.h i = some o → Th1 A.D (U1 A.D (A.h 0)) o
  idle : A.h 0 = none → A.D 1 % 65536 ≤ A.D 0
  ow : ∀ o, A.h 0 = some o → Own1 A.D o
  acc : Acc1 A

theorem Th1.keep {D D' : Dq} {U U' : Int} {o : DOp} (h : Th1 D U o) (h1 : D 1 ≤ D' 1) (h2 : D' 1 = D 1 → D 1 % 65536 < U → D 1 % 65536 < U' ∧ D' (2 + (D 1 % 65536).toNat) = D (2 + (D 1 % 65536).toNat)) : Th1 D' U' o := by
  obtain ⟨hw, a1, a2, a3⟩ := h
  refine ⟨hw, fun hn => ?_, fun hn ht => ?_, fun hn ht => ?_⟩
  · have := a1 hn; omega
  · have b1 := a1 (by omega)
    have e : D' 1 = D 1 := by omega
    rw [e]
    exact (h2 e (a2 hn (by omega))).1
  · have b1 := a1 (by omega)
    have e : D' 1 = D 1 := by omega
    rw [e, (h2 e (a2 (by omega) (by omega))).2]
    exact a3 hn (by omega)

/-- What is kept of all, N moves behind the beginning. -/
structure All (kind room N : Nat) (A : AW) : Prop where
  dq : DqOk kind room N A.D
  ok : ∀ i o, A.h i = some o → o.Ok kind room N ∧ o.ended = false ∧ (i = 0 → o.what ≤ 1) ∧ (i ≠ 0 → o.what = 2)

theorem AW.beg_h (A : AW) (who : Nat) (pop : Bool) : (A.beg who pop).h who = some (A.op who pop) := by simp [AW.beg]
theorem AW.beg_ne (A : AW) (who : Nat) (pop : Bool) {i : Nat} (h : i ≠ who) : (A.beg who pop).h i = A.h i := by simp [AW.beg, h]
theorem AW.fin_ne (A : AW) (who : Nat) (o : DOp) (D : Dq) {i : Nat} (h : i ≠ who) : (A.fin who o D).h i = A.h i := by simp [AW.fin, h]
theorem AW.fin_h (A : AW) (who : Nat) (o : DOp) (D : Dq) : (A.fin who o D).h who = if o.ended = true then none else some o := by simp [AW.fin]

theorem All.beg {kind room N : Nat} {A : AW} (h : All kind room N A) (who : Nat) (pop : Bool) : All kind room N (A.beg who pop) := by
  refine ⟨h.dq, fun i o hi => ?_⟩
  by_cases e : i = who
  · subst e
    rw [A.beg_h] at hi
    injection hi with hi
    subst hi
    unfold AW.op
    cases hh : A.h i with
    | some o => exact h.ok i o hh
    | none =>
      simp only
      by_cases h0 : i = 0
      · rw [if_pos h0]
        by_cases hp : pop = true
        · rw [if_pos hp]; exact ⟨DOp.new_ok _ _ _ _ _ (by omega), rfl, fun _ => by show 1 ≤ 1; omega, fun h => absurd h0 h⟩
        · rw [if_neg hp]; exact ⟨DOp.new_ok _ _ _ _ _ (by omega), rfl, fun _ => by show 0 ≤ 1; omega, fun h => absurd h0 h⟩
      · rw [if_neg h0]; exact ⟨DOp.new_ok _ _ _ _ _ (by omega), rfl, fun h => absurd h h0, fun _ => rfl⟩
  · rw [A.beg_ne who pop e] at hi
    exact h.ok i o hi

theorem step_what (kind room : Nat) (D : Dq) (o : DOp) : (o.step kind room D).1.what = o.what := by
  unfold DOp.step
  split
  · rfl
  · split
    · unfold DOp.step1; split <;> (try split) <;> rfl
    · split
      · unfold DOp.step2; split <;> (try split) <;> rfl
      · unfold DOp.step3; split <;> (try split) <;> rfl

theorem All.stp {kind room N : Nat} {A : AW} (h : All kind room N A) (hk : kind = 1 ∨ kind = 2 ∨ kind = 3) (hr : room ≤ 1000) {who : Nat} {o : DOp} (ho : A.h who = some o) : All kind room (N + 1) (A.stp kind room who o) := by
  obtain ⟨h1, h2, h3, h4⟩ := h.ok who o ho
  obtain ⟨k1, k2⟩ := step_ok kind room N A.D o hk hr h.dq h1
  refine ⟨k2, fun i o' hi => ?_⟩
  unfold AW.stp at hi
  by_cases e : i = who
  · subst e
    rw [AW.fin_h] at hi
    split at hi
    · cases hi
    · rename_i he
      injection hi with hi
      subst hi
      rw [step_what]
      exact ⟨k1, eq_false_of_ne_true he, h3, h4⟩
  · rw [AW.fin_ne _ _ _ _ e] at hi
    obtain ⟨a, b⟩ := h.ok i o' hi
    exact ⟨a.mono (by omega), b⟩

end Go.Proofs.Ytlogmfpnjpamgaa
