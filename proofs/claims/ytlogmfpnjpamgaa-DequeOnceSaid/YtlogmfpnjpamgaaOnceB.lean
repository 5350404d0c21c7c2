/- Layer 9, plain: kind 1: what is kept. -/
import Derived.Test.YtlogmfpnjpamgaaOnceA
open Go Go.RowKit
namespace Go.Proofs.Ytlogmfpnjpamgaa

theorem AW.beg_some {A : AW} {who : Nat} {o : DOp} (h : A.h who = some o) (pop : Bool) : A.beg who pop = A := by
  obtain ⟨D, hh, pushed, full, handed⟩ := A
  simp only at h
  simp only [AW.beg, AW.op, AW.np, h]
  congr
  funext i
  by_cases e : i = who
  · subst e; simp [h]
  · simp [e]

theorem Inv1.beg {A : AW} (h : Inv1 A) (who : Nat) (pop : Bool) : Inv1 (A.beg who pop) := by
  cases hh : A.h who with
  | some o => rw [AW.beg_some hh]; exact h
  | none =>
    obtain ⟨h1, h2, h3, h4⟩ := h
    by_cases h0 : who = 0
    · subst h0
      have hi := h2 hh
      have hop : A.op 0 pop = if pop = true then DOp.new 1 0 else DOp.new 0 ((A.pushed + 1 : Nat) : Int) := by simp [AW.op, hh]
      have hbh := A.beg_h 0 pop
      have hbn : ∀ i, i ≠ 0 → (A.beg 0 pop).h i = A.h i := fun i hi => A.beg_ne 0 pop hi
      have hu : U1 A.D (some (A.op 0 pop)) = A.D 0 := by
        rw [hop]; cases pop <;> simp [U1, DOp.new]
      have hu0 : U1 A.D (A.h 0) = A.D 0 := by rw [hh]; rfl
      refine ⟨fun i o hi' ho => ?_, fun h => ?_, fun o ho => ?_, fun n => ?_⟩
      · rw [hbn i hi'] at ho
        rw [hbh]
        show Th1 A.D (U1 A.D (some (A.op 0 pop))) o
        rw [hu, ← hu0]
        exact h1 i o hi' ho
      · rw [hbh] at h; cases h
      · rw [hbh] at ho
        injection ho with ho
        subst ho
        show Own1 A.D (A.op 0 pop)
        rw [hop]
        cases pop <;> simp [Own1, DOp.new] <;> omega
      · have a := h4 n
        rw [hbh]
        show A.handed.count n + cnt A.D (A.D 1 % 65536).toNat n (U1 A.D (some (A.op 0 pop)) - A.D 1 % 65536).toNat + A.full.count n + (if ip (some (A.op 0 pop)) = some n then 1 else 0) = if 1 ≤ n ∧ n ≤ (A.np 0 pop : Nat) then 1 else 0
        rw [hu, ← hu0]
        rw [hh] at a
        rw [hh, hop]
        have e0 : ip (none : Option DOp) = none := rfl
        rw [e0] at a
        cases pop with
        | true =>
          have e1 : ip (some (DOp.new 1 0)) = none := rfl
          have e2 : A.np 0 true = A.pushed := by simp [AW.np, hh]
          rw [if_pos rfl, e1, e2]; exact a
        | false =>
          have e1 : ip (some (DOp.new 0 ((A.pushed + 1 : Nat) : Int))) = some ((A.pushed + 1 : Nat) : Int) := rfl
          have e2 : A.np 0 false = A.pushed + 1 := by simp [AW.np, hh]
          rw [if_neg (show ¬ (false = true) by simp), e1, e2]
          rw [if_neg (show ¬ ((none : Option Int) = some n) by simp)] at a
          by_cases hn : n = ((A.pushed + 1 : Nat) : Int)
          · rw [if_pos (by rw [hn]), if_pos (by omega)]
            rw [if_neg (by omega)] at a
            omega
          · rw [if_neg (by intro h; injection h with h; exact hn h.symm)]
            by_cases hn2 : 1 ≤ n ∧ n ≤ A.pushed
            · rw [if_pos hn2] at a
              rw [if_pos (by omega)]; exact a
            · rw [if_neg hn2] at a
              rw [if_neg (by omega)]; exact a
    · have hop : A.op who pop = DOp.new 2 0 := by simp [AW.op, hh, h0]
      have hnp : A.np who pop = A.pushed := by simp [AW.np, hh, h0]
      have hb0 : (A.beg who pop).h 0 = A.h 0 := A.beg_ne who pop (Ne.symm h0)
      refine ⟨fun i o hi' ho => ?_, fun h => ?_, fun o ho => ?_, fun n => ?_⟩
      · rw [hb0]
        show Th1 A.D (U1 A.D (A.h 0)) o
        by_cases e : i = who
        · subst e
          rw [A.beg_h, hop] at ho
          injection ho with ho
          subst ho
          simp [Th1, DOp.new]
        · rw [A.beg_ne who pop e] at ho
          exact h1 i o hi' ho
      · rw [hb0] at h; exact h2 h
      · rw [hb0] at ho; exact h3 o ho
      · have a := h4 n
        rw [hb0]
        show A.handed.count n + _ + A.full.count n + _ = if 1 ≤ n ∧ n ≤ (A.np who pop : Nat) then 1 else 0
        rw [hnp]
        exact a

/-- One step of the owner's. -/
theorem Inv1.own_step {A : AW} {o o' : DOp} {D' : Dq} (h : Inv1 A) (_ho : A.h 0 = some o)
    (k1 : A.D 1 ≤ D' 1) (k2 : D' 1 = A.D 1 → A.D 1 % 65536 < U1 A.D (A.h 0) → A.D 1 % 65536 < U1 D' (if o'.ended = true then none else some o') ∧ D' (2 + (A.D 1 % 65536).toNat) = A.D (2 + (A.D 1 % 65536).toNat))
    (hidle : o'.ended = true → D' 1 % 65536 ≤ D' 0) (hown : o'.ended = false → Own1 D' o') (hacc : Acc1 (A.fin 0 o' D')) : Inv1 (A.fin 0 o' D') := by
  refine ⟨fun i q hi hq => ?_, fun hq => ?_, fun q hq => ?_, hacc⟩
  · rw [AW.fin_ne _ _ _ _ hi] at hq
    rw [AW.fin_h]
    exact (h.th i q hi hq).keep k1 k2
  · rw [AW.fin_h] at hq
    split at hq
    · rename_i he; exact hidle he
    · cases hq
  · rw [AW.fin_h] at hq
    split at hq
    · cases hq
    · rename_i he
      injection hq with hq
      subst hq
      exact hown (eq_false_of_ne_true he)

/-- One step of a thief's. -/
theorem Inv1.thief_step {A : AW} {who : Nat} {o' : DOp} {D' : Dq} (hw : who ≠ 0) (h : Inv1 A)
    (k1 : A.D 1 ≤ D' 1) (k2 : D' 1 = A.D 1 → A.D 1 % 65536 < U1 A.D (A.h 0) → A.D 1 % 65536 < U1 D' (A.h 0) ∧ D' (2 + (A.D 1 % 65536).toNat) = A.D (2 + (A.D 1 % 65536).toNat))
    (hth : o'.ended = false → Th1 D' (U1 D' (A.h 0)) o') (hidle : A.h 0 = none → D' 1 % 65536 ≤ D' 0) (hown : ∀ o, A.h 0 = some o → Own1 D' o) (hacc : Acc1 (A.fin who o' D')) : Inv1 (A.fin who o' D') := by
  have h0 : (A.fin who o' D').h 0 = A.h 0 := AW.fin_ne _ _ _ _ (Ne.symm hw)
  refine ⟨fun i q hi hq => ?_, fun hq => ?_, fun q hq => ?_, hacc⟩
  · rw [h0]
    by_cases e : i = who
    · subst e
      rw [AW.fin_h] at hq
      split at hq
      · cases hq
      · rename_i he
        injection hq with hq
        subst hq
        exact hth (eq_false_of_ne_true he)
    · rw [AW.fin_ne _ _ _ _ e] at hq
      exact (h.th i q hi hq).keep k1 k2
  · rw [h0] at hq; exact hidle hq
  · rw [h0] at hq; exact hown q hq

