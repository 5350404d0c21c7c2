/- Layer 9, plain: kind 2: what is kept. -/
import Derived.Test.YtlogmfpnjpamgaaOnceC
open Go Go.RowKit
namespace Go.Proofs.Ytlogmfpnjpamgaa
set_option linter.unusedVariables false

/-- What is being pushed and has not been stored; m: how many moves are ahead of the store. -/
def pre (m : Nat) : Option DOp → Option Int
  | some o => if o.what = 0 ∧ o.next ≤ m then some o.x else none
  | none => none
/-- A number that was stored. -/
def St (m : Nat) (A : AW) (n : Int) : Prop := 1 ≤ n ∧ n ≤ A.pushed ∧ n ∉ A.full ∧ pre m (A.h 0) ≠ some n

/-- Kind 2: up to where the words may become there again. -/
def cap2 (D : Dq) : Option DOp → Int
  | some o => if 1 ≤ o.next then o.t % 65536 else D 1 % 65536
  | none => D 1 % 65536

def Push (A : AW) (o : DOp) : Prop := o.what = 0 → 1 ≤ o.x ∧ o.x ≤ A.pushed ∧ o.x ∉ A.full
def Own2 (D : Dq) (o : DOp) : Prop :=
  o.what ≤ 1 ∧ (1 ≤ o.next → o.t / 65536 = D 1 / 65536 ∧ D 1 % 65536 ≤ o.t % 65536) ∧ (o.what = 0 → 2 ≤ o.next → D (2 + (o.t % 65536).toNat) = o.x) ∧ (o.what = 1 → 2 ≤ o.next → o.x = D (2 + (o.t % 65536 - 1).toNat))
def Th2 (A : AW) (o : DOp) : Prop :=
  o.what = 2 ∧ (1 ≤ o.next → o.t / 65536 ≤ A.D 1 / 65536 ∧ 1 ≤ o.t % 65536 ∧ A.D (2 + (o.t % 65536 - 1).toNat) ≠ 0) ∧
  (2 ≤ o.next → St 1 A o.x ∧ (o.t / 65536 = A.D 1 / 65536 → o.t % 65536 ≤ cap2 A.D (A.h 0) → o.x = A.D (2 + (o.t % 65536 - 1).toNat)))

structure Inv2 (A : AW) : Prop where
  th : ∀ i o, i ≠ 0 → A.h i = some o → Th2 A o
  ow : ∀ o, A.h 0 = some o → Own2 A.D o ∧ Push A o
  nz : ∀ i : Nat, (i : Int) < cap2 A.D (A.h 0) → A.D (2 + i) ≠ 0
  st : ∀ i : Nat, A.D (2 + i) = 0 ∨ St 1 A (A.D (2 + i))
  hd : ∀ n, n ∈ A.handed → St 1 A n
  fl : A.full.Nodup ∧ ∀ n, n ∈ A.full → 1 ≤ n ∧ n ≤ A.pushed
  cov : ∀ n : Int, 1 ≤ n → n ≤ A.pushed → n ∈ A.handed ∨ n ∈ A.full ∨ ip (A.h 0) = some n ∨ ∃ i : Nat, (i : Int) < A.D 1 % 65536 ∧ A.D (2 + i) = n

theorem Inv2.beg {A : AW} (h : Inv2 A) (who : Nat) (pop : Bool) : Inv2 (A.beg who pop) := by
  cases hh : A.h who with
  | some o => rw [AW.beg_some hh]; exact h
  | none =>
    obtain ⟨h1, h2, h3, h4, h5, h6, h7⟩ := h
    by_cases h0 : who = 0
    · subst h0
      have hop : A.op 0 pop = if pop = true then DOp.new 1 0 else DOp.new 0 ((A.pushed + 1 : Nat) : Int) := by simp [AW.op, hh]
      have hbh := A.beg_h 0 pop
      have hbn : ∀ i, i ≠ 0 → (A.beg 0 pop).h i = A.h i := fun i hi => A.beg_ne 0 pop hi
      have hc : cap2 (A.beg 0 pop).D ((A.beg 0 pop).h 0) = cap2 A.D (A.h 0) := by
        show cap2 A.D ((A.beg 0 pop).h 0) = _
        rw [hbh, hh, hop]; cases pop <;> simp [cap2, DOp.new]
      have hp : A.pushed ≤ (A.beg 0 pop).pushed ∧ (A.beg 0 pop).pushed ≤ A.pushed + 1 := by
        show A.pushed ≤ A.np 0 pop ∧ A.np 0 pop ≤ A.pushed + 1
        simp only [AW.np, hh]; split <;> omega
      have hst : ∀ n, St 1 A n → St 1 (A.beg 0 pop) n := by
        rintro n ⟨a, b, c, d⟩
        refine ⟨a, by have := hp.1; omega, c, ?_⟩
        rw [hbh, hop]
        cases pop with
        | true => simp [pre, DOp.new]
        | false => simp [pre, DOp.new]; omega
      refine ⟨fun i o hi ho => ?_, fun o ho => ?_, fun i hi => ?_, fun i => ?_, fun n hn => hst n (h5 n hn), ⟨h6.1, fun n hn => ?_⟩, fun n n1 n2 => ?_⟩
      · rw [hbn i hi] at ho
        obtain ⟨a, b, c⟩ := h1 i o hi ho
        refine ⟨a, b, fun hn => ⟨hst _ (c hn).1, fun t1 t2 => ?_⟩⟩
        rw [hc] at t2
        exact (c hn).2 t1 t2
      · rw [hbh] at ho
        injection ho with ho
        subst ho
        rw [hop]
        cases pop with
        | true => exact ⟨⟨by simp [DOp.new], by simp [DOp.new], by simp [DOp.new], by simp [DOp.new]⟩, by simp [Push, DOp.new]⟩
        | false =>
          refine ⟨⟨by simp [DOp.new], by simp [DOp.new], by simp [DOp.new], by simp [DOp.new]⟩, fun _ => ?_⟩
          have e2 : (A.beg 0 false).pushed = A.pushed + 1 := by show A.np 0 false = _; simp [AW.np, hh]
          rw [e2]
          refine ⟨by simp [DOp.new]; omega, by simp [DOp.new], ?_⟩
          intro hf
          have := (h6.2 _ hf).2
          simp [DOp.new] at this
          omega
      · rw [hc] at hi; exact h3 i hi
      · exact (h4 i).imp id (hst _)
      · have := h6.2 n hn; have := hp.1; exact ⟨by omega, by omega⟩
      · by_cases hn : n ≤ A.pushed
        · rcases h7 n n1 hn with a | a | a | a
          · exact .inl a
          · exact .inr (.inl a)
          · rw [hh] at a; simp [ip] at a
          · exact .inr (.inr (.inr a))
        · refine .inr (.inr (.inl ?_))
          rw [hbh, hop]
          cases pop with
          | true =>
            have e2 : (A.beg 0 true).pushed = A.pushed := by show A.np 0 true = _; simp [AW.np, hh]
            rw [e2] at n2; omega
          | false =>
            have e2 : (A.beg 0 false).pushed = A.pushed + 1 := by show A.np 0 false = _; simp [AW.np, hh]
            rw [e2] at n2
            simp [ip, DOp.new]; omega
    · have hop : A.op who pop = DOp.new 2 0 := by simp [AW.op, hh, h0]
      have hnp : A.np who pop = A.pushed := by simp [AW.np, hh, h0]
      have hb0 : (A.beg who pop).h 0 = A.h 0 := A.beg_ne who pop (Ne.symm h0)
      have hst : ∀ n, St 1 A n → St 1 (A.beg who pop) n := by
        rintro n ⟨a, b, c, d⟩
        refine ⟨a, ?_, c, by rw [hb0]; exact d⟩
        show n ≤ (A.np who pop : Nat)
        rw [hnp]; exact b
      refine ⟨fun i o hi ho => ?_, fun o ho => ?_, fun i hi => ?_, fun i => (h4 i).imp id (hst _), fun n hn => hst n (h5 n hn), ⟨h6.1, fun n hn => ?_⟩, fun n n1 n2 => ?_⟩
      · by_cases e : i = who
        · subst e
          rw [A.beg_h, hop] at ho
          injection ho with ho
          subst ho
          exact ⟨rfl, by simp [DOp.new], by simp [DOp.new]⟩
        · rw [A.beg_ne who pop e] at ho
          obtain ⟨a, b, c⟩ := h1 i o hi ho
          refine ⟨a, b, fun hn => ⟨hst _ (c hn).1, fun t1 t2 => ?_⟩⟩
          rw [hb0] at t2
          exact (c hn).2 t1 t2
      · rw [hb0] at ho
        refine ⟨(h2 o ho).1, ?_⟩
        have := (h2 o ho).2
        unfold Push at this ⊢
        show o.what = 0 → 1 ≤ o.x ∧ o.x ≤ (A.np who pop : Nat) ∧ _
        rw [hnp]; exact this
      · rw [hb0] at hi; exact h3 i hi
      · have := h6.2 n hn
        refine ⟨this.1, ?_⟩
        show n ≤ (A.np who pop : Nat)
        rw [hnp]; exact this.2
      · have n2 : n ≤ (A.np who pop : Nat) := n2
        rw [hnp] at n2
        rw [hb0]
        exact h7 n n1 n2

end Go.Proofs.Ytlogmfpnjpamgaa
