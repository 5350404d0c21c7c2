/- Layer 9, plain: kind 3: what is kept. -/
import Derived.Test.YtlogmfpnjpamgaaOnceE
import Derived.Test.YtlogmfpnjpamgaaDeqT
open Go Go.RowKit
namespace Go.Proofs.Ytlogmfpnjpamgaa
set_option linter.unusedVariables false

/-- Kind 3: from where on the words stay as they are. -/
def B3 (D : Dq) : Option DOp → Int
  | some o => if 1 ≤ o.next then o.t else D 1
  | none => D 1

def Own3 (room : Nat) (D : Dq) (o : DOp) : Prop :=
  o.what ≤ 1 ∧ (1 ≤ o.next → 0 ≤ o.t ∧ o.t ≤ D 1) ∧ (2 ≤ o.next → o.e = D 0) ∧ (o.what = 0 → 2 ≤ o.next → D 0 - o.t < room) ∧
  (o.what = 0 → 3 ≤ o.next → D (2 + (D 0).toNat % room) = o.x) ∧ (o.what = 1 → 2 ≤ o.next → o.t < D 0) ∧ (o.what = 1 → 3 ≤ o.next → o.x = D (2 + o.t.toNat % room))
def Th3 (room : Nat) (val : Nat → Int) (A : AW) (o : DOp) : Prop :=
  o.what = 2 ∧ (1 ≤ o.next → 0 ≤ o.t) ∧ (2 ≤ o.next → o.t < A.D 0) ∧ (3 ≤ o.next → St 2 A o.x ∧ (B3 A.D (A.h 0) ≤ o.t → o.x = val o.t.toNat))

structure Inv3 (room : Nat) (val : Nat → Int) (A : AW) : Prop where
  th : ∀ i o, i ≠ 0 → A.h i = some o → Th3 room val A o
  ow : ∀ o, A.h 0 = some o → Own3 room A.D o ∧ Push A o
  bd : 0 ≤ A.D 1 ∧ A.D 1 ≤ A.D 0 ∧ A.D 0 - B3 A.D (A.h 0) ≤ room
  vs : ∀ i : Nat, B3 A.D (A.h 0) ≤ (i : Int) → (i : Int) < A.D 0 → A.D (2 + i % room) = val i
  vh : ∀ i : Nat, (i : Int) < A.D 1 → val i ∈ A.handed
  nz : ∀ i : Nat, (i : Int) < A.D 0 → A.D (2 + i % room) ≠ 0
  st : ∀ i : Nat, A.D (2 + i) = 0 ∨ St 2 A (A.D (2 + i))
  hd : ∀ n, n ∈ A.handed → St 2 A n
  fl : A.full.Nodup ∧ ∀ n, n ∈ A.full → 1 ≤ n ∧ n ≤ A.pushed
  cov : ∀ n : Int, 1 ≤ n → n ≤ A.pushed → n ∈ A.handed ∨ n ∈ A.full ∨ ip (A.h 0) = some n ∨ ∃ i : Nat, (i : Int) < A.D 0 ∧ val i = n

theorem Inv3.beg {A : AW} {room : Nat} {val : Nat → Int} (h : Inv3 room val A) (who : Nat) (pop : Bool) : Inv3 room val (A.beg who pop) := by
  cases hh : A.h who with
  | some o => rw [AW.beg_some hh]; exact h
  | none =>
    obtain ⟨h1, h2, hbd, hvs, hvh, h3, h4, h5, h6, h7⟩ := h
    by_cases h0 : who = 0
    · subst h0
      have hop : A.op 0 pop = if pop = true then DOp.new 1 0 else DOp.new 0 ((A.pushed + 1 : Nat) : Int) := by simp [AW.op, hh]
      have hbh := A.beg_h 0 pop
      have hbn : ∀ i, i ≠ 0 → (A.beg 0 pop).h i = A.h i := fun i hi => A.beg_ne 0 pop hi
      have hc : B3 (A.beg 0 pop).D ((A.beg 0 pop).h 0) = B3 A.D (A.h 0) := by
        show B3 A.D ((A.beg 0 pop).h 0) = _
        rw [hbh, hh, hop]; cases pop <;> simp [B3, DOp.new]
      have hp : A.pushed ≤ (A.beg 0 pop).pushed ∧ (A.beg 0 pop).pushed ≤ A.pushed + 1 := by
        show A.pushed ≤ A.np 0 pop ∧ A.np 0 pop ≤ A.pushed + 1
        simp only [AW.np, hh]; split <;> omega
      have hst : ∀ n, St 2 A n → St 2 (A.beg 0 pop) n := by
        rintro n ⟨a, b, c, d⟩
        refine ⟨a, by have := hp.1; omega, c, ?_⟩
        rw [hbh, hop]
        cases pop with
        | true => simp [pre, DOp.new]
        | false => simp [pre, DOp.new]; omega
      refine ⟨fun i o hi ho => ?_, fun o ho => ?_, ?_, ?_, hvh, h3, fun i => (h4 i).imp id (hst _), fun n hn => hst n (h5 n hn), ⟨h6.1, fun n hn => ?_⟩, fun n n1 n2 => ?_⟩
      · rw [hbn i hi] at ho
        obtain ⟨a, b, c, e⟩ := h1 i o hi ho
        refine ⟨a, b, c, fun hn => ⟨hst _ (e hn).1, fun t1 => ?_⟩⟩
        rw [hc] at t1
        exact (e hn).2 t1
      · rw [hbh] at ho
        injection ho with ho
        subst ho
        rw [hop]
        cases pop with
        | true => exact ⟨⟨by simp [DOp.new], by simp [DOp.new], by simp [DOp.new], by simp [DOp.new], by simp [DOp.new], by simp [DOp.new], by simp [DOp.new]⟩, by simp [Push, DOp.new]⟩
        | false =>
          refine ⟨⟨by simp [DOp.new], by simp [DOp.new], by simp [DOp.new], by simp [DOp.new], by simp [DOp.new], by simp [DOp.new], by simp [DOp.new]⟩, fun _ => ?_⟩
          have e2 : (A.beg 0 false).pushed = A.pushed + 1 := by show A.np 0 false = _; simp [AW.np, hh]
          rw [e2]
          refine ⟨by simp [DOp.new]; omega, by simp [DOp.new], ?_⟩
          intro hf
          have := (h6.2 _ hf).2
          simp [DOp.new] at this
          omega
      · rw [hc]; exact hbd
      · rw [hc]; exact hvs
      · have := h6.2 n hn; have := hp.1; exact ⟨by omega, by omega⟩
      · by_cases hn : n ≤ A.pushed
        · rcases h7 n n1 hn with a | a | a | a
          · exact .inl a
          · exact .inr (.inl a)
          · rw [hh] at a; simp [ip] at a
          · exact .inr (.inr (.inr a))
        · refine .inr (.inr (.inl ?_))
          rw [hbh, hop]
          cases pop with
          | true =>
            have e2 : (A.beg 0 true).pushed = A.pushed := by show A.np 0 true = _; simp [AW.np, hh]
            rw [e2] at n2; omega
          | false =>
            have e2 : (A.beg 0 false).pushed = A.pushed + 1 := by show A.np 0 false = _; simp [AW.np, hh]
            rw [e2] at n2
            simp [ip, DOp.new]; omega
    · have hop : A.op who pop = DOp.new 2 0 := by simp [AW.op, hh, h0]
      have hnp : A.np who pop = A.pushed := by simp [AW.np, hh, h0]
      have hb0 : (A.beg who pop).h 0 = A.h 0 := A.beg_ne who pop (Ne.symm h0)
      have hst : ∀ n, St 2 A n → St 2 (A.beg who pop) n := by
        rintro n ⟨a, b, c, d⟩
        refine ⟨a, ?_, c, by rw [hb0]; exact d⟩
        show n ≤ (A.np who pop : Nat)
        rw [hnp]; exact b
      refine ⟨fun i o hi ho => ?_, fun o ho => ?_, by rw [hb0]; exact hbd, by rw [hb0]; exact hvs, hvh, h3, fun i => (h4 i).imp id (hst _), fun n hn => hst n (h5 n hn), ⟨h6.1, fun n hn => ?_⟩, fun n n1 n2 => ?_⟩
      · by_cases e : i = who
        · subst e
          rw [A.beg_h, hop] at ho
          injection ho with ho
          subst ho
          exact ⟨rfl, by simp [DOp.new], by simp [DOp.new], by simp [DOp.new]⟩
        · rw [A.beg_ne who pop e] at ho
          obtain ⟨a, b, c, d⟩ := h1 i o hi ho
          refine ⟨a, b, c, fun hn => ⟨hst _ (d hn).1, fun t1 => ?_⟩⟩
          rw [hb0] at t1
          exact (d hn).2 t1
      · rw [hb0] at ho
        refine ⟨(h2 o ho).1, ?_⟩
        have := (h2 o ho).2
        unfold Push at this ⊢
        show o.what = 0 → 1 ≤ o.x ∧ o.x ≤ (A.np who pop : Nat) ∧ _
        rw [hnp]; exact this
      · have := h6.2 n hn
        refine ⟨this.1, ?_⟩
        show n ≤ (A.np who pop : Nat)
        rw [hnp]; exact this.2
      · have n2 : n ≤ (A.np who pop : Nat) := n2
        rw [hnp] at n2
        rw [hb0]
        exact h7 n n1 n2

/-- One step of the owner's; val' is what was pushed, as it is told behind it. -/
theorem Inv3.own_step {A : AW} {room : Nat} {val val' : Nat → Int} {o o' : DOp} {D' : Dq} (h : Inv3 room val A) (ho : A.h 0 = some o)
    (k1 : A.D 0 ≤ D' 0) (k2 : B3 A.D (A.h 0) ≤ B3 D' (if o'.ended = true then none else some o')) (k3 : ∀ i : Nat, (i : Int) < A.D 0 → val' i = val i)
    (k5 : ∀ n, St 2 A n → St 2 (A.fin 0 o' D') n) (hown : o'.ended = false → Own3 room D' o' ∧ Push (A.fin 0 o' D') o')
    (hbd : 0 ≤ D' 1 ∧ D' 1 ≤ D' 0 ∧ D' 0 - B3 D' (if o'.ended = true then none else some o') ≤ room)
    (hvs : ∀ i : Nat, B3 D' (if o'.ended = true then none else some o') ≤ (i : Int) → (i : Int) < D' 0 → D' (2 + i % room) = val' i)
    (hvh : ∀ i : Nat, (i : Int) < D' 1 → val' i ∈ (A.fin 0 o' D').handed)
    (hnz : ∀ i : Nat, (i : Int) < D' 0 → D' (2 + i % room) ≠ 0) (hst : ∀ i : Nat, D' (2 + i) = 0 ∨ St 2 (A.fin 0 o' D') (D' (2 + i)))
    (hhd : ∀ n, n ∈ (A.fin 0 o' D').handed → St 2 (A.fin 0 o' D') n) (hfl : (A.fin 0 o' D').full.Nodup ∧ ∀ n, n ∈ (A.fin 0 o' D').full → 1 ≤ n ∧ n ≤ A.pushed)
    (hcov : ∀ n : Int, 1 ≤ n → n ≤ A.pushed → n ∈ (A.fin 0 o' D').handed ∨ n ∈ (A.fin 0 o' D').full ∨ ip (if o'.ended = true then none else some o') = some n ∨ ∃ i : Nat, (i : Int) < D' 0 ∧ val' i = n) :
    Inv3 room val' (A.fin 0 o' D') := by
  have e0 : (A.fin 0 o' D').h 0 = if o'.ended = true then none else some o' := AW.fin_h _ _ _ _
  refine ⟨fun i q hi hq => ?_, fun q hq => ?_, by rw [e0]; exact hbd, by rw [e0]; exact hvs, hvh, hnz, hst, hhd, hfl, by rw [e0]; exact hcov⟩
  · rw [AW.fin_ne _ _ _ _ hi] at hq
    obtain ⟨a, b, c, d⟩ := h.th i q hi hq
    refine ⟨a, b, fun hn => Int.lt_of_lt_of_le (c hn) k1, fun hn => ⟨k5 _ (d hn).1, fun t1 => ?_⟩⟩
    rw [e0] at t1
    have t1 : B3 D' (if o'.ended = true then none else some o') ≤ q.t := t1
    have c1 := c (by omega)
    have b1 := b (by omega)
    rw [k3 _ (by omega)]
    exact (d hn).2 (Int.le_trans k2 t1)
  · rw [e0] at hq
    split at hq
    · cases hq
    · rename_i he
      injection hq with hq
      subst hq
      exact hown (eq_false_of_ne_true he)

theorem Inv3.thief_step {A : AW} {room who : Nat} {val : Nat → Int} {o' : DOp} {D' : Dq} (hw : who ≠ 0) (h : Inv3 room val A)
    (k0 : D' 0 = A.D 0) (k1 : A.D 1 ≤ D' 1) (k2 : D' 1 ≤ A.D 0) (k3 : ∀ i : Nat, D' (2 + i) = A.D (2 + i))
    (hf : (A.fin who o' D').full = A.full) (hth : o'.ended = false → Th3 room val A o' ∧ D' = A.D)
    (hhd : ∀ n, n ∈ (A.fin who o' D').handed → n ∈ A.handed ∨ St 2 A n) (hsub : ∀ n, n ∈ A.handed → n ∈ (A.fin who o' D').handed)
    (hcov : ∀ i : Nat, A.D 1 ≤ (i : Int) → (i : Int) < D' 1 → val i ∈ (A.fin who o' D').handed) : Inv3 room val (A.fin who o' D') := by
  have h0 : (A.fin who o' D').h 0 = A.h 0 := AW.fin_ne _ _ _ _ (Ne.symm hw)
  have hst : ∀ n, St 2 A n → St 2 (A.fin who o' D') n := by
    rintro n ⟨a, b, c, d⟩
    exact ⟨a, b, by rw [hf]; exact c, by rw [h0]; exact d⟩
  have hB : B3 A.D (A.h 0) ≤ B3 D' (A.h 0) := by
    unfold B3
    split
    · split <;> omega
    · exact k1
  refine ⟨fun i q hi hq => ?_, fun q hq => ?_, ?_, fun i i1 i2 => ?_, fun i hi => ?_, fun i hi => ?_, fun i => ?_, fun n hn => ?_, ?_, fun n n1 n2 => ?_⟩
  · have hq2 : Th3 room val A q := by
      by_cases e : i = who
      · subst e
        rw [AW.fin_h] at hq
        split at hq
        · cases hq
        · rename_i he
          injection hq with hq
          subst hq
          exact (hth (eq_false_of_ne_true he)).1
      · rw [AW.fin_ne _ _ _ _ e] at hq
        exact h.th i q hi hq
    obtain ⟨a, b, c, d⟩ := hq2
    refine ⟨a, b, fun hn => ?_, fun hn => ⟨hst _ (d hn).1, fun t1 => ?_⟩⟩
    · show q.t < D' 0
      rw [k0]; exact c hn
    · rw [h0] at t1
      have t1 : B3 D' (A.h 0) ≤ q.t := t1
      exact (d hn).2 (Int.le_trans hB t1)
  · rw [h0] at hq
    obtain ⟨⟨a1, a2, a3, a4, a5, a6, a7⟩, p⟩ := h.ow q hq
    have e0 : (A.fin who o' D').D = D' := rfl
    refine ⟨⟨a1, fun hn => ?_, fun x1 => ?_, fun x1 x2 => ?_, fun x1 x2 => ?_, fun x1 x2 => ?_, fun x1 x2 => ?_⟩, fun x1 => ?_⟩
    · rw [e0]; have := a2 hn; omega
    · rw [e0, k0]; exact a3 x1
    · rw [e0, k0]; exact a4 x1 x2
    · rw [e0, k0, k3]; exact a5 x1 x2
    · rw [e0, k0]; exact a6 x1 x2
    · rw [e0, k3]; exact a7 x1 x2
    · rw [hf]; exact p x1
  · rw [h0]
    have := h.bd
    show 0 ≤ D' 1 ∧ D' 1 ≤ D' 0 ∧ D' 0 - B3 D' (A.h 0) ≤ room
    omega
  · rw [h0] at i1
    have i1 : B3 D' (A.h 0) ≤ (i : Int) := i1
    have i2 : (i : Int) < D' 0 := i2
    show D' _ = _
    rw [k3]; exact h.vs i (by omega) (by omega)
  · by_cases hl : (i : Int) < A.D 1
    · exact hsub _ (h.vh i hl)
    · exact hcov i (by omega) hi
  · have hi : (i : Int) < D' 0 := hi
    show D' _ ≠ 0
    rw [k3]; exact h.nz i (by omega)
  · show D' _ = 0 ∨ St 2 _ (D' _)
    rw [k3]; exact (h.st i).imp id (hst _)
  · rcases hhd n hn with a | a
    · exact hst _ (h.hd n a)
    · exact hst _ a
  · rw [hf]; exact h.fl
  · rw [h0, hf]
    rcases h.cov n n1 n2 with a | a | a | ⟨i, i1, i2⟩
    · exact .inl (hsub n a)
    · exact .inr (.inl a)
    · exact .inr (.inr (.inl a))
    · exact .inr (.inr (.inr ⟨i, by show (i : Int) < D' 0; omega, i2⟩))

end Go.Proofs.Ytlogmfpnjpamgaa
