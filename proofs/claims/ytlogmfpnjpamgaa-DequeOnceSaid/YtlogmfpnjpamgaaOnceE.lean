/- Layer 9, plain: kind 2, move by move. -/
import Derived.Test.YtlogmfpnjpamgaaOnceD
open Go Go.RowKit
namespace Go.Proofs.Ytlogmfpnjpamgaa
set_option linter.unusedVariables false

theorem Inv2.own_step {A : AW} {o o' : DOp} {D' : Dq} (h : Inv2 A) (ho : A.h 0 = some o)
    (k1 : A.D 1 / 65536 ≤ D' 1 / 65536) (k2 : D' 1 / 65536 = A.D 1 / 65536 → cap2 D' (if o'.ended = true then none else some o') ≤ cap2 A.D (A.h 0))
    (k3 : ∀ i : Nat, A.D (2 + i) ≠ 0 → D' (2 + i) ≠ 0) (k4 : ∀ i : Nat, (i : Int) < cap2 D' (if o'.ended = true then none else some o') → D' 1 / 65536 = A.D 1 / 65536 → D' (2 + i) = A.D (2 + i))
    (k5 : ∀ n, St 1 A n → St 1 (A.fin 0 o' D') n) (hown : o'.ended = false → Own2 D' o' ∧ Push (A.fin 0 o' D') o')
    (hnz : ∀ i : Nat, (i : Int) < cap2 D' (if o'.ended = true then none else some o') → D' (2 + i) ≠ 0) (hst : ∀ i : Nat, D' (2 + i) = 0 ∨ St 1 (A.fin 0 o' D') (D' (2 + i)))
    (hhd : ∀ n, n ∈ (A.fin 0 o' D').handed → St 1 (A.fin 0 o' D') n) (hfl : (A.fin 0 o' D').full.Nodup ∧ ∀ n, n ∈ (A.fin 0 o' D').full → 1 ≤ n ∧ n ≤ A.pushed)
    (hcov : ∀ n : Int, 1 ≤ n → n ≤ A.pushed → n ∈ (A.fin 0 o' D').handed ∨ n ∈ (A.fin 0 o' D').full ∨ ip (if o'.ended = true then none else some o') = some n ∨ ∃ i : Nat, (i : Int) < D' 1 % 65536 ∧ D' (2 + i) = n) :
    Inv2 (A.fin 0 o' D') := by
  have e0 : (A.fin 0 o' D').h 0 = if o'.ended = true then none else some o' := AW.fin_h _ _ _ _
  refine ⟨fun i q hi hq => ?_, fun q hq => ?_, ?_, hst, hhd, hfl, ?_⟩
  · rw [AW.fin_ne _ _ _ _ hi] at hq
    obtain ⟨a, b, c⟩ := h.th i q hi hq
    refine ⟨a, fun hn => ?_, fun hn => ⟨k5 _ (c hn).1, fun t1 t2 => ?_⟩⟩
    · obtain ⟨b1, b2, b3⟩ := b hn
      exact ⟨Int.le_trans b1 k1, b2, k3 _ b3⟩
    · obtain ⟨b1, b2, b3⟩ := b (by omega)
      have t1 : q.t / 65536 = D' 1 / 65536 := t1
      rw [e0] at t2
      have t2 : q.t % 65536 ≤ cap2 D' (if o'.ended = true then none else some o') := t2
      have te : D' 1 / 65536 = A.D 1 / 65536 := by omega
      show q.x = D' _
      rw [k4 _ (by omega) te]
      exact (c hn).2 (by omega) (Int.le_trans t2 (k2 te))
  · rw [e0] at hq
    split at hq
    · cases hq
    · rename_i he
      injection hq with hq
      subst hq
      exact hown (eq_false_of_ne_true he)
  · rw [e0]; exact hnz
  · rw [e0]; exact hcov

theorem Inv2.thief_step {A : AW} {who : Nat} {o' : DOp} {D' : Dq} (hw : who ≠ 0) (h : Inv2 A)
    (k1 : D' 1 / 65536 = A.D 1 / 65536) (k2 : D' 1 % 65536 ≤ A.D 1 % 65536) (k3 : ∀ i : Nat, D' (2 + i) = A.D (2 + i))
    (hf : (A.fin who o' D').full = A.full) (hth : o'.ended = false → Th2 A o' ∧ D' = A.D)
    (hhd : ∀ n, n ∈ (A.fin who o' D').handed → n ∈ A.handed ∨ St 1 A n) (hsub : ∀ n, n ∈ A.handed → n ∈ (A.fin who o' D').handed)
    (hcov : ∀ i : Nat, D' 1 % 65536 ≤ (i : Int) → (i : Int) < A.D 1 % 65536 → A.D (2 + i) ∈ (A.fin who o' D').handed) : Inv2 (A.fin who o' D') := by
  have h0 : (A.fin who o' D').h 0 = A.h 0 := AW.fin_ne _ _ _ _ (Ne.symm hw)
  have hst : ∀ n, St 1 A n → St 1 (A.fin who o' D') n := by
    rintro n ⟨a, b, c, d⟩
    exact ⟨a, b, by rw [hf]; exact c, by rw [h0]; exact d⟩
  have hcap : cap2 D' (A.h 0) ≤ cap2 A.D (A.h 0) := by
    unfold cap2
    split
    · split <;> omega
    · exact k2
  refine ⟨fun i q hi hq => ?_, fun q hq => ?_, fun i hi => ?_, fun i => ?_, fun n hn => ?_, ?_, fun n n1 n2 => ?_⟩
  · have hq2 : Th2 A q := by
      by_cases e : i = who
      · subst e
        rw [AW.fin_h] at hq
        split at hq
        · cases hq
        · rename_i he
          injection hq with hq
          subst hq
          exact (hth (eq_false_of_ne_true he)).1
      · rw [AW.fin_ne _ _ _ _ e] at hq
        exact h.th i q hi hq
    obtain ⟨a, b, c⟩ := hq2
    refine ⟨a, fun hn => ?_, fun hn => ⟨hst _ (c hn).1, fun t1 t2 => ?_⟩⟩
    · show q.t / 65536 ≤ D' 1 / 65536 ∧ _ ∧ D' _ ≠ 0
      rw [k1, k3]; exact b hn
    · have t1 : q.t / 65536 = D' 1 / 65536 := t1
      rw [h0] at t2
      have t2 : q.t % 65536 ≤ cap2 D' (A.h 0) := t2
      show q.x = D' _
      rw [k3]
      exact (c hn).2 (by omega) (Int.le_trans t2 hcap)
  · rw [h0] at hq
    obtain ⟨⟨a1, a2, a3, a4⟩, p⟩ := h.ow q hq
    refine ⟨⟨a1, fun hn => ?_, fun x1 x2 => ?_, fun x1 x2 => ?_⟩, fun x1 => ?_⟩
    · show q.t / 65536 = D' 1 / 65536 ∧ D' 1 % 65536 ≤ _
      have := a2 hn; omega
    · show D' _ = _
      rw [k3]; exact a3 x1 x2
    · show q.x = D' _
      rw [k3]; exact a4 x1 x2
    · rw [hf]; exact p x1
  · rw [h0] at hi
    have hi : (i : Int) < cap2 D' (A.h 0) := hi
    show D' _ ≠ 0
    rw [k3]; exact h.nz i (by omega)
  · show D' _ = 0 ∨ St 1 _ (D' _)
    rw [k3]; exact (h.st i).imp id (hst _)
  · rcases hhd n hn with a | a
    · exact hst _ (h.hd n a)
    · exact hst _ a
  · rw [hf]; exact h.fl
  · rw [h0, hf]
    rcases h.cov n n1 n2 with a | a | a | ⟨i, i1, i2⟩
    · exact .inl (hsub n a)
    · exact .inr (.inl a)
    · exact .inr (.inr (.inl a))
    · by_cases hi : (i : Int) < D' 1 % 65536
      · exact .inr (.inr (.inr ⟨i, hi, by show D' _ = n; rw [k3]; exact i2⟩))
      · exact .inl (i2 ▸ hcov i (by omega) i1)

section
variable {A : AW} {room N who : Nat} {x e t : Int}

theorem dq2 (hA : All 2 room N A) : 0 ≤ A.D 1 ∧ A.D 1 / 65536 ≤ N ∧ A.D 1 % 65536 ≤ room := by
  have := hA.dq; simpa [DqOk, TOk] using this

theorem k2_0_0 (hr : room ≤ 1000) (h : Inv2 A) (hA : All 2 room N A) (ho : A.h 0 = some ⟨0, 0, x, e, t, false, 0, 0⟩) : Inv2 (A.stp 2 room 0 ⟨0, 0, x, e, t, false, 0, 0⟩) := by
  have hdq := dq2 hA
  obtain ⟨hw, hp⟩ := h.ow _ ho
  have hp := hp rfl
  have hcap : cap2 A.D (A.h 0) = A.D 1 % 65536 := by rw [ho]; rfl
  have hpre : pre 1 (A.h 0) = some x := by rw [ho]; rfl
  unfold AW.stp
  by_cases hE : A.D 1 % 65536 = room
  · rw [show DOp.step 2 room A.D ⟨0, 0, x, e, t, false, 0, 0⟩ = (⟨0, 1, x, e, A.D 1, true, 0, 8⟩, A.D) by simp [DOp.step, DOp.step2, hE]]
    show Inv2 (A.fin 0 ⟨0, 1, x, e, A.D 1, true, 0, 8⟩ A.D)
    have hf : (A.fin 0 ⟨0, 1, x, e, A.D 1, true, 0, 8⟩ A.D).full = A.full ++ [x] := by simp [AW.fin]
    have hh : (A.fin 0 ⟨0, 1, x, e, A.D 1, true, 0, 8⟩ A.D).handed = A.handed := by simp [AW.fin]
    have hst : ∀ n, St 1 A n → St 1 (A.fin 0 ⟨0, 1, x, e, A.D 1, true, 0, 8⟩ A.D) n := by
      rintro n ⟨a, b, c, d⟩
      rw [hpre] at d
      refine ⟨a, b, ?_, by rw [AW.fin_h]; simp [pre]⟩
      rw [hf]; simp; exact ⟨c, fun e => d (by rw [e])⟩
    refine Inv2.own_step h ho (Int.le_refl _) (fun _ => by rw [hcap]; exact Int.le_refl _) (fun i h => h) (fun i _ _ => rfl) hst (fun h => by cases h) (fun i hi => h.nz i (by rw [hcap]; exact hi)) (fun i => (h.st i).imp id (hst _)) (fun n hn => hst n (h.hd n (hh ▸ hn))) ⟨?_, fun n hn => ?_⟩ (fun n n1 n2 => ?_)
    · rw [hf]; refine List.nodup_append.2 ⟨h.fl.1, by simp, ?_⟩
      intro a ha b hb; simp at hb; subst hb; intro e; subst e; exact hp.2.2 ha
    · rw [hf] at hn; simp at hn
      rcases hn with hn | hn
      · exact h.fl.2 n hn
      · subst hn; exact ⟨hp.1, hp.2.1⟩
    · rw [hh, hf]
      rcases h.cov n n1 n2 with a | a | a | a
      · exact .inl a
      · exact .inr (.inl (by simp [a]))
      · rw [ho] at a; simp [ip] at a; exact .inr (.inl (by simp [a]))
      · exact .inr (.inr (.inr a))
  · rw [show DOp.step 2 room A.D ⟨0, 0, x, e, t, false, 0, 0⟩ = (⟨0, 1, x, e, A.D 1, false, 0, 0⟩, A.D) by simp [DOp.step, DOp.step2, hE]]
    show Inv2 (A.fin 0 ⟨0, 1, x, e, A.D 1, false, 0, 0⟩ A.D)
    have hf : (A.fin 0 ⟨0, 1, x, e, A.D 1, false, 0, 0⟩ A.D).full = A.full := by simp [AW.fin]
    have hh : (A.fin 0 ⟨0, 1, x, e, A.D 1, false, 0, 0⟩ A.D).handed = A.handed := by simp [AW.fin]
    have hst : ∀ n, St 1 A n → St 1 (A.fin 0 ⟨0, 1, x, e, A.D 1, false, 0, 0⟩ A.D) n := by
      rintro n ⟨a, b, c, d⟩
      rw [hpre] at d
      exact ⟨a, b, by rw [hf]; exact c, by rw [AW.fin_h]; simpa [pre] using d⟩
    refine Inv2.own_step h ho (Int.le_refl _) (fun _ => by rw [hcap]; exact Int.le_refl _) (fun i h => h) (fun i _ _ => rfl) hst (fun _ => ⟨⟨by simp, by simp, by simp, by simp⟩, fun _ => by rw [hf]; exact hp⟩) (fun i hi => h.nz i (by rw [hcap]; exact hi)) (fun i => (h.st i).imp id (hst _)) (fun n hn => hst n (h.hd n (hh ▸ hn))) (by rw [hf]; exact h.fl) (fun n n1 n2 => ?_)
    rw [hh, hf]
    have := h.cov n n1 n2
    rw [ho] at this
    exact this

theorem k2_0_1 (hr : room ≤ 1000) (h : Inv2 A) (hA : All 2 room N A) (ho : A.h 0 = some ⟨0, 1, x, e, t, false, 0, 0⟩) : Inv2 (A.stp 2 room 0 ⟨0, 1, x, e, t, false, 0, 0⟩) := by
  have hdq := dq2 hA
  obtain ⟨hw, hp⟩ := h.ow _ ho
  have hp := hp rfl
  have hw2 := hw.2.1 (by simp)
  simp only at hw2 hp
  have ht := (hA.ok _ _ ho).1.pc rfl
  simp [Ok2, TOk] at ht
  have hcap : cap2 A.D (A.h 0) = t % 65536 := by rw [ho]; rfl
  have hpre : pre 1 (A.h 0) = some x := by rw [ho]; rfl
  unfold AW.stp
  obtain ⟨D', hD⟩ : ∃ D', D' = A.D.put (2 + (t % 65536).toNat) x := ⟨_, rfl⟩
  have p1 : D' 1 = A.D 1 := by rw [hD]; exact Dq.put_ne _ _ _ (by omega)
  have ps : ∀ i, i ≠ (t % 65536).toNat → D' (2 + i) = A.D (2 + i) := fun i hi => by rw [hD]; exact Dq.put_ne _ _ _ (by omega)
  have pss : D' (2 + (t % 65536).toNat) = x := by rw [hD]; exact Dq.put_self _ _ _
  rw [show DOp.step 2 room A.D ⟨0, 1, x, e, t, false, 0, 0⟩ = (⟨0, 2, x, e, t, false, 0, 0⟩, D') by rw [hD]; simp [DOp.step, DOp.step2]]
  show Inv2 (A.fin 0 ⟨0, 2, x, e, t, false, 0, 0⟩ D')
  have hf : (A.fin 0 ⟨0, 2, x, e, t, false, 0, 0⟩ D').full = A.full := by simp [AW.fin]
  have hh : (A.fin 0 ⟨0, 2, x, e, t, false, 0, 0⟩ D').handed = A.handed := by simp [AW.fin]
  have hst : ∀ n, St 1 A n → St 1 (A.fin 0 ⟨0, 2, x, e, t, false, 0, 0⟩ D') n := by
    rintro n ⟨a, b, c, d⟩
    exact ⟨a, b, by rw [hf]; exact c, by rw [AW.fin_h]; simp [pre]⟩
  have hx : St 1 (A.fin 0 ⟨0, 2, x, e, t, false, 0, 0⟩ D') x := ⟨hp.1, hp.2.1, by rw [hf]; exact hp.2.2, by rw [AW.fin_h]; simp [pre]⟩
  have hnz : ∀ i : Nat, A.D (2 + i) ≠ 0 → D' (2 + i) ≠ 0 := by
    intro i hi
    by_cases ei : i = (t % 65536).toNat
    · rw [ei, pss]; omega
    · rw [ps i ei]; exact hi
  refine Inv2.own_step h ho (by rw [p1]; omega) (fun _ => by rw [hcap]; exact Int.le_refl _) hnz (fun i hi _ => ps i (by simp [cap2] at hi; omega)) hst (fun _ => ⟨⟨by simp, fun _ => by rw [p1]; exact hw2, fun _ _ => pss, by simp⟩, fun _ => by rw [hf]; exact hp⟩) (fun i hi => hnz i (h.nz i (by rw [hcap]; exact hi))) (fun i => ?_) (fun n hn => hst n (h.hd n (hh ▸ hn))) (by rw [hf]; exact h.fl) (fun n n1 n2 => ?_)
  · by_cases ei : i = (t % 65536).toNat
    · rw [ei, pss]; exact .inr hx
    · rw [ps i ei]; exact (h.st i).imp id (hst _)
  · rw [hh, hf, p1]
    rcases h.cov n n1 n2 with a | a | a | ⟨i, i1, i2⟩
    · exact .inl a
    · exact .inr (.inl a)
    · rw [ho] at a; exact .inr (.inr (.inl a))
    · exact .inr (.inr (.inr ⟨i, i1, by rw [ps i (by omega)]; exact i2⟩))

theorem k2_0_2 (hr : room ≤ 1000) (h : Inv2 A) (hA : All 2 room N A) (ho : A.h 0 = some ⟨0, 2, x, e, t, false, 0, 0⟩) : Inv2 (A.stp 2 room 0 ⟨0, 2, x, e, t, false, 0, 0⟩) := by
  have hdq := dq2 hA
  obtain ⟨hw, hp⟩ := h.ow _ ho
  have hp := hp rfl
  have hw2 := hw.2.1 (by simp)
  have hw3 := hw.2.2.1 rfl (by simp)
  simp only at hw2 hw3 hp
  have ht := (hA.ok _ _ ho).1.pc rfl
  simp [Ok2, TOk] at ht
  have hcap : cap2 A.D (A.h 0) = t % 65536 := by rw [ho]; rfl
  unfold AW.stp
  obtain ⟨D', hD⟩ : ∃ D', D' = A.D.put 1 (t + 65536 + 1) := ⟨_, rfl⟩
  have p1 : D' 1 = t + 65536 + 1 := by rw [hD]; exact Dq.put_self _ _ _
  have ps : ∀ i, D' (2 + i) = A.D (2 + i) := fun i => by rw [hD]; exact Dq.put_ne _ _ _ (by omega)
  rw [show DOp.step 2 room A.D ⟨0, 2, x, e, t, false, 0, 0⟩ = (⟨0, 3, x, e, t, true, 0, 0⟩, D') by rw [hD]; simp [DOp.step, DOp.step2]]
  show Inv2 (A.fin 0 ⟨0, 3, x, e, t, true, 0, 0⟩ D')
  have hf : (A.fin 0 ⟨0, 3, x, e, t, true, 0, 0⟩ D').full = A.full := by simp [AW.fin]
  have hh : (A.fin 0 ⟨0, 3, x, e, t, true, 0, 0⟩ D').handed = A.handed := by simp [AW.fin]
  have hst : ∀ n, St 1 A n → St 1 (A.fin 0 ⟨0, 3, x, e, t, true, 0, 0⟩ D') n := by
    rintro n ⟨a, b, c, d⟩
    exact ⟨a, b, by rw [hf]; exact c, by rw [AW.fin_h]; simp [pre]⟩
  refine Inv2.own_step h ho (by omega) (fun hx => by omega) (fun i hi => by rw [ps]; exact hi) (fun i _ _ => ps i) hst (fun hx => by cases hx) (fun i hi => ?_) (fun i => by rw [ps]; exact (h.st i).imp id (hst _)) (fun n hn => hst n (h.hd n (hh ▸ hn))) (by rw [hf]; exact h.fl) (fun n n1 n2 => ?_)
  · simp [cap2, p1] at hi
    rw [ps]
    by_cases ei : i = (t % 65536).toNat
    · rw [ei, hw3]; omega
    · exact h.nz i (by rw [hcap]; omega)
  · rw [hh, hf, p1]
    rcases h.cov n n1 n2 with a | a | a | ⟨i, i1, i2⟩
    · exact .inl a
    · exact .inr (.inl a)
    · rw [ho] at a; simp [ip] at a
      exact .inr (.inr (.inr ⟨(t % 65536).toNat, by omega, by rw [ps, hw3]; exact a⟩))
    · exact .inr (.inr (.inr ⟨i, by omega, by rw [ps]; exact i2⟩))

theorem k2_1_0 (hr : room ≤ 1000) (h : Inv2 A) (hA : All 2 room N A) (ho : A.h 0 = some ⟨1, 0, x, e, t, false, 0, 0⟩) : Inv2 (A.stp 2 room 0 ⟨1, 0, x, e, t, false, 0, 0⟩) := by
  have hdq := dq2 hA
  have hcap : cap2 A.D (A.h 0) = A.D 1 % 65536 := by rw [ho]; rfl
  unfold AW.stp
  have key : ∀ o' : DOp, o'.what = 1 → (o'.ended = true → o'.why = 9) → o'.t = A.D 1 → o'.next = 1 → Inv2 (A.fin 0 o' A.D) := by
    intro o' w1 w2 w3 w4
    have hf : (A.fin 0 o' A.D).full = A.full := by
      simp only [AW.fin]; rw [if_neg]; rintro ⟨a, b⟩; have := w2 a; omega
    have hh : (A.fin 0 o' A.D).handed = A.handed := by
      simp only [AW.fin]; rw [if_neg]; rintro ⟨a, b, c⟩; have := w2 a; omega
    have hc : cap2 A.D (if o'.ended = true then none else some o') = A.D 1 % 65536 := by
      split
      · rfl
      · simp [cap2, w4, w3]
    have hst : ∀ n, St 1 A n → St 1 (A.fin 0 o' A.D) n := by
      rintro n ⟨a, b, c, d⟩
      refine ⟨a, b, by rw [hf]; exact c, ?_⟩
      rw [AW.fin_h]; split <;> simp [pre, w1]
    refine Inv2.own_step h ho (Int.le_refl _) (fun _ => by rw [hcap, hc]; exact Int.le_refl _) (fun i h => h) (fun i _ _ => rfl) hst (fun _ => ⟨⟨by omega, fun _ => by rw [w3]; exact ⟨rfl, Int.le_refl _⟩, by omega, by omega⟩, fun h => by omega⟩) (fun i hi => h.nz i (by rw [hcap, ← hc]; exact hi)) (fun i => (h.st i).imp id (hst _)) (fun n hn => hst n (h.hd n (hh ▸ hn))) (by rw [hf]; exact h.fl) (fun n n1 n2 => ?_)
    rw [hh, hf]
    rcases h.cov n n1 n2 with a | a | a | a
    · exact .inl a
    · exact .inr (.inl a)
    · rw [ho] at a; simp [ip] at a
    · exact .inr (.inr (.inr a))
  by_cases hE : A.D 1 % 65536 = 0
  · rw [show DOp.step 2 room A.D ⟨1, 0, x, e, t, false, 0, 0⟩ = (⟨1, 1, x, e, A.D 1, true, 0, 9⟩, A.D) by simp [DOp.step, DOp.step2, hE]]
    exact key _ rfl (fun _ => rfl) rfl rfl
  · rw [show DOp.step 2 room A.D ⟨1, 0, x, e, t, false, 0, 0⟩ = (⟨1, 1, x, e, A.D 1, false, 0, 0⟩, A.D) by simp [DOp.step, DOp.step2, hE]]
    exact key _ rfl (fun h => by cases h) rfl rfl

theorem k2_1_1 (hr : room ≤ 1000) (h : Inv2 A) (hA : All 2 room N A) (ho : A.h 0 = some ⟨1, 1, x, e, t, false, 0, 0⟩) : Inv2 (A.stp 2 room 0 ⟨1, 1, x, e, t, false, 0, 0⟩) := by
  obtain ⟨hw, hp⟩ := h.ow _ ho
  have hw2 := hw.2.1 (by simp)
  simp only at hw2
  have hcap : cap2 A.D (A.h 0) = t % 65536 := by rw [ho]; rfl
  unfold AW.stp
  obtain ⟨v, hv⟩ : ∃ v, v = A.D (2 + (t % 65536 - 1).toNat) := ⟨_, rfl⟩
  rw [show DOp.step 2 room A.D ⟨1, 1, x, e, t, false, 0, 0⟩ = (⟨1, 2, v, e, t, false, 0, 0⟩, A.D) by rw [hv]; simp [DOp.step, DOp.step2]]
  show Inv2 (A.fin 0 ⟨1, 2, v, e, t, false, 0, 0⟩ A.D)
  have hf : (A.fin 0 ⟨1, 2, v, e, t, false, 0, 0⟩ A.D).full = A.full := by simp [AW.fin]
  have hh : (A.fin 0 ⟨1, 2, v, e, t, false, 0, 0⟩ A.D).handed = A.handed := by simp [AW.fin]
  have hst : ∀ n, St 1 A n → St 1 (A.fin 0 ⟨1, 2, v, e, t, false, 0, 0⟩ A.D) n := by
    rintro n ⟨a, b, c, d⟩
    exact ⟨a, b, by rw [hf]; exact c, by rw [AW.fin_h]; simp [pre]⟩
  refine Inv2.own_step h ho (Int.le_refl _) (fun _ => by rw [hcap]; exact Int.le_refl _) (fun i h => h) (fun i _ _ => rfl) hst (fun _ => ⟨⟨by simp, fun _ => hw2, by simp, fun _ _ => hv⟩, fun h => by simp at h⟩) (fun i hi => h.nz i (by rw [hcap]; exact hi)) (fun i => (h.st i).imp id (hst _)) (fun n hn => hst n (h.hd n (hh ▸ hn))) (by rw [hf]; exact h.fl) (fun n n1 n2 => ?_)
  rw [hh, hf]
  rcases h.cov n n1 n2 with a | a | a | a
  · exact .inl a
  · exact .inr (.inl a)
  · rw [ho] at a; simp [ip] at a
  · exact .inr (.inr (.inr a))

theorem k2_1_2 (hr : room ≤ 1000) (h : Inv2 A) (hA : All 2 room N A) (ho : A.h 0 = some ⟨1, 2, x, e, t, false, 0, 0⟩) : Inv2 (A.stp 2 room 0 ⟨1, 2, x, e, t, false, 0, 0⟩) := by
  have hdq := dq2 hA
  obtain ⟨hw, hp⟩ := h.ow _ ho
  have hw2 := hw.2.1 (by simp)
  have hw4 := hw.2.2.2 rfl (by simp)
  simp only at hw2 hw4
  have ht := (hA.ok _ _ ho).1.pc rfl
  simp [Ok2, TOk] at ht
  have hcap : cap2 A.D (A.h 0) = t % 65536 := by rw [ho]; rfl
  unfold AW.stp
  obtain ⟨D', hD⟩ : ∃ D', D' = A.D.put 1 (t - 1) := ⟨_, rfl⟩
  have p1 : D' 1 = t - 1 := by rw [hD]; exact Dq.put_self _ _ _
  have ps : ∀ i, D' (2 + i) = A.D (2 + i) := fun i => by rw [hD]; exact Dq.put_ne _ _ _ (by omega)
  rw [show DOp.step 2 room A.D ⟨1, 2, x, e, t, false, 0, 0⟩ = (⟨1, 3, x, e, t, true, x, 0⟩, D') by rw [hD]; simp [DOp.step, DOp.step2]]
  show Inv2 (A.fin 0 ⟨1, 3, x, e, t, true, x, 0⟩ D')
  have hf : (A.fin 0 ⟨1, 3, x, e, t, true, x, 0⟩ D').full = A.full := by simp [AW.fin]
  have hh : (A.fin 0 ⟨1, 3, x, e, t, true, x, 0⟩ D').handed = A.handed ++ [x] := by simp [AW.fin]
  have hst : ∀ n, St 1 A n → St 1 (A.fin 0 ⟨1, 3, x, e, t, true, x, 0⟩ D') n := by
    rintro n ⟨a, b, c, d⟩
    exact ⟨a, b, by rw [hf]; exact c, by rw [AW.fin_h]; simp [pre]⟩
  have hx : St 1 A x := by
    rw [hw4]
    rcases h.st (t % 65536 - 1).toNat with a | a
    · exact absurd a (h.nz _ (by rw [hcap]; omega))
    · exact a
  refine Inv2.own_step h ho (by omega) (fun _ => by rw [hcap]; simp [cap2, p1]; omega) (fun i hi => by rw [ps]; exact hi) (fun i _ _ => ps i) hst (fun hx => by cases hx) (fun i hi => ?_) (fun i => by rw [ps]; exact (h.st i).imp id (hst _)) (fun n hn => ?_) (by rw [hf]; exact h.fl) (fun n n1 n2 => ?_)
  · simp [cap2, p1] at hi
    rw [ps]
    exact h.nz i (by rw [hcap]; omega)
  · rw [hh] at hn; simp at hn
    rcases hn with hn | hn
    · exact hst n (h.hd n hn)
    · subst hn; exact hst _ hx
  · rw [hh, hf, p1]
    rcases h.cov n n1 n2 with a | a | a | ⟨i, i1, i2⟩
    · exact .inl (by simp [a])
    · exact .inr (.inl a)
    · rw [ho] at a; simp [ip] at a
    · by_cases ei : i = (t % 65536 - 1).toNat
      · refine .inl ?_
        rw [← i2, ei, ← hw4]; simp
      · exact .inr (.inr (.inr ⟨i, by omega, by rw [ps]; exact i2⟩))

theorem k2_2_0 (hr : room ≤ 1000) (hwho : who ≠ 0) (h : Inv2 A) (hA : All 2 room N A) (ho : A.h who = some ⟨2, 0, x, e, t, false, 0, 0⟩) : Inv2 (A.stp 2 room who ⟨2, 0, x, e, t, false, 0, 0⟩) := by
  have hdq := dq2 hA
  have hcap : A.D 1 % 65536 ≤ cap2 A.D (A.h 0) := by
    cases hh : A.h 0 with
    | none => exact Int.le_refl _
    | some q =>
      have := (h.ow q hh).1.2.1
      show A.D 1 % 65536 ≤ if 1 ≤ q.next then q.t % 65536 else A.D 1 % 65536
      split
      · rename_i hn; exact (this hn).2
      · exact Int.le_refl _
  unfold AW.stp
  by_cases hE : A.D 1 % 65536 = 0
  · rw [show DOp.step 2 room A.D ⟨2, 0, x, e, t, false, 0, 0⟩ = (⟨2, 1, x, e, A.D 1, true, 0, 9⟩, A.D) by simp [DOp.step, DOp.step2, hE]]
    exact Inv2.thief_step hwho h rfl (Int.le_refl _) (fun _ => rfl) (by simp [AW.fin]) (fun h => by cases h) (fun n hn => .inl (by simpa [AW.fin] using hn)) (fun n hn => by simpa [AW.fin] using hn) (fun i h1 h2 => by show _ ∈ _; have h1 : A.D 1 % 65536 ≤ (i : Int) := h1; omega)
  · rw [show DOp.step 2 room A.D ⟨2, 0, x, e, t, false, 0, 0⟩ = (⟨2, 1, x, e, A.D 1, false, 0, 0⟩, A.D) by simp [DOp.step, DOp.step2, hE]]
    exact Inv2.thief_step hwho h rfl (Int.le_refl _) (fun _ => rfl) (by simp [AW.fin]) (fun _ => ⟨⟨rfl, fun _ => ⟨Int.le_refl _, by show 1 ≤ A.D 1 % 65536; omega, h.nz _ (by show ((A.D 1 % 65536 - 1).toNat : Int) < _; omega)⟩, by simp⟩, rfl⟩) (fun n hn => .inl (by simpa [AW.fin] using hn)) (fun n hn => by simpa [AW.fin] using hn) (fun i h1 h2 => by have h1 : A.D 1 % 65536 ≤ (i : Int) := h1; omega)

theorem k2_2_1 (hr : room ≤ 1000) (hwho : who ≠ 0) (h : Inv2 A) (hA : All 2 room N A) (ho : A.h who = some ⟨2, 1, x, e, t, false, 0, 0⟩) : Inv2 (A.stp 2 room who ⟨2, 1, x, e, t, false, 0, 0⟩) := by
  have hth := h.th _ _ hwho ho
  obtain ⟨a, b, c⟩ := hth
  have b := b (by simp)
  simp only at b
  unfold AW.stp
  obtain ⟨v, hv⟩ : ∃ v, v = A.D (2 + (t % 65536 - 1).toNat) := ⟨_, rfl⟩
  rw [show DOp.step 2 room A.D ⟨2, 1, x, e, t, false, 0, 0⟩ = (⟨2, 2, v, e, t, false, 0, 0⟩, A.D) by rw [hv]; simp [DOp.step, DOp.step2]]
  refine Inv2.thief_step hwho h rfl (Int.le_refl _) (fun _ => rfl) (by simp [AW.fin]) (fun _ => ⟨⟨rfl, fun _ => b, fun _ => ⟨?_, fun _ _ => hv⟩⟩, rfl⟩) (fun n hn => .inl (by simpa [AW.fin] using hn)) (fun n hn => by simpa [AW.fin] using hn) (fun i h1 h2 => by have h1 : A.D 1 % 65536 ≤ (i : Int) := h1; omega)
  show St 1 A v
  rw [hv]
  rcases h.st (t % 65536 - 1).toNat with a | a
  · exact absurd a b.2.2
  · exact a

theorem k2_2_2 (hr : room ≤ 1000) (hwho : who ≠ 0) (h : Inv2 A) (hA : All 2 room N A) (ho : A.h who = some ⟨2, 2, x, e, t, false, 0, 0⟩) : Inv2 (A.stp 2 room who ⟨2, 2, x, e, t, false, 0, 0⟩) := by
  have hdq := dq2 hA
  have hcap : A.D 1 % 65536 ≤ cap2 A.D (A.h 0) := by
    cases hh : A.h 0 with
    | none => exact Int.le_refl _
    | some q =>
      have := (h.ow q hh).1.2.1
      show A.D 1 % 65536 ≤ if 1 ≤ q.next then q.t % 65536 else A.D 1 % 65536
      split
      · rename_i hn; exact (this hn).2
      · exact Int.le_refl _
  obtain ⟨a, b, c⟩ := h.th _ _ hwho ho
  have b := b (by simp)
  have c := c (by simp)
  simp only at b c
  unfold AW.stp
  by_cases hE : A.D 1 = t
  · obtain ⟨D', hD⟩ : ∃ D', D' = A.D.put 1 (t - 1) := ⟨_, rfl⟩
    have p1 : D' 1 = t - 1 := by rw [hD]; exact Dq.put_self _ _ _
    have ps : ∀ i, D' (2 + i) = A.D (2 + i) := fun i => by rw [hD]; exact Dq.put_ne _ _ _ (by omega)
    rw [show DOp.step 2 room A.D ⟨2, 2, x, e, t, false, 0, 0⟩ = (⟨2, 3, x, e, t, true, x, 0⟩, D') by rw [hD]; simp [DOp.step, DOp.step2, hE]]
    have hx := c.2 (by rw [hE]) (by rw [← hE]; exact hcap)
    refine Inv2.thief_step hwho h (by show D' 1 / 65536 = _; omega) (by show D' 1 % 65536 ≤ _; omega) ps (by simp [AW.fin]) (fun hx => by cases hx) (fun n hn => ?_) (fun n hn => by simp [AW.fin, hn]) (fun i h1 h2 => ?_)
    · simp [AW.fin] at hn
      rcases hn with hn | hn
      · exact .inl hn
      · subst hn; exact .inr c.1
    · have h1 : D' 1 % 65536 ≤ (i : Int) := h1
      have : i = (t % 65536 - 1).toNat := by omega
      rw [this, ← hx]
      simp [AW.fin]
  · rw [show DOp.step 2 room A.D ⟨2, 2, x, e, t, false, 0, 0⟩ = (⟨2, 3, x, e, t, true, 0, 10⟩, A.D) by simp [DOp.step, DOp.step2, hE]]
    exact Inv2.thief_step hwho h rfl (Int.le_refl _) (fun _ => rfl) (by simp [AW.fin]) (fun h => by cases h) (fun n hn => .inl (by simpa [AW.fin] using hn)) (fun n hn => by simpa [AW.fin] using hn) (fun i h1 h2 => by have h1 : A.D 1 % 65536 ≤ (i : Int) := h1; omega)
end

end Go.Proofs.Ytlogmfpnjpamgaa
