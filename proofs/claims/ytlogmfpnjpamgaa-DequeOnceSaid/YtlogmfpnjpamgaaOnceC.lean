/- Layer 9, plain: kind 1, move by move. -/
import Derived.Test.YtlogmfpnjpamgaaOnceB
open Go Go.RowKit
namespace Go.Proofs.Ytlogmfpnjpamgaa
set_option linter.unusedVariables false

theorem count_one (x n : Int) : [x].count n = if x = n then 1 else 0 := by
  rw [List.count_singleton]; by_cases h : x = n <;> simp [h]
theorem Dq.put_slot (D : Dq) (k : Nat) (v : Int) (i : Nat) (h : k < 2) : D.put k v (2 + i) = D (2 + i) := Dq.put_ne _ _ _ (by omega)

theorem k1_0_0 {A : AW} {room N : Nat} {x e t : Int} (hr : room ≤ 1000) (h : Inv1 A) (hA : All 1 room N A) (ho : A.h 0 = some ⟨0, 0, x, e, t, false, 0, 0⟩) : Inv1 (A.stp 1 room 0 ⟨0, 0, x, e, t, false, 0, 0⟩) := by
  obtain ⟨hth, hid, how, hacc⟩ := id h
  have hdq := hA.dq
  have hok := (hA.ok _ _ ho).1.pc rfl
  simp [DqOk, Ok1, TOk] at hdq hok
  have hw := how _ ho
  simp [Own1] at hw
  have hacc2 := hacc
  unfold Acc1 at hacc2
  rw [ho] at hacc2
  simp [U1, ip] at hacc2
  unfold AW.stp
  by_cases hE : A.D 0 = room
  · rw [show DOp.step 1 room A.D ⟨0, 0, x, e, t, false, 0, 0⟩ = (⟨0, 1, x, A.D 0, t, true, 0, 8⟩, A.D) by simp [DOp.step, DOp.step1, hE]]
    show Inv1 (A.fin 0 ⟨0, 1, x, A.D 0, t, true, 0, 8⟩ A.D)
    refine Inv1.own_step h ho ?_ ?_ ?_ ?_ ?_
    · simp <;> omega
    · rw [ho]; simp [U1] <;> omega
    · simp <;> omega
    · simp [Own1] <;> omega
    · intro n
      have a := hacc2 n
      rw [AW.fin_h]
      simp only [AW.fin]
      simp [U1, ip, count_one]
      omega
  · rw [show DOp.step 1 room A.D ⟨0, 0, x, e, t, false, 0, 0⟩ = (⟨0, 1, x, A.D 0, t, false, 0, 0⟩, A.D) by simp [DOp.step, DOp.step1, hE]]
    show Inv1 (A.fin 0 ⟨0, 1, x, A.D 0, t, false, 0, 0⟩ A.D)
    refine Inv1.own_step h ho ?_ ?_ ?_ ?_ ?_
    · simp <;> omega
    · rw [ho]; simp [U1] <;> omega
    · simp <;> omega
    · simp [Own1] <;> omega
    · intro n
      have a := hacc2 n
      rw [AW.fin_h]
      simp only [AW.fin]
      simp [U1, ip, count_one]
      exact a

theorem k1_0_1 {A : AW} {room N : Nat} {x e t : Int} (hr : room ≤ 1000) (h : Inv1 A) (hA : All 1 room N A) (ho : A.h 0 = some ⟨0, 1, x, e, t, false, 0, 0⟩) : Inv1 (A.stp 1 room 0 ⟨0, 1, x, e, t, false, 0, 0⟩) := by
  obtain ⟨hth, hid, how, hacc⟩ := id h
  have hdq := hA.dq
  have hok := (hA.ok _ _ ho).1.pc rfl
  simp [DqOk, Ok1, TOk] at hdq hok
  have hw := how _ ho
  simp [Own1] at hw
  have hacc2 := hacc
  unfold Acc1 at hacc2
  rw [ho] at hacc2
  simp [U1, ip] at hacc2
  unfold AW.stp
  have p0 : (A.D.put (2 + e.toNat) x) 0 = A.D 0 := Dq.put_ne _ _ _ (by omega)
  have p1 : (A.D.put (2 + e.toNat) x) 1 = A.D 1 := Dq.put_ne _ _ _ (by omega)
  have ps : ∀ i, i ≠ e.toNat → (A.D.put (2 + e.toNat) x) (2 + i) = A.D (2 + i) := fun i hi => Dq.put_ne _ _ _ (by omega)
  have pss : (A.D.put (2 + e.toNat) x) (2 + e.toNat) = x := Dq.put_self _ _ _
  rw [show DOp.step 1 room A.D ⟨0, 1, x, e, t, false, 0, 0⟩ = (⟨0, 2, x, e, t, false, 0, 0⟩, (A.D.put (2 + e.toNat) x)) by simp [DOp.step, DOp.step1]]
  show Inv1 (A.fin 0 ⟨0, 2, x, e, t, false, 0, 0⟩ (A.D.put (2 + e.toNat) x))
  refine Inv1.own_step h ho ?_ ?_ ?_ ?_ ?_
  · simp [p0, p1] <;> omega
  · rw [ho]; simp [U1, p0, p1]; intro hu; exact ⟨hu, ps _ (by omega)⟩
  · simp [p0, p1] <;> omega
  · simp [Own1, p0, p1, pss] <;> omega
  · intro n
    have a := hacc2 n
    rw [AW.fin_h]
    simp only [AW.fin]
    simp [U1, ip, p0, p1, count_one]
    rw [cnt_congr (D := A.D) (fun i h1 h2 => ps i (by omega))]
    exact a

theorem k1_0_2 {A : AW} {room N : Nat} {x e t : Int} (hr : room ≤ 1000) (h : Inv1 A) (hA : All 1 room N A) (ho : A.h 0 = some ⟨0, 2, x, e, t, false, 0, 0⟩) : Inv1 (A.stp 1 room 0 ⟨0, 2, x, e, t, false, 0, 0⟩) := by
  obtain ⟨hth, hid, how, hacc⟩ := id h
  have hdq := hA.dq
  have hok := (hA.ok _ _ ho).1.pc rfl
  simp [DqOk, Ok1, TOk] at hdq hok
  have hw := how _ ho
  simp [Own1] at hw
  have hacc2 := hacc
  unfold Acc1 at hacc2
  rw [ho] at hacc2
  simp [U1, ip] at hacc2
  unfold AW.stp
  have p0 : (A.D.put 0 (e + 1)) 0 = e + 1 := Dq.put_self _ _ _
  have p1 : (A.D.put 0 (e + 1)) 1 = A.D 1 := Dq.put_ne _ _ _ (by omega)
  have ps : ∀ i, (A.D.put 0 (e + 1)) (2 + i) = A.D (2 + i) := fun i => Dq.put_ne _ _ _ (by omega)
  rw [show DOp.step 1 room A.D ⟨0, 2, x, e, t, false, 0, 0⟩ = (⟨0, 3, x, e, t, true, 0, 0⟩, (A.D.put 0 (e + 1))) by simp [DOp.step, DOp.step1]]
  show Inv1 (A.fin 0 ⟨0, 3, x, e, t, true, 0, 0⟩ (A.D.put 0 (e + 1)))
  refine Inv1.own_step h ho ?_ ?_ ?_ ?_ ?_
  · simp [p0, p1] <;> omega
  · rw [ho]; simp [U1, p0, p1, ps] <;> omega
  · simp [p0, p1] <;> omega
  · simp [Own1, p0, p1, ps] <;> omega
  · intro n
    have a := hacc2 n
    rw [AW.fin_h]
    simp only [AW.fin]
    simp [U1, ip, p0, p1, count_one]
    rw [cnt_congr (D := A.D) (fun i _ _ => ps i)]
    rw [show (e + 1 - A.D 1 % 65536).toNat = (A.D 0 - A.D 1 % 65536).toNat + 1 by omega, cnt, show (A.D 1 % 65536).toNat + (A.D 0 - A.D 1 % 65536).toNat = e.toNat by omega, hw.2.2]
    omega

theorem k1_1_0 {A : AW} {room N : Nat} {x e t : Int} (hr : room ≤ 1000) (h : Inv1 A) (hA : All 1 room N A) (ho : A.h 0 = some ⟨1, 0, x, e, t, false, 0, 0⟩) : Inv1 (A.stp 1 room 0 ⟨1, 0, x, e, t, false, 0, 0⟩) := by
  obtain ⟨hth, hid, how, hacc⟩ := id h
  have hdq := hA.dq
  have hok := (hA.ok _ _ ho).1.pc rfl
  simp [DqOk, Ok1, TOk] at hdq hok
  have hw := how _ ho
  simp [Own1] at hw
  have hacc2 := hacc
  unfold Acc1 at hacc2
  rw [ho] at hacc2
  simp [U1, ip] at hacc2
  unfold AW.stp
  by_cases hE : A.D 0 = 0
  · rw [show DOp.step 1 room A.D ⟨1, 0, x, e, t, false, 0, 0⟩ = (⟨1, 1, x, A.D 0, t, true, 0, 9⟩, A.D) by simp [DOp.step, DOp.step1, hE]]
    show Inv1 (A.fin 0 ⟨1, 1, x, A.D 0, t, true, 0, 9⟩ A.D)
    refine Inv1.own_step h ho ?_ ?_ ?_ ?_ ?_
    · simp <;> omega
    · rw [ho]; simp [U1] <;> omega
    · simp <;> omega
    · simp [Own1] <;> omega
    · intro n
      have a := hacc2 n
      rw [AW.fin_h]
      simp only [AW.fin]
      simp [U1, ip, count_one]
      exact a
  · rw [show DOp.step 1 room A.D ⟨1, 0, x, e, t, false, 0, 0⟩ = (⟨1, 1, x, A.D 0, t, false, 0, 0⟩, A.D) by simp [DOp.step, DOp.step1, hE]]
    show Inv1 (A.fin 0 ⟨1, 1, x, A.D 0, t, false, 0, 0⟩ A.D)
    refine Inv1.own_step h ho ?_ ?_ ?_ ?_ ?_
    · simp <;> omega
    · rw [ho]; simp [U1] <;> omega
    · simp <;> omega
    · simp [Own1] <;> omega
    · intro n
      have a := hacc2 n
      rw [AW.fin_h]
      simp only [AW.fin]
      simp [U1, ip, count_one]
      exact a

theorem k1_1_1 {A : AW} {room N : Nat} {x e t : Int} (hr : room ≤ 1000) (h : Inv1 A) (hA : All 1 room N A) (ho : A.h 0 = some ⟨1, 1, x, e, t, false, 0, 0⟩) : Inv1 (A.stp 1 room 0 ⟨1, 1, x, e, t, false, 0, 0⟩) := by
  obtain ⟨hth, hid, how, hacc⟩ := id h
  have hdq := hA.dq
  have hok := (hA.ok _ _ ho).1.pc rfl
  simp [DqOk, Ok1, TOk] at hdq hok
  have hw := how _ ho
  simp [Own1] at hw
  have hacc2 := hacc
  unfold Acc1 at hacc2
  rw [ho] at hacc2
  simp [U1, ip] at hacc2
  unfold AW.stp
  have p0 : (A.D.put 0 (e - 1)) 0 = e - 1 := Dq.put_self _ _ _
  have p1 : (A.D.put 0 (e - 1)) 1 = A.D 1 := Dq.put_ne _ _ _ (by omega)
  have ps : ∀ i, (A.D.put 0 (e - 1)) (2 + i) = A.D (2 + i) := fun i => Dq.put_ne _ _ _ (by omega)
  rw [show DOp.step 1 room A.D ⟨1, 1, x, e, t, false, 0, 0⟩ = (⟨1, 2, x, e, t, false, 0, 0⟩, (A.D.put 0 (e - 1))) by simp [DOp.step, DOp.step1]]
  show Inv1 (A.fin 0 ⟨1, 2, x, e, t, false, 0, 0⟩ (A.D.put 0 (e - 1)))
  refine Inv1.own_step h ho ?_ ?_ ?_ ?_ ?_
  · simp [p0, p1] <;> omega
  · rw [ho]; simp [U1, p0, p1, ps] <;> omega
  · simp [p0, p1] <;> omega
  · simp [Own1, p0, p1, ps] <;> omega
  · intro n
    have a := hacc2 n
    rw [AW.fin_h]
    simp only [AW.fin]
    simp [U1, ip, p0, p1, count_one]
    rw [cnt_congr (D := A.D) (fun i _ _ => ps i)]
    rw [hw.1]
    exact a

theorem k1_1_2 {A : AW} {room N : Nat} {x e t : Int} (hr : room ≤ 1000) (h : Inv1 A) (hA : All 1 room N A) (ho : A.h 0 = some ⟨1, 2, x, e, t, false, 0, 0⟩) : Inv1 (A.stp 1 room 0 ⟨1, 2, x, e, t, false, 0, 0⟩) := by
  obtain ⟨hth, hid, how, hacc⟩ := id h
  have hdq := hA.dq
  have hok := (hA.ok _ _ ho).1.pc rfl
  simp [DqOk, Ok1, TOk] at hdq hok
  have hw := how _ ho
  simp [Own1] at hw
  have hacc2 := hacc
  unfold Acc1 at hacc2
  rw [ho] at hacc2
  simp [U1, ip] at hacc2
  unfold AW.stp
  rw [show DOp.step 1 room A.D ⟨1, 2, x, e, t, false, 0, 0⟩ = (⟨1, 3, A.D (2 + (e - 1).toNat), e, t, false, 0, 0⟩, A.D) by simp [DOp.step, DOp.step1]]
  show Inv1 (A.fin 0 ⟨1, 3, A.D (2 + (e - 1).toNat), e, t, false, 0, 0⟩ A.D)
  refine Inv1.own_step h ho ?_ ?_ ?_ ?_ ?_
  · simp <;> omega
  · rw [ho]; simp [U1] <;> omega
  · simp <;> omega
  · simp [Own1] <;> omega
  · intro n
    have a := hacc2 n
    rw [AW.fin_h]
    simp only [AW.fin]
    simp [U1, ip, count_one]
    exact a

theorem k1_1_3 {A : AW} {room N : Nat} {x e t : Int} (hr : room ≤ 1000) (h : Inv1 A) (hA : All 1 room N A) (ho : A.h 0 = some ⟨1, 3, x, e, t, false, 0, 0⟩) : Inv1 (A.stp 1 room 0 ⟨1, 3, x, e, t, false, 0, 0⟩) := by
  obtain ⟨hth, hid, how, hacc⟩ := id h
  have hdq := hA.dq
  have hok := (hA.ok _ _ ho).1.pc rfl
  simp [DqOk, Ok1, TOk] at hdq hok
  have hw := how _ ho
  simp [Own1] at hw
  have hacc2 := hacc
  unfold Acc1 at hacc2
  rw [ho] at hacc2
  simp [U1, ip] at hacc2
  unfold AW.stp
  by_cases hE : A.D 1 % 65536 < e - 1
  · rw [show DOp.step 1 room A.D ⟨1, 3, x, e, t, false, 0, 0⟩ = (⟨1, 4, x, e, A.D 1, true, x, 0⟩, A.D) by simp [DOp.step, DOp.step1, hE]]
    show Inv1 (A.fin 0 ⟨1, 4, x, e, A.D 1, true, x, 0⟩ A.D)
    refine Inv1.own_step h ho ?_ ?_ ?_ ?_ ?_
    · simp <;> omega
    · rw [ho]; simp [U1] <;> omega
    · simp <;> omega
    · simp [Own1] <;> omega
    · intro n
      have a := hacc2 n
      rw [AW.fin_h]
      simp only [AW.fin]
      simp [U1, ip, count_one]
      rw [show (e - A.D 1 % 65536).toNat = (A.D 0 - A.D 1 % 65536).toNat + 1 by omega, cnt, show (A.D 1 % 65536).toNat + (A.D 0 - A.D 1 % 65536).toNat = e.toNat - 1 by omega, ← hw.2.2] at a
      omega
  · rw [show DOp.step 1 room A.D ⟨1, 3, x, e, t, false, 0, 0⟩ = (⟨1, 4, x, e, A.D 1, false, 0, 0⟩, A.D) by simp [DOp.step, DOp.step1, hE]]
    show Inv1 (A.fin 0 ⟨1, 4, x, e, A.D 1, false, 0, 0⟩ A.D)
    refine Inv1.own_step h ho ?_ ?_ ?_ ?_ ?_
    · simp <;> omega
    · rw [ho]; simp [U1] <;> omega
    · simp <;> omega
    · simp [Own1] <;> omega
    · intro n
      have a := hacc2 n
      rw [AW.fin_h]
      simp only [AW.fin]
      simp [U1, ip, count_one]
      exact a

theorem k1_1_4 {A : AW} {room N : Nat} {x e t : Int} (hr : room ≤ 1000) (h : Inv1 A) (hA : All 1 room N A) (ho : A.h 0 = some ⟨1, 4, x, e, t, false, 0, 0⟩) : Inv1 (A.stp 1 room 0 ⟨1, 4, x, e, t, false, 0, 0⟩) := by
  obtain ⟨hth, hid, how, hacc⟩ := id h
  have hdq := hA.dq
  have hok := (hA.ok _ _ ho).1.pc rfl
  simp [DqOk, Ok1, TOk] at hdq hok
  have hw := how _ ho
  simp [Own1] at hw
  have hacc2 := hacc
  unfold Acc1 at hacc2
  rw [ho] at hacc2
  simp [U1, ip] at hacc2
  unfold AW.stp
  by_cases hE : e - 1 = t % 65536
  · have p0 : (A.D.put 0 (0)) 0 = 0 := Dq.put_self _ _ _
    have p1 : (A.D.put 0 (0)) 1 = A.D 1 := Dq.put_ne _ _ _ (by omega)
    have ps : ∀ i, (A.D.put 0 (0)) (2 + i) = A.D (2 + i) := fun i => Dq.put_ne _ _ _ (by omega)
    rw [show DOp.step 1 room A.D ⟨1, 4, x, e, t, false, 0, 0⟩ = (⟨1, 5, x, e, t, false, 0, 0⟩, (A.D.put 0 (0))) by simp [DOp.step, DOp.step1, hE]]
    show Inv1 (A.fin 0 ⟨1, 5, x, e, t, false, 0, 0⟩ (A.D.put 0 (0)))
    refine Inv1.own_step h ho ?_ ?_ ?_ ?_ ?_
    · simp [p0, p1] <;> omega
    · rw [ho]; simp [U1, p0, p1, ps] <;> omega
    · simp [p0, p1] <;> omega
    · simp [Own1, p0, p1, ps] <;> omega
    · intro n
      have a := hacc2 n
      rw [AW.fin_h]
      simp only [AW.fin]
      simp [U1, ip, p0, p1, count_one]
      rw [cnt_congr (D := A.D) (fun i _ _ => ps i)]
      exact a
  · have p0 : (A.D.put 0 (0)) 0 = 0 := Dq.put_self _ _ _
    have p1 : (A.D.put 0 (0)) 1 = A.D 1 := Dq.put_ne _ _ _ (by omega)
    have ps : ∀ i, (A.D.put 0 (0)) (2 + i) = A.D (2 + i) := fun i => Dq.put_ne _ _ _ (by omega)
    rw [show DOp.step 1 room A.D ⟨1, 4, x, e, t, false, 0, 0⟩ = (⟨1, 6, x, e, t, false, 0, 0⟩, (A.D.put 0 (0))) by simp [DOp.step, DOp.step1, hE]]
    show Inv1 (A.fin 0 ⟨1, 6, x, e, t, false, 0, 0⟩ (A.D.put 0 (0)))
    refine Inv1.own_step h ho ?_ ?_ ?_ ?_ ?_
    · simp [p0, p1] <;> omega
    · rw [ho]; simp [U1, p0, p1, ps] <;> omega
    · simp [p0, p1] <;> omega
    · simp [Own1, p0, p1, ps] <;> omega
    · intro n
      have a := hacc2 n
      rw [AW.fin_h]
      simp only [AW.fin]
      simp [U1, ip, p0, p1, count_one]
      rw [cnt_congr (D := A.D) (fun i _ _ => ps i)]
      exact a

theorem k1_1_5 {A : AW} {room N : Nat} {x e t : Int} (hr : room ≤ 1000) (h : Inv1 A) (hA : All 1 room N A) (ho : A.h 0 = some ⟨1, 5, x, e, t, false, 0, 0⟩) : Inv1 (A.stp 1 room 0 ⟨1, 5, x, e, t, false, 0, 0⟩) := by
  obtain ⟨hth, hid, how, hacc⟩ := id h
  have hdq := hA.dq
  have hok := (hA.ok _ _ ho).1.pc rfl
  simp [DqOk, Ok1, TOk] at hdq hok
  have hw := how _ ho
  simp [Own1] at hw
  have hacc2 := hacc
  unfold Acc1 at hacc2
  rw [ho] at hacc2
  simp [U1, ip] at hacc2
  unfold AW.stp
  by_cases hE : A.D 1 = t
  · have p0 : (A.D.put 1 (65536 * (t / 65536 + 1))) 0 = A.D 0 := Dq.put_ne _ _ _ (by omega)
    have p1 : (A.D.put 1 (65536 * (t / 65536 + 1))) 1 = 65536 * (t / 65536 + 1) := Dq.put_self _ _ _
    have ps : ∀ i, (A.D.put 1 (65536 * (t / 65536 + 1))) (2 + i) = A.D (2 + i) := fun i => Dq.put_ne _ _ _ (by omega)
    rw [show DOp.step 1 room A.D ⟨1, 5, x, e, t, false, 0, 0⟩ = (⟨1, 6, x, e, t, true, x, 0⟩, (A.D.put 1 (65536 * (t / 65536 + 1)))) by simp [DOp.step, DOp.step1, hE]]
    show Inv1 (A.fin 0 ⟨1, 6, x, e, t, true, x, 0⟩ (A.D.put 1 (65536 * (t / 65536 + 1))))
    refine Inv1.own_step h ho ?_ ?_ ?_ ?_ ?_
    · simp [p0, p1] <;> omega
    · rw [ho]; simp [U1, p0, p1, ps] <;> omega
    · simp [p0, p1] <;> omega
    · simp [Own1, p0, p1, ps] <;> omega
    · intro n
      have a := hacc2 n
      rw [AW.fin_h]
      simp only [AW.fin]
      simp [U1, ip, p0, p1, count_one]
      rw [cnt_congr (D := A.D) (fun i _ _ => ps i)]
      rw [show (e - A.D 1 % 65536).toNat = 1 by omega, cnt, cnt, show (A.D 1 % 65536).toNat + 0 = (e - 1).toNat by omega, show (e - 1).toNat = e.toNat - 1 by omega, ← hw.2.1] at a
      rw [show (A.D 0).toNat = 0 by omega, cnt]
      omega
  · rw [show DOp.step 1 room A.D ⟨1, 5, x, e, t, false, 0, 0⟩ = (⟨1, 6, x, e, t, false, 0, 0⟩, A.D) by simp [DOp.step, DOp.step1, hE]]
    show Inv1 (A.fin 0 ⟨1, 6, x, e, t, false, 0, 0⟩ A.D)
    refine Inv1.own_step h ho ?_ ?_ ?_ ?_ ?_
    · simp <;> omega
    · rw [ho]; simp [U1] <;> omega
    · simp <;> omega
    · simp [Own1] <;> omega
    · intro n
      have a := hacc2 n
      rw [AW.fin_h]
      simp only [AW.fin]
      simp [U1, ip, count_one]
      exact a

theorem k1_1_6 {A : AW} {room N : Nat} {x e t : Int} (hr : room ≤ 1000) (h : Inv1 A) (hA : All 1 room N A) (ho : A.h 0 = some ⟨1, 6, x, e, t, false, 0, 0⟩) : Inv1 (A.stp 1 room 0 ⟨1, 6, x, e, t, false, 0, 0⟩) := by
  obtain ⟨hth, hid, how, hacc⟩ := id h
  have hdq := hA.dq
  have hok := (hA.ok _ _ ho).1.pc rfl
  simp [DqOk, Ok1, TOk] at hdq hok
  have hw := how _ ho
  simp [Own1] at hw
  have hacc2 := hacc
  unfold Acc1 at hacc2
  rw [ho] at hacc2
  simp [U1, ip] at hacc2
  unfold AW.stp
  have p0 : (A.D.put 1 (65536 * (t / 65536 + 1))) 0 = A.D 0 := Dq.put_ne _ _ _ (by omega)
  have p1 : (A.D.put 1 (65536 * (t / 65536 + 1))) 1 = 65536 * (t / 65536 + 1) := Dq.put_self _ _ _
  have ps : ∀ i, (A.D.put 1 (65536 * (t / 65536 + 1))) (2 + i) = A.D (2 + i) := fun i => Dq.put_ne _ _ _ (by omega)
  rw [show DOp.step 1 room A.D ⟨1, 6, x, e, t, false, 0, 0⟩ = (⟨1, 7, x, e, t, true, 0, 9⟩, (A.D.put 1 (65536 * (t / 65536 + 1)))) by simp [DOp.step, DOp.step1]]
  show Inv1 (A.fin 0 ⟨1, 7, x, e, t, true, 0, 9⟩ (A.D.put 1 (65536 * (t / 65536 + 1))))
  refine Inv1.own_step h ho ?_ ?_ ?_ ?_ ?_
  · simp [p0, p1] <;> omega
  · rw [ho]; simp [U1, p0, p1, ps] <;> omega
  · simp [p0, p1] <;> omega
  · simp [Own1, p0, p1, ps] <;> omega
  · intro n
    have a := hacc2 n
    rw [AW.fin_h]
    simp only [AW.fin]
    simp [U1, ip, p0, p1, count_one]
    rw [cnt_congr (D := A.D) (fun i _ _ => ps i)]
    rw [show (e - A.D 1 % 65536).toNat = 0 by omega, cnt] at a
    rw [show (A.D 0).toNat = 0 by omega, cnt]
    omega

theorem U1_bounds {A : AW} {room N : Nat} (h : Inv1 A) (hA : All 1 room N A) : A.D 0 ≤ U1 A.D (A.h 0) ∧ U1 A.D (A.h 0) ≤ room ∧ A.D 1 % 65536 ≤ U1 A.D (A.h 0) := by
  have hdq := hA.dq
  simp [DqOk, TOk] at hdq
  cases hh : A.h 0 with
  | none => have := h.idle hh; simp [U1]; omega
  | some o =>
    have hw := h.ow _ hh
    have hok := (hA.ok _ _ hh).1
    have hok2 := hok.pc (hA.ok _ _ hh).2.1
    simp [Ok1] at hok2
    obtain ⟨a1, a2, a3⟩ := hw
    unfold U1
    simp only
    by_cases hc : o.what = 1 ∧ 2 ≤ o.next
    · rw [if_pos hc]
      have b := a3 hc.1
      have d := hok2.2.1 hc.1
      have h5 := b.2.2.2.2.2.2.1
      have h4 := b.2.2.2.1 hc.2
      have h3 := b.2.2.1 hc.2
      have h2 := d.2.1 (by omega)
      by_cases h6 : 5 ≤ o.next
      · have := h5 h6; omega
      · have := h4 (by omega); omega
    · rw [if_neg hc]
      by_cases hw0 : o.what = 0
      · have := (a2 hw0).1; omega
      · have b := a3 (by omega)
        by_cases hn : o.next = 0
        · have := b.1 hn; omega
        · have := b.2.1 (by omega); omega

theorem U1_congr {D D' : Dq} {ow : Option DOp} (h : D' 0 = D 0) : U1 D' ow = U1 D ow := by
  unfold U1; split <;> simp [h]

theorem own_top {D D' : Dq} {o : DOp} {room : Nat} (h : Own1 D o) (p0 : D' 0 = D 0) (p1 : D' 1 = D 1 + 1) (ps : ∀ i, D' (2 + i) = D (2 + i)) (h0 : 0 ≤ D 1) (h1 : D 1 % 65536 ≤ room) (hr : room ≤ 1000) (hu : D 1 % 65536 < U1 D (some o)) : Own1 D' o := by
  obtain ⟨a1, a2, a3⟩ := h
  unfold U1 at hu
  simp only at hu
  refine ⟨a1, fun hw => ?_, fun hw => ?_⟩
  · obtain ⟨b1, b2, b3⟩ := a2 hw
    rw [if_neg (by omega)] at hu
    rw [p0, p1, ps]
    exact ⟨by omega, b2, b3⟩
  · obtain ⟨b1, b2, b3, b4, b5, b6, b7, b8⟩ := a3 hw
    rw [p0, p1, ps]
    by_cases hn : 2 ≤ o.next
    · rw [if_pos ⟨hw, hn⟩] at hu
      refine ⟨fun h => by omega, fun h => by omega, fun _ => by omega, b4, b5, fun h => ?_, b7, fun h => ?_⟩
      · have := b6 h; omega
      · have := b8 h; omega
    · rw [if_neg (by omega)] at hu
      refine ⟨fun h => by omega, fun h => ⟨(b2 h).1, by omega⟩, fun h => by omega, b4, b5, fun h => by omega, b7, fun h => by omega⟩

theorem k1_2_0 {A : AW} {room N who : Nat} {x e t : Int} (hr : room ≤ 1000) (hwho : who ≠ 0) (h : Inv1 A) (hA : All 1 room N A) (ho : A.h who = some ⟨2, 0, x, e, t, false, 0, 0⟩) : Inv1 (A.stp 1 room who ⟨2, 0, x, e, t, false, 0, 0⟩) := by
  obtain ⟨hth, hid, how, hacc⟩ := id h
  have hdq := hA.dq
  have hok := (hA.ok _ _ ho).1.pc rfl
  simp [DqOk, Ok1, TOk] at hdq hok
  have hw := hth _ _ hwho ho
  simp [Th1] at hw
  have hacc2 := hacc
  unfold Acc1 at hacc2
  have hU := U1_bounds h hA
  have h0 : ∀ o D, (A.fin who o D).h 0 = A.h 0 := fun o D => AW.fin_ne _ _ _ _ (Ne.symm hwho)
  unfold AW.stp
  rw [show DOp.step 1 room A.D ⟨2, 0, x, e, t, false, 0, 0⟩ = (⟨2, 1, x, e, A.D 1, false, 0, 0⟩, A.D) by simp [DOp.step, DOp.step1]]
  show Inv1 (A.fin who ⟨2, 1, x, e, A.D 1, false, 0, 0⟩ A.D)
  refine Inv1.thief_step hwho h (by omega) (fun _ hu => ⟨hu, rfl⟩) ?_ hid how ?_
  · simp [Th1] <;> omega
  · intro n
    have a := hacc2 n
    rw [h0]
    simp only [AW.fin]
    simp [count_one]
    exact a

theorem k1_2_1 {A : AW} {room N who : Nat} {x e t : Int} (hr : room ≤ 1000) (hwho : who ≠ 0) (h : Inv1 A) (hA : All 1 room N A) (ho : A.h who = some ⟨2, 1, x, e, t, false, 0, 0⟩) : Inv1 (A.stp 1 room who ⟨2, 1, x, e, t, false, 0, 0⟩) := by
  obtain ⟨hth, hid, how, hacc⟩ := id h
  have hdq := hA.dq
  have hok := (hA.ok _ _ ho).1.pc rfl
  simp [DqOk, Ok1, TOk] at hdq hok
  have hw := hth _ _ hwho ho
  simp [Th1] at hw
  have hacc2 := hacc
  unfold Acc1 at hacc2
  have hU := U1_bounds h hA
  have h0 : ∀ o D, (A.fin who o D).h 0 = A.h 0 := fun o D => AW.fin_ne _ _ _ _ (Ne.symm hwho)
  unfold AW.stp
  by_cases hE : A.D 0 ≤ t % 65536
  · rw [show DOp.step 1 room A.D ⟨2, 1, x, e, t, false, 0, 0⟩ = (⟨2, 2, x, A.D 0, t, true, 0, 9⟩, A.D) by simp [DOp.step, DOp.step1, hE]]
    show Inv1 (A.fin who ⟨2, 2, x, A.D 0, t, true, 0, 9⟩ A.D)
    refine Inv1.thief_step hwho h (by omega) (fun _ hu => ⟨hu, rfl⟩) ?_ hid how ?_
    · simp [Th1] <;> omega
    · intro n
      have a := hacc2 n
      rw [h0]
      simp only [AW.fin]
      simp [count_one]
      exact a
  · rw [show DOp.step 1 room A.D ⟨2, 1, x, e, t, false, 0, 0⟩ = (⟨2, 2, x, A.D 0, t, false, 0, 0⟩, A.D) by simp [DOp.step, DOp.step1, hE]]
    show Inv1 (A.fin who ⟨2, 2, x, A.D 0, t, false, 0, 0⟩ A.D)
    refine Inv1.thief_step hwho h (by omega) (fun _ hu => ⟨hu, rfl⟩) ?_ hid how ?_
    · simp [Th1] <;> omega
    · intro n
      have a := hacc2 n
      rw [h0]
      simp only [AW.fin]
      simp [count_one]
      exact a

theorem k1_2_2 {A : AW} {room N who : Nat} {x e t : Int} (hr : room ≤ 1000) (hwho : who ≠ 0) (h : Inv1 A) (hA : All 1 room N A) (ho : A.h who = some ⟨2, 2, x, e, t, false, 0, 0⟩) : Inv1 (A.stp 1 room who ⟨2, 2, x, e, t, false, 0, 0⟩) := by
  obtain ⟨hth, hid, how, hacc⟩ := id h
  have hdq := hA.dq
  have hok := (hA.ok _ _ ho).1.pc rfl
  simp [DqOk, Ok1, TOk] at hdq hok
  have hw := hth _ _ hwho ho
  simp [Th1] at hw
  have hacc2 := hacc
  unfold Acc1 at hacc2
  have hU := U1_bounds h hA
  have h0 : ∀ o D, (A.fin who o D).h 0 = A.h 0 := fun o D => AW.fin_ne _ _ _ _ (Ne.symm hwho)
  unfold AW.stp
  rw [show DOp.step 1 room A.D ⟨2, 2, x, e, t, false, 0, 0⟩ = (⟨2, 3, A.D (2 + (t % 65536).toNat), e, t, false, 0, 0⟩, A.D) by simp [DOp.step, DOp.step1]]
  show Inv1 (A.fin who ⟨2, 3, A.D (2 + (t % 65536).toNat), e, t, false, 0, 0⟩ A.D)
  refine Inv1.thief_step hwho h (by omega) (fun _ hu => ⟨hu, rfl⟩) ?_ hid how ?_
  · simp [Th1]; refine ⟨?_, fun h => ?_, fun h => ?_⟩ <;> first | omega | rw [h]
  · intro n
    have a := hacc2 n
    rw [h0]
    simp only [AW.fin]
    simp [count_one]
    exact a

theorem k1_2_3 {A : AW} {room N who : Nat} {x e t : Int} (hr : room ≤ 1000) (hwho : who ≠ 0) (h : Inv1 A) (hA : All 1 room N A) (ho : A.h who = some ⟨2, 3, x, e, t, false, 0, 0⟩) : Inv1 (A.stp 1 room who ⟨2, 3, x, e, t, false, 0, 0⟩) := by
  obtain ⟨hth, hid, how, hacc⟩ := id h
  have hdq := hA.dq
  have hok := (hA.ok _ _ ho).1.pc rfl
  simp [DqOk, Ok1, TOk] at hdq hok
  have hw := hth _ _ hwho ho
  simp [Th1] at hw
  have hacc2 := hacc
  unfold Acc1 at hacc2
  have hU := U1_bounds h hA
  have h0 : ∀ o D, (A.fin who o D).h 0 = A.h 0 := fun o D => AW.fin_ne _ _ _ _ (Ne.symm hwho)
  unfold AW.stp
  by_cases hE : A.D 1 = t
  · have p0 : (A.D.put 1 (t + 1)) 0 = A.D 0 := Dq.put_ne _ _ _ (by omega)
    have p1 : (A.D.put 1 (t + 1)) 1 = t + 1 := Dq.put_self _ _ _
    have ps : ∀ i, (A.D.put 1 (t + 1)) (2 + i) = A.D (2 + i) := fun i => Dq.put_ne _ _ _ (by omega)
    rw [show DOp.step 1 room A.D ⟨2, 3, x, e, t, false, 0, 0⟩ = (⟨2, 4, x, e, t, true, x, 0⟩, (A.D.put 1 (t + 1))) by simp [DOp.step, DOp.step1, hE]]
    show Inv1 (A.fin who ⟨2, 4, x, e, t, true, x, 0⟩ (A.D.put 1 (t + 1)))
    have hU2 : U1 (A.D.put 1 (t + 1)) (A.h 0) = U1 A.D (A.h 0) := U1_congr p0
    refine Inv1.thief_step hwho h (by omega) (fun hx _ => by omega) ?_ ?_ ?_ ?_
    · simp [Th1, p0, p1] <;> omega
    · intro hi; have hu0 := hw.2.1 hE.symm; rw [hi] at hu0; simp only [U1] at hu0; omega
    · intro o ho2; exact own_top (how o ho2) p0 (by rw [p1, hE]) ps hdq.2.2.1 hdq.2.2.2.2 hr (by have hu0 := hw.2.1 hE.symm; rw [ho2] at hu0; exact hu0)
    · intro n
      have a := hacc2 n
      rw [h0]
      simp only [AW.fin]
      simp [count_one, p1, hU2]
      rw [cnt_congr (D := A.D) (fun i _ _ => ps i)]
      have hx := hw.2.2 hE.symm
      have hu := hw.2.1 hE.symm
      obtain ⟨k, hk⟩ : ∃ k, (U1 A.D (A.h 0) - A.D 1 % 65536).toNat = k + 1 := ⟨(U1 A.D (A.h 0) - A.D 1 % 65536).toNat - 1, by omega⟩
      rw [hk, cnt_low, ← hx] at a
      rw [show ((t + 1) % 65536).toNat = (A.D 1 % 65536).toNat + 1 by omega, show (U1 A.D (A.h 0) - (t + 1) % 65536).toNat = k by omega]
      omega
  · rw [show DOp.step 1 room A.D ⟨2, 3, x, e, t, false, 0, 0⟩ = (⟨2, 4, x, e, t, true, 0, 10⟩, A.D) by simp [DOp.step, DOp.step1, hE]]
    show Inv1 (A.fin who ⟨2, 4, x, e, t, true, 0, 10⟩ A.D)
    refine Inv1.thief_step hwho h (by omega) (fun _ hu => ⟨hu, rfl⟩) ?_ hid how ?_
    · simp [Th1] <;> omega
    · intro n
      have a := hacc2 n
      rw [h0]
      simp only [AW.fin]
      simp [count_one]
      exact a

end Go.Proofs.Ytlogmfpnjpamgaa
