/- Layer 9, plain: all kinds: what is so once all is settled. -/
import Derived.Test.YtlogmfpnjpamgaaOnceG
open Go Go.RowKit
namespace Go.Proofs.Ytlogmfpnjpamgaa
set_option linter.unusedVariables false

def Inv (kind room : Nat) (A : AW) : Prop := if kind = 1 then Inv1 A else if kind = 2 then Inv2 A else ∃ val, Inv3 room val A
/-- How many are there. -/
def size (kind : Nat) (A : AW) : Nat := if kind = 1 then (U1 A.D (A.h 0) - A.D 1 % 65536).toNat else if kind = 2 then (cap2 A.D (A.h 0)).toNat else (A.D 0 - B3 A.D (A.h 0)).toNat

theorem Inv.beg {kind room : Nat} {A : AW} (h : Inv kind room A) (who : Nat) (pop : Bool) : Inv kind room (A.beg who pop) := by
  unfold Inv at h ⊢
  split
  · rename_i hk; rw [if_pos hk] at h; exact h.beg who pop
  · rename_i hk
    rw [if_neg hk] at h
    split
    · rename_i hk2; rw [if_pos hk2] at h; exact h.beg who pop
    · rename_i hk2; rw [if_neg hk2] at h; obtain ⟨v, h⟩ := h; exact ⟨v, h.beg who pop⟩

theorem Inv.stp {kind room N who : Nat} {A : AW} {o : DOp} (hk : kind = 1 ∨ kind = 2 ∨ kind = 3) (hr1 : 1 ≤ room) (hr : room ≤ 1000) (h : Inv kind room A) (hA : All kind room N A) (ho : A.h who = some o) : Inv kind room (A.stp kind room who o) := by
  obtain ⟨hok, he, h0, h1⟩ := hA.ok who o ho
  have hp := hok.pc he
  have hz := hok.zero he
  obtain ⟨what, next, x, e, t, ended, result, why⟩ := o
  simp only at he hz h0 h1 hp
  subst he
  obtain ⟨rfl, rfl⟩ := hz
  rcases hk with rfl | rfl | rfl
  · have h : Inv1 A := h
    show Inv1 _
    simp [Ok1] at hp
    by_cases hw : who = 0
    · subst hw
      have h0 := h0 rfl
      rcases (show what = 0 ∨ what = 1 by omega) with rfl | rfl
      · rcases (show next = 0 ∨ next = 1 ∨ next = 2 by omega) with rfl | rfl | rfl
        · exact k1_0_0 hr h hA ho
        · exact k1_0_1 hr h hA ho
        · exact k1_0_2 hr h hA ho
      · rcases (show next = 0 ∨ next = 1 ∨ next = 2 ∨ next = 3 ∨ next = 4 ∨ next = 5 ∨ next = 6 by omega) with rfl | rfl | rfl | rfl | rfl | rfl | rfl
        · exact k1_1_0 hr h hA ho
        · exact k1_1_1 hr h hA ho
        · exact k1_1_2 hr h hA ho
        · exact k1_1_3 hr h hA ho
        · exact k1_1_4 hr h hA ho
        · exact k1_1_5 hr h hA ho
        · exact k1_1_6 hr h hA ho
    · obtain rfl := h1 hw
      rcases (show next = 0 ∨ next = 1 ∨ next = 2 ∨ next = 3 by omega) with rfl | rfl | rfl | rfl
      · exact k1_2_0 hr hw h hA ho
      · exact k1_2_1 hr hw h hA ho
      · exact k1_2_2 hr hw h hA ho
      · exact k1_2_3 hr hw h hA ho
  · have h : Inv2 A := h
    show Inv2 _
    simp [Ok2] at hp
    by_cases hw : who = 0
    · subst hw
      have h0 := h0 rfl
      rcases (show what = 0 ∨ what = 1 by omega) with rfl | rfl
      · rcases (show next = 0 ∨ next = 1 ∨ next = 2 by omega) with rfl | rfl | rfl
        · exact k2_0_0 hr h hA ho
        · exact k2_0_1 hr h hA ho
        · exact k2_0_2 hr h hA ho
      · rcases (show next = 0 ∨ next = 1 ∨ next = 2 by omega) with rfl | rfl | rfl
        · exact k2_1_0 hr h hA ho
        · exact k2_1_1 hr h hA ho
        · exact k2_1_2 hr h hA ho
    · obtain rfl := h1 hw
      rcases (show next = 0 ∨ next = 1 ∨ next = 2 by omega) with rfl | rfl | rfl
      · exact k2_2_0 hr hw h hA ho
      · exact k2_2_1 hr hw h hA ho
      · exact k2_2_2 hr hw h hA ho
  · have h : ∃ val, Inv3 room val A := h
    show ∃ val, Inv3 room val _
    obtain ⟨v, h⟩ := h
    simp [Ok3] at hp
    by_cases hw : who = 0
    · subst hw
      have h0 := h0 rfl
      rcases (show what = 0 ∨ what = 1 by omega) with rfl | rfl
      · rcases (show next = 0 ∨ next = 1 ∨ next = 2 ∨ next = 3 by omega) with rfl | rfl | rfl | rfl
        · exact ⟨v, k3_0_0 h hA ho⟩
        · exact ⟨v, k3_0_1 h hA ho⟩
        · exact ⟨v, k3_0_2 hr1 h hA ho⟩
        · exact k3_0_3 hr1 h hA ho
      · rcases (show next = 0 ∨ next = 1 ∨ next = 2 ∨ next = 3 by omega) with rfl | rfl | rfl | rfl
        · exact ⟨v, k3_1_0 h hA ho⟩
        · exact ⟨v, k3_1_1 h hA ho⟩
        · exact ⟨v, k3_1_2 h hA ho⟩
        · exact ⟨v, k3_1_3 hr1 h hA ho⟩
    · obtain rfl := h1 hw
      rcases (show next = 0 ∨ next = 1 ∨ next = 2 ∨ next = 3 by omega) with rfl | rfl | rfl | rfl
      · exact ⟨v, k3_2_0 hw h hA ho⟩
      · exact ⟨v, k3_2_1 hw h hA ho⟩
      · exact ⟨v, k3_2_2 hw h hA ho⟩
      · exact ⟨v, k3_2_3 hw h hA ho⟩

/-- What a move of the owner's pop comes to. -/
def PopSpec (kind room : Nat) (A : AW) (o : DOp) : Prop :=
  ((o.step kind room A.D).1.ended = false → size kind (A.stp kind room 0 o) = size kind A) ∧
  ((o.step kind room A.D).1.ended = true → ((o.step kind room A.D).1.why = 0 ∧ size kind (A.stp kind room 0 o) + 1 = size kind A) ∨ ((o.step kind room A.D).1.why = 9 ∧ size kind (A.stp kind room 0 o) = 0))

theorem size1 (room : Nat) (A : AW) (o : DOp) : size 1 (A.stp 1 room 0 o) = (U1 (o.step 1 room A.D).2 (if (o.step 1 room A.D).1.ended = true then none else some (o.step 1 room A.D).1) - (o.step 1 room A.D).2 1 % 65536).toNat := by
  show (U1 _ ((A.stp 1 room 0 o).h 0) - _).toNat = _
  unfold AW.stp; rw [AW.fin_h]; rfl
theorem size2 (room : Nat) (A : AW) (o : DOp) : size 2 (A.stp 2 room 0 o) = (cap2 (o.step 2 room A.D).2 (if (o.step 2 room A.D).1.ended = true then none else some (o.step 2 room A.D).1)).toNat := by
  show (cap2 _ ((A.stp 2 room 0 o).h 0)).toNat = _
  unfold AW.stp; rw [AW.fin_h]; rfl
theorem size3 (room : Nat) (A : AW) (o : DOp) : size 3 (A.stp 3 room 0 o) = ((o.step 3 room A.D).2 0 - B3 (o.step 3 room A.D).2 (if (o.step 3 room A.D).1.ended = true then none else some (o.step 3 room A.D).1)).toNat := by
  show (_ - B3 _ ((A.stp 3 room 0 o).h 0)).toNat = _
  unfold AW.stp; rw [AW.fin_h]; rfl

theorem pop1 {room N next : Nat} {A : AW} {x e t : Int} (hr : room ≤ 1000) (h : Inv1 A) (hA : All 1 room N A) (ho : A.h 0 = some ⟨1, next, x, e, t, false, 0, 0⟩) : PopSpec 1 room A ⟨1, next, x, e, t, false, 0, 0⟩ := by
  have hdq := hA.dq
  have hok := (hA.ok _ _ ho).1.pc rfl
  have hw := h.ow _ ho
  simp [DqOk, Ok1, TOk] at hdq hok
  simp [Own1] at hw
  unfold PopSpec
  rw [size1]
  have hs : size 1 A = (U1 A.D (some ⟨1, next, x, e, t, false, 0, 0⟩) - A.D 1 % 65536).toNat := by rw [← ho]; rfl
  rw [hs]
  rcases (show next = 0 ∨ next = 1 ∨ next = 2 ∨ next = 3 ∨ next = 4 ∨ next = 5 ∨ next = 6 by omega) with rfl | rfl | rfl | rfl | rfl | rfl | rfl
  all_goals simp only [DOp.step, DOp.step1, Bool.false_eq_true, if_false, if_true]
  all_goals (try split)
  all_goals simp [U1, Dq.put] at *
  all_goals omega

theorem pop2 {room N next : Nat} {A : AW} {x e t : Int} (hr : room ≤ 1000) (h : Inv2 A) (hA : All 2 room N A) (ho : A.h 0 = some ⟨1, next, x, e, t, false, 0, 0⟩) : PopSpec 2 room A ⟨1, next, x, e, t, false, 0, 0⟩ := by
  have hdq := hA.dq
  have hok := (hA.ok _ _ ho).1.pc rfl
  have hw := (h.ow _ ho).1
  simp [DqOk, Ok2, TOk] at hdq hok
  simp [Own2] at hw
  unfold PopSpec
  rw [size2]
  have hs : size 2 A = (cap2 A.D (some ⟨1, next, x, e, t, false, 0, 0⟩)).toNat := by rw [← ho]; rfl
  rw [hs]
  rcases (show next = 0 ∨ next = 1 ∨ next = 2 by omega) with rfl | rfl | rfl
  all_goals simp only [DOp.step, DOp.step2, Bool.false_eq_true, if_false, if_true, if_neg (show ¬ 2 = 1 by decide)]
  all_goals (try split)
  all_goals simp [cap2, Dq.put] at *
  all_goals omega

theorem pop3 {room N next : Nat} {A : AW} {val : Nat → Int} {x e t : Int} (hr : room ≤ 1000) (h : Inv3 room val A) (hA : All 3 room N A) (ho : A.h 0 = some ⟨1, next, x, e, t, false, 0, 0⟩) : PopSpec 3 room A ⟨1, next, x, e, t, false, 0, 0⟩ := by
  have hdq := hA.dq
  have hok := (hA.ok _ _ ho).1.pc rfl
  have hw := (h.ow _ ho).1
  have hbd := h.bd
  rw [ho] at hbd
  simp [DqOk, Ok3] at hdq hok
  simp [Own3] at hw
  simp [B3] at hbd
  unfold PopSpec
  rw [size3]
  have hs : size 3 A = (A.D 0 - B3 A.D (some ⟨1, next, x, e, t, false, 0, 0⟩)).toNat := by rw [← ho]; rfl
  rw [hs]
  rcases (show next = 0 ∨ next = 1 ∨ next = 2 ∨ next = 3 by omega) with rfl | rfl | rfl | rfl
  all_goals simp only [DOp.step, DOp.step3, Bool.false_eq_true, if_false, if_true, if_neg (show ¬ 3 = 1 by decide), if_neg (show ¬ 3 = 2 by decide)]
  all_goals (try split)
  all_goals simp [B3, Dq.put] at *
  all_goals omega

theorem pop_spec {kind room N : Nat} {A : AW} {o : DOp} (hk : kind = 1 ∨ kind = 2 ∨ kind = 3) (hr : room ≤ 1000) (h : Inv kind room A) (hA : All kind room N A) (ho : A.h 0 = some o) (hw : o.what = 1) : PopSpec kind room A o := by
  obtain ⟨hok, he, h0, h1⟩ := hA.ok 0 o ho
  have hz := hok.zero he
  obtain ⟨what, next, x, e, t, ended, result, why⟩ := o
  simp only at he hz hw
  subst he
  subst hw
  obtain ⟨rfl, rfl⟩ := hz
  rcases hk with rfl | rfl | rfl
  · exact pop1 hr h hA ho
  · exact pop2 hr h hA ho
  · obtain ⟨v, h⟩ : ∃ val, Inv3 room val A := h
    exact pop3 hr h hA ho

/-- Each move that does not end goes on. -/
theorem step_next {kind room N : Nat} {D : Dq} {o : DOp} (hk : kind = 1 ∨ kind = 2 ∨ kind = 3) (ho : o.Ok kind room N) (he : o.ended = false) : o.next ≤ 6 ∧ o.next + 1 ≤ (o.step kind room D).1.next := by
  have hp := ho.pc he
  have hw := ho.what
  obtain ⟨what, next, x, e, t, ended, result, why⟩ := o
  simp only at he hp hw
  subst he
  rcases hk with rfl | rfl | rfl
  · simp [Ok1] at hp
    refine ⟨by simp only; omega, ?_⟩
    simp only [DOp.step, DOp.step1, Bool.false_eq_true, if_false, if_true]
    rcases three_cases hw with rfl | rfl | rfl
    · rcases (show next = 0 ∨ next = 1 ∨ next = 2 by omega) with rfl | rfl | rfl
      all_goals simp only
      all_goals (try split)
      all_goals simp
    · rcases (show next = 0 ∨ next = 1 ∨ next = 2 ∨ next = 3 ∨ next = 4 ∨ next = 5 ∨ next = 6 by omega) with rfl | rfl | rfl | rfl | rfl | rfl | rfl
      all_goals simp only
      all_goals (try split)
      all_goals simp
    · rcases (show next = 0 ∨ next = 1 ∨ next = 2 ∨ next = 3 by omega) with rfl | rfl | rfl | rfl
      all_goals simp only
      all_goals (try split)
      all_goals simp
  · simp [Ok2] at hp
    refine ⟨by simp only; omega, ?_⟩
    simp only [DOp.step, DOp.step2, Bool.false_eq_true, if_false, if_true, if_neg (show ¬ 2 = 1 by decide)]
    rcases three_cases hw with rfl | rfl | rfl
    all_goals rcases (show next = 0 ∨ next = 1 ∨ next = 2 by omega) with rfl | rfl | rfl
    all_goals simp only
    all_goals (try split)
    all_goals simp
  · simp [Ok3] at hp
    refine ⟨by simp only; omega, ?_⟩
    simp only [DOp.step, DOp.step3, Bool.false_eq_true, if_false, if_true, if_neg (show ¬ 3 = 1 by decide), if_neg (show ¬ 3 = 2 by decide)]
    rcases three_cases hw with rfl | rfl | rfl
    all_goals rcases (show next = 0 ∨ next = 1 ∨ next = 2 ∨ next = 3 by omega) with rfl | rfl | rfl | rfl
    all_goals simp only
    all_goals (try split)
    all_goals simp

theorem size_le {kind room N : Nat} {A : AW} (hk : kind = 1 ∨ kind = 2 ∨ kind = 3) (h : Inv kind room A) (hA : All kind room N A) : size kind A ≤ room := by
  rcases hk with rfl | rfl | rfl
  · have := U1_bounds h hA
    have hdq := hA.dq
    simp [DqOk, TOk] at hdq
    show (U1 A.D (A.h 0) - A.D 1 % 65536).toNat ≤ room
    omega
  · have hdq := hA.dq
    simp [DqOk, TOk] at hdq
    show (cap2 A.D (A.h 0)).toNat ≤ room
    cases hh : A.h 0 with
    | none => show (A.D 1 % 65536).toNat ≤ room; omega
    | some o =>
      have hok := (hA.ok _ _ hh).1.pc (hA.ok _ _ hh).2.1
      simp [Ok2, TOk] at hok
      show (if 1 ≤ o.next then o.t % 65536 else A.D 1 % 65536).toNat ≤ room
      split
      · have := hok.2.1 (by omega); omega
      · omega
  · obtain ⟨v, h⟩ : ∃ val, Inv3 room val A := h
    have := h.bd
    show (A.D 0 - B3 A.D (A.h 0)).toNat ≤ room
    omega

/-- What is so once all is settled. -/
structure Final (kind : Nat) (A : AW) : Prop where
  hd : ∀ n, n ∈ A.handed → 1 ≤ n ∧ n ≤ A.pushed ∧ n ∉ A.full
  fl : A.full.Nodup ∧ ∀ n, n ∈ A.full → 1 ≤ n ∧ n ≤ A.pushed
  cov : ∀ n : Int, 1 ≤ n → n ≤ A.pushed → n ∈ A.handed ∨ n ∈ A.full
  one : kind = 1 → A.handed.Nodup

theorem final {kind room N : Nat} {A : AW} (hk : kind = 1 ∨ kind = 2 ∨ kind = 3) (h : Inv kind room A) (hA : All kind room N A) (h0 : A.h 0 = none) (hs : size kind A = 0) : Final kind A := by
  rcases hk with rfl | rfl | rfl
  · have h : Inv1 A := h
    have hs : (U1 A.D (A.h 0) - A.D 1 % 65536).toNat = 0 := hs
    have key : ∀ n : Int, A.handed.count n + A.full.count n = if 1 ≤ n ∧ n ≤ A.pushed then 1 else 0 := by
      intro n
      have a := h.acc n
      rw [hs, cnt, h0] at a
      have e0 : ip (none : Option DOp) = none := rfl
      rw [e0, if_neg (show ¬ ((none : Option Int) = some n) by simp)] at a
      omega
    have hle : ∀ n, A.handed.count n ≤ 1 ∧ A.full.count n ≤ 1 := by
      intro n
      have := key n
      split at this <;> omega
    refine ⟨fun n hn => ?_, ⟨List.nodup_iff_count.2 (fun n => (hle n).2), fun n hn => ?_⟩, fun n n1 n2 => ?_, fun _ => List.nodup_iff_count.2 (fun n => (hle n).1)⟩
    · have a := key n
      have b := List.count_pos_iff.2 hn
      by_cases hc : 1 ≤ n ∧ n ≤ A.pushed
      · rw [if_pos hc] at a
        exact ⟨hc.1, hc.2, fun hf => by have := List.count_pos_iff.2 hf; omega⟩
      · rw [if_neg hc] at a; omega
    · have a := key n
      have b := List.count_pos_iff.2 hn
      by_cases hc : 1 ≤ n ∧ n ≤ A.pushed
      · exact hc
      · rw [if_neg hc] at a; omega
    · have a := key n
      rw [if_pos ⟨n1, n2⟩] at a
      by_cases hc : 0 < A.handed.count n
      · exact .inl (List.count_pos_iff.1 hc)
      · exact .inr (List.count_pos_iff.1 (by omega))
  · have h : Inv2 A := h
    have hs : (cap2 A.D (A.h 0)).toNat = 0 := hs
    rw [h0] at hs
    have hs : (A.D 1 % 65536).toNat = 0 := hs
    refine ⟨fun n hn => ⟨(h.hd n hn).1, (h.hd n hn).2.1, (h.hd n hn).2.2.1⟩, h.fl, fun n n1 n2 => ?_, fun h => by omega⟩
    rcases h.cov n n1 n2 with a | a | a | ⟨i, i1, i2⟩
    · exact .inl a
    · exact .inr a
    · rw [h0] at a; simp [ip] at a
    · omega
  · obtain ⟨v, h⟩ : ∃ val, Inv3 room val A := h
    have hs : (A.D 0 - B3 A.D (A.h 0)).toNat = 0 := hs
    rw [h0] at hs
    have hs : (A.D 0 - A.D 1).toNat = 0 := hs
    refine ⟨fun n hn => ⟨(h.hd n hn).1, (h.hd n hn).2.1, (h.hd n hn).2.2.1⟩, h.fl, fun n n1 n2 => ?_, fun h => by omega⟩
    rcases h.cov n n1 n2 with a | a | a | ⟨i, i1, i2⟩
    · exact .inl a
    · exact .inr a
    · rw [h0] at a; simp [ip] at a
    · exact .inl (i2 ▸ h.vh i (by omega))

def AW.zero : AW := ⟨fun _ => 0, fun _ => none, 0, [], []⟩
theorem Inv.zero {kind room : Nat} (hk : kind = 1 ∨ kind = 2 ∨ kind = 3) : Inv kind room AW.zero := by
  rcases hk with rfl | rfl | rfl
  · show Inv1 AW.zero
    refine ⟨fun i o _ h => (by cases h), fun _ => by simp [AW.zero], fun o h => (by cases h), fun n => ?_⟩
    have e : ¬ (1 ≤ n ∧ n ≤ (AW.zero.pushed : Nat)) := by show ¬ (1 ≤ n ∧ n ≤ ((0 : Nat) : Int)); omega
    rw [if_neg e]
    simp [AW.zero, U1, ip, cnt]
  · show Inv2 AW.zero
    refine ⟨fun i o _ h => (by cases h), fun o h => (by cases h), fun i hi => ?_, fun i => .inl rfl, fun n hn => (by cases hn), ⟨List.nodup_nil, fun n hn => (by cases hn)⟩, fun n n1 n2 => ?_⟩
    · simp [AW.zero, cap2] at hi; omega
    · simp [AW.zero] at n2; omega
  · refine ⟨fun _ => 0, ?_⟩
    refine ⟨fun i o _ h => (by cases h), fun o h => (by cases h), by simp [AW.zero, B3], fun i i1 i2 => ?_, fun i hi => ?_, fun i hi => ?_, fun i => .inl rfl, fun n hn => (by cases hn), ⟨List.nodup_nil, fun n hn => (by cases hn)⟩, fun n n1 n2 => ?_⟩
    · simp [AW.zero] at i2; omega
    · simp [AW.zero] at hi; omega
    · simp [AW.zero] at hi; omega
    · simp [AW.zero] at n2; omega
theorem All.zero {kind room : Nat} : All kind room 0 AW.zero := by
  refine ⟨?_, fun i o h => by cases h⟩
  unfold DqOk TOk AW.zero
  split
  · simp only; omega
  · split <;> (simp only; omega)

end Go.Proofs.Ytlogmfpnjpamgaa
