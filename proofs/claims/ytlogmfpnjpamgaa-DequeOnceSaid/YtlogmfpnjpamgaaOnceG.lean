/- Layer 9, plain: kind 3, move by move. -/
import Derived.Test.YtlogmfpnjpamgaaOnceF
open Go Go.RowKit
namespace Go.Proofs.Ytlogmfpnjpamgaa
set_option linter.unusedVariables false

section
variable {A : AW} {room N who : Nat} {val : Nat → Int} {x e t : Int}

theorem B3_le (h : Inv3 room val A) : B3 A.D (A.h 0) ≤ A.D 1 := by
  cases hh : A.h 0 with
  | none => exact Int.le_refl _
  | some q =>
    have := (h.ow q hh).1.2.1
    show (if 1 ≤ q.next then q.t else A.D 1) ≤ A.D 1
    split
    · rename_i hn; exact (this hn).2
    · exact Int.le_refl _

/-- A load of the owner's: nothing has turned. -/
theorem own3_load {o o' : DOp} (h : Inv3 room val A) (ho : A.h 0 = some o) (w1 : o'.what = o.what) (w2 : o'.ended = false) (wx : o.what = 0 → o'.x = o.x) (wn : o.what = 0 → o'.next ≤ 2) (wm : o.what = 0 → o.next ≤ 2)
    (hB : B3 A.D (some o') = B3 A.D (some o)) (hown : Own3 room A.D o') : Inv3 room val (A.fin 0 o' A.D) := by
  have hf : (A.fin 0 o' A.D).full = A.full := by simp [AW.fin, w2]
  have hh : (A.fin 0 o' A.D).handed = A.handed := by simp [AW.fin, w2]
  have hp : Push A o := (h.ow o ho).2
  have hi : (if o'.ended = true then none else some o') = some o' := by rw [w2]; rfl
  have hip : ip (some o') = ip (some o) := by
    show (if o'.what = 0 then some o'.x else none) = if o.what = 0 then some o.x else none
    rw [w1]
    by_cases h0 : o.what = 0
    · rw [if_pos h0, if_pos h0, wx h0]
    · rw [if_neg h0, if_neg h0]
  have hst : ∀ n, St 2 A n → St 2 (A.fin 0 o' A.D) n := by
    rintro n ⟨a, b, c, d⟩
    refine ⟨a, b, by rw [hf]; exact c, ?_⟩
    rw [AW.fin_h, hi]
    rw [ho] at d
    by_cases h0 : o.what = 0
    · have h1 : pre 2 (some o') = some o'.x := by simp [pre, w1, h0, wn h0]
      rw [h1, wx h0]
      intro hx
      apply d
      have : pre 2 (some o) = some o.x := by simp [pre, h0, wm h0]
      rw [this]; exact hx
    · have h1 : pre 2 (some o') = none := by simp [pre, w1, h0]
      rw [h1]; simp
  refine Inv3.own_step h ho (Int.le_refl _) (by rw [hi, hB, ho]; exact Int.le_refl _) (fun _ _ => rfl) hst (fun _ => ⟨hown, fun h0 => by rw [hf, wx (w1 ▸ h0)]; exact hp (w1 ▸ h0)⟩) (by rw [hi, hB, ← ho]; exact h.bd) (by rw [hi, hB, ← ho]; exact h.vs) (by rw [hh]; exact h.vh) h.nz (fun i => (h.st i).imp id (hst _)) (fun n hn => hst n (h.hd n (hh ▸ hn))) (by rw [hf]; exact h.fl) (by rw [hh, hf, hi, hip, ← ho]; exact h.cov)

theorem dq3 (hA : All 3 room N A) : 0 ≤ A.D 0 ∧ 0 ≤ A.D 1 := by
  have := hA.dq; simp [DqOk] at this; omega

/-- The owner's operation ends, and nothing has turned. -/
theorem own3_none {o o' : DOp} (h : Inv3 room val A) (ho : A.h 0 = some o) (w1 : o.what = 1) (w2 : o'.ended = true) (w3 : o'.why = 9) (hB : A.D 1 ≤ B3 A.D (some o) ∨ A.D 0 ≤ B3 A.D (some o)) : Inv3 room val (A.fin 0 o' A.D) := by
  have hf : (A.fin 0 o' A.D).full = A.full := by simp [AW.fin, w3]
  have hh : (A.fin 0 o' A.D).handed = A.handed := by simp [AW.fin, w3]
  have hi : (if o'.ended = true then none else some o') = none := by rw [w2]; rfl
  have hst : ∀ n, St 2 A n → St 2 (A.fin 0 o' A.D) n := by
    rintro n ⟨a, b, c, d⟩
    exact ⟨a, b, by rw [hf]; exact c, by rw [AW.fin_h, hi]; simp [pre]⟩
  have hbd := h.bd
  have hle := B3_le h
  rw [ho] at hbd hle
  have hb0 : B3 A.D none = A.D 1 := rfl
  refine Inv3.own_step h ho (Int.le_refl _) (by rw [hi, ho, hb0]; exact hle) (fun _ _ => rfl) hst (fun hx => by rw [w2] at hx; cases hx) (by rw [hi, hb0]; omega) (fun i i1 i2 => by rw [hi, hb0] at i1; exact h.vs i (by rw [ho]; omega) i2) (by rw [hh]; exact h.vh) h.nz (fun i => (h.st i).imp id (hst _)) (fun n hn => hst n (h.hd n (hh ▸ hn))) (by rw [hf]; exact h.fl) (fun n n1 n2 => ?_)
  rw [hh, hf, hi]
  rcases h.cov n n1 n2 with a | a | a | a
  · exact .inl a
  · exact .inr (.inl a)
  · rw [ho] at a; simp [ip, w1] at a
  · exact .inr (.inr (.inr a))

theorem k3_0_0 (h : Inv3 room val A) (hA : All 3 room N A) (ho : A.h 0 = some ⟨0, 0, x, e, t, false, 0, 0⟩) : Inv3 room val (A.stp 3 room 0 ⟨0, 0, x, e, t, false, 0, 0⟩) := by
  have hdq := dq3 hA
  unfold AW.stp
  rw [show DOp.step 3 room A.D ⟨0, 0, x, e, t, false, 0, 0⟩ = (⟨0, 1, x, e, A.D 1, false, 0, 0⟩, A.D) by simp [DOp.step, DOp.step3]]
  exact own3_load h ho rfl rfl (fun _ => rfl) (fun _ => by simp) (fun _ => by simp) rfl ⟨by simp, fun _ => ⟨hdq.2, Int.le_refl _⟩, by simp, by simp, by simp, by simp, by simp⟩

theorem k3_1_0 (h : Inv3 room val A) (hA : All 3 room N A) (ho : A.h 0 = some ⟨1, 0, x, e, t, false, 0, 0⟩) : Inv3 room val (A.stp 3 room 0 ⟨1, 0, x, e, t, false, 0, 0⟩) := by
  have hdq := dq3 hA
  unfold AW.stp
  rw [show DOp.step 3 room A.D ⟨1, 0, x, e, t, false, 0, 0⟩ = (⟨1, 1, x, e, A.D 1, false, 0, 0⟩, A.D) by simp [DOp.step, DOp.step3]]
  exact own3_load h ho rfl rfl (fun h => by simp at h) (fun h => by simp at h) (fun h => by simp at h) rfl ⟨by simp, fun _ => ⟨hdq.2, Int.le_refl _⟩, by simp, by simp, by simp, by simp, by simp⟩

theorem k3_1_1 (h : Inv3 room val A) (hA : All 3 room N A) (ho : A.h 0 = some ⟨1, 1, x, e, t, false, 0, 0⟩) : Inv3 room val (A.stp 3 room 0 ⟨1, 1, x, e, t, false, 0, 0⟩) := by
  have hw2 := (h.ow _ ho).1.2.1 (by simp)
  simp only at hw2
  unfold AW.stp
  by_cases hE : A.D 0 ≤ t
  · rw [show DOp.step 3 room A.D ⟨1, 1, x, e, t, false, 0, 0⟩ = (⟨1, 2, x, A.D 0, t, true, 0, 9⟩, A.D) by simp [DOp.step, DOp.step3, hE]]
    exact own3_none h ho rfl rfl rfl (.inr hE)
  · rw [show DOp.step 3 room A.D ⟨1, 1, x, e, t, false, 0, 0⟩ = (⟨1, 2, x, A.D 0, t, false, 0, 0⟩, A.D) by simp [DOp.step, DOp.step3, hE]]
    exact own3_load h ho rfl rfl (fun h => by simp at h) (fun h => by simp at h) (fun h => by simp at h) rfl ⟨by simp, fun _ => hw2, fun _ => rfl, by simp, by simp, fun _ _ => by show t < A.D 0; omega, by simp⟩

theorem k3_1_2 (h : Inv3 room val A) (hA : All 3 room N A) (ho : A.h 0 = some ⟨1, 2, x, e, t, false, 0, 0⟩) : Inv3 room val (A.stp 3 room 0 ⟨1, 2, x, e, t, false, 0, 0⟩) := by
  obtain ⟨a1, a2, a3, a4, a5, a6, a7⟩ := (h.ow _ ho).1
  unfold AW.stp
  rw [show DOp.step 3 room A.D ⟨1, 2, x, e, t, false, 0, 0⟩ = (⟨1, 3, A.D (2 + t.toNat % room), e, t, false, 0, 0⟩, A.D) by simp [DOp.step, DOp.step3]]
  exact own3_load h ho rfl rfl (fun h => by simp at h) (fun h => by simp at h) (fun h => by simp at h) rfl ⟨by simp, fun _ => a2 (by simp), fun _ => a3 (by simp), by simp, by simp, fun _ _ => a6 rfl (by simp), fun _ _ => rfl⟩

theorem k3_0_1 (h : Inv3 room val A) (hA : All 3 room N A) (ho : A.h 0 = some ⟨0, 1, x, e, t, false, 0, 0⟩) : Inv3 room val (A.stp 3 room 0 ⟨0, 1, x, e, t, false, 0, 0⟩) := by
  have hw2 := (h.ow _ ho).1.2.1 (by simp)
  have hp := (h.ow _ ho).2 rfl
  simp only at hw2 hp
  unfold AW.stp
  by_cases hE : (room : Int) ≤ A.D 0 - t
  · rw [show DOp.step 3 room A.D ⟨0, 1, x, e, t, false, 0, 0⟩ = (⟨0, 2, x, A.D 0, t, true, 0, 8⟩, A.D) by simp [DOp.step, DOp.step3, hE]]
    show Inv3 room val (A.fin 0 ⟨0, 2, x, A.D 0, t, true, 0, 8⟩ A.D)
    have hpre : pre 2 (A.h 0) = some x := by rw [ho]; rfl
    have hf : (A.fin 0 ⟨0, 2, x, A.D 0, t, true, 0, 8⟩ A.D).full = A.full ++ [x] := by simp [AW.fin]
    have hh : (A.fin 0 ⟨0, 2, x, A.D 0, t, true, 0, 8⟩ A.D).handed = A.handed := by simp [AW.fin]
    have hst : ∀ n, St 2 A n → St 2 (A.fin 0 ⟨0, 2, x, A.D 0, t, true, 0, 8⟩ A.D) n := by
      rintro n ⟨a, b, c, d⟩
      rw [hpre] at d
      refine ⟨a, b, ?_, by rw [AW.fin_h]; simp [pre]⟩
      rw [hf]; simp; exact ⟨c, fun e => d (by rw [e])⟩
    have hbd := h.bd
    have hle := B3_le h
    rw [ho] at hbd hle
    have hb0 : B3 A.D none = A.D 1 := rfl
    refine Inv3.own_step h ho (Int.le_refl _) (by rw [ho]; exact hle) (fun _ _ => rfl) hst (fun h => by cases h) (by show 0 ≤ A.D 1 ∧ A.D 1 ≤ A.D 0 ∧ A.D 0 - A.D 1 ≤ room; omega) (fun i i1 i2 => h.vs i (by rw [ho]; have i1 : A.D 1 ≤ (i : Int) := i1; omega) i2) (by rw [hh]; exact h.vh) h.nz (fun i => (h.st i).imp id (hst _)) (fun n hn => hst n (h.hd n (hh ▸ hn))) ⟨?_, fun n hn => ?_⟩ (fun n n1 n2 => ?_)
    · rw [hf]; refine List.nodup_append.2 ⟨h.fl.1, by simp, ?_⟩
      intro a ha b hb; simp at hb; subst hb; intro e; subst e; exact hp.2.2 ha
    · rw [hf] at hn; simp at hn
      rcases hn with hn | hn
      · exact h.fl.2 n hn
      · subst hn; exact ⟨hp.1, hp.2.1⟩
    · rw [hh, hf]
      rcases h.cov n n1 n2 with a | a | a | a
      · exact .inl a
      · exact .inr (.inl (by simp [a]))
      · rw [ho] at a; simp [ip] at a; exact .inr (.inl (by simp [a]))
      · exact .inr (.inr (.inr a))
  · rw [show DOp.step 3 room A.D ⟨0, 1, x, e, t, false, 0, 0⟩ = (⟨0, 2, x, A.D 0, t, false, 0, 0⟩, A.D) by simp [DOp.step, DOp.step3, hE]]
    exact own3_load h ho rfl rfl (fun _ => rfl) (fun _ => by simp) (fun _ => by simp) rfl ⟨by simp, fun _ => hw2, fun _ => rfl, fun _ _ => by show A.D 0 - t < room; omega, by simp, by simp, by simp⟩

theorem k3_0_2 (hr : 1 ≤ room) (h : Inv3 room val A) (hA : All 3 room N A) (ho : A.h 0 = some ⟨0, 2, x, e, t, false, 0, 0⟩) : Inv3 room val (A.stp 3 room 0 ⟨0, 2, x, e, t, false, 0, 0⟩) := by
  have hdq := dq3 hA
  obtain ⟨⟨a1, a2, a3, a4, a5, a6, a7⟩, hp⟩ := h.ow _ ho
  have hp := hp rfl
  have a2 := a2 (by simp)
  have a3 := a3 (by simp)
  have a4 := a4 rfl (by simp)
  simp only at a2 a3 a4 hp
  have hB : B3 A.D (A.h 0) = t := by rw [ho]; rfl
  unfold AW.stp
  obtain ⟨D', hD⟩ : ∃ D', D' = A.D.put (2 + e.toNat % room) x := ⟨_, rfl⟩
  have p0 : D' 0 = A.D 0 := by rw [hD]; exact Dq.put_ne _ _ _ (by omega)
  have p1 : D' 1 = A.D 1 := by rw [hD]; exact Dq.put_ne _ _ _ (by omega)
  have ps : ∀ i, i ≠ e.toNat % room → D' (2 + i) = A.D (2 + i) := fun i hi => by rw [hD]; exact Dq.put_ne _ _ _ (by omega)
  have pss : D' (2 + e.toNat % room) = x := by rw [hD]; exact Dq.put_self _ _ _
  rw [show DOp.step 3 room A.D ⟨0, 2, x, e, t, false, 0, 0⟩ = (⟨0, 3, x, e, t, false, 0, 0⟩, D') by rw [hD]; simp [DOp.step, DOp.step3]]
  show Inv3 room val (A.fin 0 ⟨0, 3, x, e, t, false, 0, 0⟩ D')
  have hf : (A.fin 0 ⟨0, 3, x, e, t, false, 0, 0⟩ D').full = A.full := by simp [AW.fin]
  have hh : (A.fin 0 ⟨0, 3, x, e, t, false, 0, 0⟩ D').handed = A.handed := by simp [AW.fin]
  have hst : ∀ n, St 2 A n → St 2 (A.fin 0 ⟨0, 3, x, e, t, false, 0, 0⟩ D') n := by
    rintro n ⟨a, b, c, d⟩
    exact ⟨a, b, by rw [hf]; exact c, by rw [AW.fin_h]; simp [pre]⟩
  have hx : St 2 (A.fin 0 ⟨0, 3, x, e, t, false, 0, 0⟩ D') x := ⟨hp.1, hp.2.1, by rw [hf]; exact hp.2.2, by rw [AW.fin_h]; simp [pre]⟩
  have hbd := h.bd
  rw [hB] at hbd
  refine Inv3.own_step h ho (by rw [p0]; exact Int.le_refl _) (by rw [hB]; exact Int.le_refl _) (fun _ _ => rfl) hst (fun _ => ⟨⟨by simp, fun _ => by rw [p1]; exact a2, fun _ => by rw [p0]; exact a3, fun _ _ => by rw [p0]; exact a4, fun _ _ => by rw [p0, ← a3]; exact pss, by simp, by simp⟩, fun _ => by rw [hf]; exact hp⟩) (by rw [p0, p1]; exact hbd) (fun i i1 i2 => ?_) (fun i hi => by rw [hh]; rw [p1] at hi; exact h.vh i hi) (fun i hi => ?_) (fun i => ?_) (fun n hn => hst n (h.hd n (hh ▸ hn))) (by rw [hf]; exact h.fl) (fun n n1 n2 => ?_)
  · have i1 : t ≤ (i : Int) := i1
    rw [p0] at i2
    have hne := mod_ne (h := 0) (room := room) (i := i) (j := e.toNat) (by omega) (by omega)
    simp only [Nat.zero_add] at hne
    rw [ps _ hne]
    exact h.vs i (by rw [hB]; exact i1) i2
  · rw [p0] at hi
    by_cases ei : i % room = e.toNat % room
    · rw [ei, pss]; omega
    · rw [ps _ ei]; exact h.nz i hi
  · by_cases ei : i = e.toNat % room
    · rw [ei, pss]; exact .inr hx
    · rw [ps i ei]; exact (h.st i).imp id (hst _)
  · rw [hh, hf, p0]
    have := h.cov n n1 n2
    rw [ho] at this
    exact this

theorem k3_0_3 (hr : 1 ≤ room) (h : Inv3 room val A) (hA : All 3 room N A) (ho : A.h 0 = some ⟨0, 3, x, e, t, false, 0, 0⟩) : ∃ val', Inv3 room val' (A.stp 3 room 0 ⟨0, 3, x, e, t, false, 0, 0⟩) := by
  have hdq := dq3 hA
  obtain ⟨⟨a1, a2, a3, a4, a5, a6, a7⟩, hp⟩ := h.ow _ ho
  have hp := hp rfl
  have a2 := a2 (by simp)
  have a3 := a3 (by simp)
  have a4 := a4 rfl (by simp)
  have a5 := a5 rfl (by simp)
  simp only at a2 a3 a4 a5 hp
  have hB : B3 A.D (A.h 0) = t := by rw [ho]; rfl
  unfold AW.stp
  obtain ⟨D', hD⟩ : ∃ D', D' = A.D.put 0 (e + 1) := ⟨_, rfl⟩
  have p0 : D' 0 = e + 1 := by rw [hD]; exact Dq.put_self _ _ _
  have p1 : D' 1 = A.D 1 := by rw [hD]; exact Dq.put_ne _ _ _ (by omega)
  have ps : ∀ i, D' (2 + i) = A.D (2 + i) := fun i => by rw [hD]; exact Dq.put_ne _ _ _ (by omega)
  rw [show DOp.step 3 room A.D ⟨0, 3, x, e, t, false, 0, 0⟩ = (⟨0, 4, x, e, t, true, 0, 0⟩, D') by rw [hD]; simp [DOp.step, DOp.step3]]
  have hf : (A.fin 0 ⟨0, 4, x, e, t, true, 0, 0⟩ D').full = A.full := by simp [AW.fin]
  have hh : (A.fin 0 ⟨0, 4, x, e, t, true, 0, 0⟩ D').handed = A.handed := by simp [AW.fin]
  have hst : ∀ n, St 2 A n → St 2 (A.fin 0 ⟨0, 4, x, e, t, true, 0, 0⟩ D') n := by
    rintro n ⟨a, b, c, d⟩
    exact ⟨a, b, by rw [hf]; exact c, by rw [AW.fin_h]; simp [pre]⟩
  have hbd := h.bd
  rw [hB] at hbd
  obtain ⟨k, hk⟩ : ∃ k : Nat, A.D 0 = k := ⟨(A.D 0).toNat, by omega⟩
  have hkn : (A.D 0).toNat = k := by omega
  rw [hkn] at a5
  obtain ⟨V, hV⟩ : ∃ V : Nat → Int, V = fun i => if i = k then x else val i := ⟨_, rfl⟩
  have hv : ∀ i : Nat, i ≠ k → V i = val i := fun i hi => by rw [hV]; exact if_neg hi
  have hvk : V k = x := by rw [hV]; exact if_pos rfl
  refine ⟨V, ?_⟩
  show Inv3 room V (A.fin 0 ⟨0, 4, x, e, t, true, 0, 0⟩ D')
  refine Inv3.own_step h ho (by rw [p0, a3]; omega) (by rw [hB]; show t ≤ D' 1; rw [p1]; exact a2.2) (fun i hi => hv i (by omega)) hst (fun hx => by cases hx) (by show 0 ≤ D' 1 ∧ D' 1 ≤ D' 0 ∧ D' 0 - D' 1 ≤ room; omega) (fun i i1 i2 => ?_) (fun i hi => ?_) (fun i hi => ?_) (fun i => by rw [ps]; exact (h.st i).imp id (hst _)) (fun n hn => hst n (h.hd n (hh ▸ hn))) (by rw [hf]; exact h.fl) (fun n n1 n2 => ?_)
  · have i1 : D' 1 ≤ (i : Int) := i1
    rw [ps]
    by_cases ei : i = k
    · rw [ei, hvk]; exact a5
    · rw [hv i ei]; exact h.vs i (by rw [hB]; omega) (by omega)
  · rw [hh, hv i (by omega)]; rw [p1] at hi; exact h.vh i hi
  · rw [ps]
    by_cases ei : i = k
    · rw [ei, a5]; omega
    · exact h.nz i (by omega)
  · rw [hh, hf]
    rcases h.cov n n1 n2 with a | a | a | ⟨i, i1, i2⟩
    · exact .inl a
    · exact .inr (.inl a)
    · rw [ho] at a; simp [ip] at a
      exact .inr (.inr (.inr ⟨k, by omega, by rw [hvk]; exact a⟩))
    · exact .inr (.inr (.inr ⟨i, by omega, by rw [hv i (by omega)]; exact i2⟩))

theorem k3_1_3 (hr : 1 ≤ room) (h : Inv3 room val A) (hA : All 3 room N A) (ho : A.h 0 = some ⟨1, 3, x, e, t, false, 0, 0⟩) : Inv3 room val (A.stp 3 room 0 ⟨1, 3, x, e, t, false, 0, 0⟩) := by
  have hdq := dq3 hA
  obtain ⟨⟨a1, a2, a3, a4, a5, a6, a7⟩, hp⟩ := h.ow _ ho
  have a2 := a2 (by simp)
  have a6 := a6 rfl (by simp)
  have a7 := a7 rfl (by simp)
  simp only at a2 a6 a7
  have hB : B3 A.D (A.h 0) = t := by rw [ho]; rfl
  unfold AW.stp
  obtain ⟨D', hD⟩ : ∃ D', D' = A.D.put 1 (t + 1) := ⟨_, rfl⟩
  have p0 : D' 0 = A.D 0 := by rw [hD]; exact Dq.put_ne _ _ _ (by omega)
  have p1 : D' 1 = t + 1 := by rw [hD]; exact Dq.put_self _ _ _
  have ps : ∀ i, D' (2 + i) = A.D (2 + i) := fun i => by rw [hD]; exact Dq.put_ne _ _ _ (by omega)
  rw [show DOp.step 3 room A.D ⟨1, 3, x, e, t, false, 0, 0⟩ = (⟨1, 4, x, e, t, true, x, 0⟩, D') by rw [hD]; simp [DOp.step, DOp.step3]]
  show Inv3 room val (A.fin 0 ⟨1, 4, x, e, t, true, x, 0⟩ D')
  have hf : (A.fin 0 ⟨1, 4, x, e, t, true, x, 0⟩ D').full = A.full := by simp [AW.fin]
  have hh : (A.fin 0 ⟨1, 4, x, e, t, true, x, 0⟩ D').handed = A.handed ++ [x] := by simp [AW.fin]
  have hst : ∀ n, St 2 A n → St 2 (A.fin 0 ⟨1, 4, x, e, t, true, x, 0⟩ D') n := by
    rintro n ⟨a, b, c, d⟩
    exact ⟨a, b, by rw [hf]; exact c, by rw [AW.fin_h]; simp [pre]⟩
  have hx : St 2 A x := by
    rw [a7]
    rcases h.st (t.toNat % room) with a | a
    · exact absurd a (h.nz t.toNat (by omega))
    · exact a
  have hxv : x = val t.toNat := by rw [a7]; exact h.vs t.toNat (by rw [hB]; omega) (by omega)
  have hbd := h.bd
  rw [hB] at hbd
  refine Inv3.own_step h ho (by rw [p0]; exact Int.le_refl _) (by rw [hB]; show t ≤ D' 1; omega) (fun _ _ => rfl) hst (fun hx => by cases hx) (by show 0 ≤ D' 1 ∧ D' 1 ≤ D' 0 ∧ D' 0 - D' 1 ≤ room; omega) (fun i i1 i2 => ?_) (fun i hi => ?_) (fun i hi => by rw [ps]; rw [p0] at hi; exact h.nz i hi) (fun i => by rw [ps]; exact (h.st i).imp id (hst _)) (fun n hn => ?_) (by rw [hf]; exact h.fl) (fun n n1 n2 => ?_)
  · have i1 : D' 1 ≤ (i : Int) := i1
    rw [ps]; exact h.vs i (by rw [hB]; omega) (by omega)
  · rw [hh]
    by_cases ei : i = t.toNat
    · rw [ei, ← hxv]; simp
    · have := h.vh i (by omega)
      simp [this]
  · rw [hh] at hn; simp at hn
    rcases hn with hn | hn
    · exact hst n (h.hd n hn)
    · subst hn; exact hst _ hx
  · rw [hh, hf, p0]
    rcases h.cov n n1 n2 with a | a | a | ⟨i, i1, i2⟩
    · exact .inl (by simp [a])
    · exact .inr (.inl a)
    · rw [ho] at a; simp [ip] at a
    · exact .inr (.inr (.inr ⟨i, i1, i2⟩))

/-- A load of a thief's. -/
theorem th3_load {o' : DOp} (hwho : who ≠ 0) (h : Inv3 room val A) (w3 : o'.ended = true → o'.why = 9 ∨ o'.why = 10) (hth : o'.ended = false → Th3 room val A o') : Inv3 room val (A.fin who o' A.D) := by
  have hf : (A.fin who o' A.D).full = A.full := by
    simp only [AW.fin]; rw [if_neg]; rintro ⟨a, b⟩; have := w3 a; omega
  have hh : (A.fin who o' A.D).handed = A.handed := by
    simp only [AW.fin]; rw [if_neg]; rintro ⟨a, b, c⟩; have := w3 a; omega
  exact Inv3.thief_step hwho h rfl (Int.le_refl _) h.bd.2.1 (fun _ => rfl) hf (fun he => ⟨hth he, rfl⟩) (fun n hn => .inl (hh ▸ hn)) (fun n hn => by rw [hh]; exact hn) (fun i h1 h2 => by have h2 : (i : Int) < A.D 1 := h2; omega)

theorem k3_2_0 (hwho : who ≠ 0) (h : Inv3 room val A) (hA : All 3 room N A) (ho : A.h who = some ⟨2, 0, x, e, t, false, 0, 0⟩) : Inv3 room val (A.stp 3 room who ⟨2, 0, x, e, t, false, 0, 0⟩) := by
  have hdq := dq3 hA
  unfold AW.stp
  rw [show DOp.step 3 room A.D ⟨2, 0, x, e, t, false, 0, 0⟩ = (⟨2, 1, x, e, A.D 1, false, 0, 0⟩, A.D) by simp [DOp.step, DOp.step3]]
  exact th3_load hwho h (fun h => by cases h) (fun _ => ⟨rfl, fun _ => hdq.2, by simp, by simp⟩)

theorem k3_2_1 (hwho : who ≠ 0) (h : Inv3 room val A) (hA : All 3 room N A) (ho : A.h who = some ⟨2, 1, x, e, t, false, 0, 0⟩) : Inv3 room val (A.stp 3 room who ⟨2, 1, x, e, t, false, 0, 0⟩) := by
  have b := (h.th _ _ hwho ho).2.1 (by simp)
  unfold AW.stp
  by_cases hE : A.D 0 ≤ t
  · rw [show DOp.step 3 room A.D ⟨2, 1, x, e, t, false, 0, 0⟩ = (⟨2, 2, x, A.D 0, t, true, 0, 9⟩, A.D) by simp [DOp.step, DOp.step3, hE]]
    exact th3_load hwho h (fun _ => .inl rfl) (fun h => by cases h)
  · rw [show DOp.step 3 room A.D ⟨2, 1, x, e, t, false, 0, 0⟩ = (⟨2, 2, x, A.D 0, t, false, 0, 0⟩, A.D) by simp [DOp.step, DOp.step3, hE]]
    exact th3_load hwho h (fun h => by cases h) (fun _ => ⟨rfl, fun _ => b, fun _ => by show t < A.D 0; omega, by simp⟩)

theorem k3_2_2 (hwho : who ≠ 0) (h : Inv3 room val A) (hA : All 3 room N A) (ho : A.h who = some ⟨2, 2, x, e, t, false, 0, 0⟩) : Inv3 room val (A.stp 3 room who ⟨2, 2, x, e, t, false, 0, 0⟩) := by
  obtain ⟨a, b, c, d⟩ := h.th _ _ hwho ho
  have b := b (by simp)
  have c := c (by simp)
  simp only at b c
  unfold AW.stp
  rw [show DOp.step 3 room A.D ⟨2, 2, x, e, t, false, 0, 0⟩ = (⟨2, 3, A.D (2 + t.toNat % room), e, t, false, 0, 0⟩, A.D) by simp [DOp.step, DOp.step3]]
  refine th3_load hwho h (fun h => by cases h) (fun _ => ⟨rfl, fun _ => b, fun _ => c, fun _ => ⟨?_, fun hb => ?_⟩⟩)
  · rcases h.st (t.toNat % room) with a | a
    · exact absurd a (h.nz t.toNat (by omega))
    · exact a
  · have hb : B3 A.D (A.h 0) ≤ t := hb
    exact h.vs t.toNat (by omega) (by omega)

theorem k3_2_3 (hwho : who ≠ 0) (h : Inv3 room val A) (hA : All 3 room N A) (ho : A.h who = some ⟨2, 3, x, e, t, false, 0, 0⟩) : Inv3 room val (A.stp 3 room who ⟨2, 3, x, e, t, false, 0, 0⟩) := by
  obtain ⟨a, b, c, d⟩ := h.th _ _ hwho ho
  have b := b (by simp)
  have c := c (by simp)
  have d := d (by simp)
  simp only at b c d
  have hle := B3_le h
  unfold AW.stp
  by_cases hE : A.D 1 = t
  · obtain ⟨D', hD⟩ : ∃ D', D' = A.D.put 1 (t + 1) := ⟨_, rfl⟩
    have p0 : D' 0 = A.D 0 := by rw [hD]; exact Dq.put_ne _ _ _ (by omega)
    have p1 : D' 1 = t + 1 := by rw [hD]; exact Dq.put_self _ _ _
    have ps : ∀ i, D' (2 + i) = A.D (2 + i) := fun i => by rw [hD]; exact Dq.put_ne _ _ _ (by omega)
    rw [show DOp.step 3 room A.D ⟨2, 3, x, e, t, false, 0, 0⟩ = (⟨2, 4, x, e, t, true, x, 0⟩, D') by rw [hD]; simp [DOp.step, DOp.step3, hE]]
    have hx := d.2 (by rw [← hE]; exact hle)
    refine Inv3.thief_step hwho h p0 (by show A.D 1 ≤ D' 1; omega) (by show D' 1 ≤ A.D 0; omega) ps (by simp [AW.fin]) (fun hx => by cases hx) (fun n hn => ?_) (fun n hn => by simp [AW.fin, hn]) (fun i h1 h2 => ?_)
    · simp [AW.fin] at hn
      rcases hn with hn | hn
      · exact .inl hn
      · subst hn; exact .inr d.1
    · have h2 : (i : Int) < D' 1 := h2
      have : i = t.toNat := by omega
      rw [this, ← hx]
      simp [AW.fin]
  · rw [show DOp.step 3 room A.D ⟨2, 3, x, e, t, false, 0, 0⟩ = (⟨2, 4, x, e, t, true, 0, 10⟩, A.D) by simp [DOp.step, DOp.step3, hE]]
    exact th3_load hwho h (fun _ => .inr rfl) (fun h => by cases h)
end

end Go.Proofs.Ytlogmfpnjpamgaa
