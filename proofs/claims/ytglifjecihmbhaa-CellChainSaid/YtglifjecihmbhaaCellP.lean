/- Layer 13, plain: what one does who moves alone, so many times: the filler in four moves, a waiter in three. -/
import Derived.Test.YtglifjecihmbhaaCellO
open Go Go.RowKit
namespace Go.Proofs.Ytglifjecihmbhaa

/-- So many moves of k. -/
def its (k : Nat) : Nat → ACell × (Nat → AOp) → ACell × (Nat → AOp)
  | 0, s => s
  | i + 1, s => ((its k i s).1.go (its k i s).2 k, opsGo (its k i s).1 (its k i s).2 k)

theorem its_ops (k : Nat) (C : ACell) (A : Nat → AOp) (i : Nat) : ∀ y, y ≠ k → (its k i (C, A)).2 y = A y := by
  induction i with
  | zero => intro y _; rfl
  | succ i ih => intro y hy; show opsGo _ _ k y = _; rw [opsGo, if_neg hy]; exact ih y hy
theorem its_k (k : Nat) (C : ACell) (A : Nat → AOp) (i : Nat) : ((its k (i + 1) (C, A)).1, (its k (i + 1) (C, A)).2 k) = AOp.step (its k i (C, A)).1 ((its k i (C, A)).2 k) := by
  show (((its k i (C, A)).2 k).step (its k i (C, A)).1 |>.1, opsGo _ _ k k) = _
  rw [opsGo, if_pos rfl]
theorem its_next {k : Nat} {C C1 C2 : ACell} {A : Nat → AOp} {i : Nat} {s1 s2 : AOp} (h : (its k i (C, A)).1 = C1 ∧ (its k i (C, A)).2 k = s1) (e : s1.step C1 = (C2, s2)) :
    (its k (i + 1) (C, A)).1 = C2 ∧ (its k (i + 1) (C, A)).2 k = s2 := by
  have := its_k k C A i
  rw [h.1, h.2, e] at this
  exact ⟨congrArg Prod.fst this, congrArg Prod.snd this⟩

theorem fill4 (value why : Int) (C : ACell) (A : Nat → AOp) (h0 : A 0 = A0 value why 0) (hH : C.H ≠ -1) :
    (its 0 4 (C, A)).1 = ⟨-1, value, why, C.L⟩ ∧ (its 0 4 (C, A)).2 0 = ⟨0, 4, C.H, value, why, true, false, C.H⟩ := by
  have e0 : (its 0 0 (C, A)).1 = C ∧ (its 0 0 (C, A)).2 0 = ⟨0, 0, 0, value, why, false, false, 0⟩ := ⟨rfl, h0⟩
  have e1 := its_next e0 (C2 := ⟨C.H, value, C.Y, C.L⟩) (s2 := ⟨0, 1, 0, value, why, false, false, 0⟩) rfl
  have e2 := its_next e1 (C2 := ⟨C.H, value, why, C.L⟩) (s2 := ⟨0, 2, 0, value, why, false, false, 0⟩) rfl
  have e3 := its_next e2 (C2 := ⟨C.H, value, why, C.L⟩) (s2 := ⟨0, 3, C.H, value, why, false, false, 0⟩) rfl
  exact its_next e3 (by simp [AOp.step])

theorem wait3 (value why : Int) (C : ACell) (A : Nat → AOp) (k : Nat) (hk : 1 ≤ k) (h0 : A k = A0 value why k) (hH : C.H ≠ -1) :
    (its k 3 (C, A)).1 = ⟨k, C.V, C.Y, C.L.set k C.H⟩ ∧ (its k 3 (C, A)).2 k = ⟨k, 3, C.H, 0, 0, true, true, 0⟩ := by
  have hkp : 0 < k := by omega
  have e0 : (its k 0 (C, A)).1 = C ∧ (its k 0 (C, A)).2 k = ⟨k, 0, 0, 0, 0, false, false, 0⟩ := ⟨rfl, h0.trans (A0_own _ _ _ hk)⟩
  have e1 := its_next e0 (C2 := C) (s2 := ⟨k, 1, C.H, 0, 0, false, false, 0⟩) (by simp [AOp.step, hH, hkp])
  have e2 := its_next e1 (C2 := ⟨C.H, C.V, C.Y, C.L.set k C.H⟩) (s2 := ⟨k, 2, C.H, 0, 0, false, false, 0⟩) (by simp [AOp.step, hkp])
  exact its_next e2 (by simp [AOp.step, hkp])

theorem told3 (value why : Int) (C : ACell) (A : Nat → AOp) (k : Nat) (hk : 1 ≤ k) (h0 : A k = A0 value why k) (hH : C.H = -1) :
    (its k 3 (C, A)).1 = C ∧ (its k 3 (C, A)).2 k = ⟨k, 5, -1, C.V, C.Y, true, false, 0⟩ := by
  have hkp : 0 < k := by omega
  have e0 : (its k 0 (C, A)).1 = C ∧ (its k 0 (C, A)).2 k = ⟨k, 0, 0, 0, 0, false, false, 0⟩ := ⟨rfl, h0.trans (A0_own _ _ _ hk)⟩
  have e1 := its_next e0 (C2 := C) (s2 := ⟨k, 3, -1, 0, 0, false, false, 0⟩) (by simp [AOp.step, hH, hkp])
  have e2 := its_next e1 (C2 := C) (s2 := ⟨k, 4, -1, C.V, 0, false, false, 0⟩) (by simp [AOp.step, hkp])
  exact its_next e2 (by simp [AOp.step, hkp])

/-- Ahead of x's turn, where n are ahead of the filler: who waits, who was told, the rest as they were. -/
structure Alone (value why : Int) (n x : Nat) (filled : Prop) (C : ACell) (A : Nat → AOp) : Prop where
  waits : ∀ y, 1 ≤ y → y < x → y ≤ n → (A y).ended = true ∧ (A y).waits = true
  told : ∀ y, y < x → n < y → (A y).ended = true ∧ (A y).waits = false ∧ (A y).value = value ∧ (A y).why = why
  rest : ∀ y, x ≤ y → A y = A0 value why y
  fill : (filled → C.H = -1 ∧ C.V = value ∧ C.Y = why ∧ (A 0).ended = true ∧ (A 0).waits = false ∧ (A 0).first = n) ∧ (¬ filled → C.H + 1 = x ∧ A 0 = A0 value why 0)

theorem Alone.congr {value why : Int} {n x : Nat} {p q : Prop} {C : ACell} {A : Nat → AOp} (h : Alone value why n x p C A) (e : p ↔ q) : Alone value why n x q C A := (propext e) ▸ h
theorem Alone.start (value why : Int) (n : Nat) : Alone value why n 1 False C0 (A0 value why) :=
  ⟨fun y h1 h2 => by omega, fun y h1 h2 => by omega, fun y _ => rfl, fun h => h.elim, fun _ => ⟨rfl, rfl⟩⟩
theorem Alone.full {value why : Int} {n : Nat} {C : ACell} {A : Nat → AOp} (h : Alone value why n (n + 1) False C A) :
    Alone value why n (n + 1) True (its 0 4 (C, A)).1 (its 0 4 (C, A)).2 := by
  obtain ⟨h1, h2, h3, -, h4⟩ := h
  obtain ⟨e1, e2⟩ := h4 (fun h => h)
  have hH : C.H ≠ -1 := by omega
  obtain ⟨f1, f2⟩ := fill4 value why C A e2 hH
  have hn := its_ops 0 C A 4
  refine ⟨fun y a b c => by rw [hn y (by omega)]; exact h1 y a b c, fun y a b => by omega, fun y a => by rw [hn y (by omega)]; exact h3 y a, fun _ => ?_, fun h => absurd trivial h⟩
  rw [f1, f2]
  exact ⟨rfl, rfl, rfl, rfl, rfl, by show C.H = _; omega⟩
theorem Alone.wait {value why : Int} {n x : Nat} {C : ACell} {A : Nat → AOp} (h : Alone value why n x False C A) (hx : 1 ≤ x) (hn : x ≤ n) :
    Alone value why n (x + 1) False (its x 3 (C, A)).1 (its x 3 (C, A)).2 := by
  obtain ⟨h1, h2, h3, -, h4⟩ := h
  obtain ⟨e1, e2⟩ := h4 (fun h => h)
  obtain ⟨f1, f2⟩ := wait3 value why C A x hx (h3 x (by omega)) (by omega)
  have hi := its_ops x C A 3
  refine ⟨fun y a b c => ?_, fun y a b => by omega, fun y a => by rw [hi y (by omega)]; exact h3 y (by omega), fun h => h.elim, fun _ => ?_⟩
  · by_cases e : y = x
    · subst e; rw [f2]; exact ⟨rfl, rfl⟩
    · rw [hi y e]; exact h1 y a (by omega) c
  · rw [f1, hi 0 (by omega)]
    exact ⟨by show (x : Int) + 1 = _; omega, e2⟩
theorem Alone.tell {value why : Int} {n x : Nat} {C : ACell} {A : Nat → AOp} (h : Alone value why n x True C A) (hx : 1 ≤ x) (hn : n < x) :
    Alone value why n (x + 1) True (its x 3 (C, A)).1 (its x 3 (C, A)).2 := by
  obtain ⟨h1, h2, h3, h4, -⟩ := h
  obtain ⟨e1, e2, e3, e4, e5, e6⟩ := h4 trivial
  obtain ⟨f1, f2⟩ := told3 value why C A x hx (h3 x (by omega)) e1
  have hi := its_ops x C A 3
  refine ⟨fun y a b c => by rw [hi y (by omega)]; exact h1 y a (by omega) c, fun y a b => ?_, fun y a => by rw [hi y (by omega)]; exact h3 y (by omega), fun _ => ?_, fun h => absurd trivial h⟩
  · by_cases e : y = x
    · subst e; rw [f2]; exact ⟨rfl, rfl, e2, e3⟩
    · rw [hi y e]; exact h2 y (by omega) b
  · rw [f1, hi 0 (by omega)]
    exact ⟨e1, e2, e3, e4, e5, e6⟩

end Go.Proofs.Ytglifjecihmbhaa
