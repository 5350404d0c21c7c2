/- Layer 9: an operation that runs alone: what it tells and what is there behind it; plain. -/
import Derived.Test.YtlogmfpnjpamgaaDeqQ
open Go Go.RowKit
namespace Go.Proofs.Ytlogmfpnjpamgaa

section
variable {room : Nat} {D : Dq} {x : Int}

theorem run1_push_full (h : D 0 = room) : (DOp.new 0 x).runN 1 room 20 D = (⟨0, 1, x, D 0, 0, true, 0, 8⟩, D) := by
  simp [DOp.runN, DOp.step, DOp.step1, DOp.new, h]
theorem run1_push (h : D 0 ≠ room) : (DOp.new 0 x).runN 1 room 20 D = (⟨0, 3, x, D 0, 0, true, 0, 0⟩, (D.put (2 + (D 0).toNat) x).put 0 (D 0 + 1)) := by
  simp [DOp.runN, DOp.step, DOp.step1, DOp.new, h]
theorem run1_pop_zero (h : D 0 = 0) : (DOp.new 1 0).runN 1 room 20 D = (⟨1, 1, 0, D 0, 0, true, 0, 9⟩, D) := by
  simp [DOp.runN, DOp.step, DOp.step1, DOp.new, h]
theorem run1_pop (h : 1 ≤ D 0) (h1 : D 1 % 65536 < D 0 - 1) : (DOp.new 1 0).runN 1 room 20 D = (⟨1, 4, D (2 + (D 0 - 1).toNat), D 0, D 1, true, D (2 + (D 0 - 1).toNat), 0⟩, D.put 0 (D 0 - 1)) := by
  have h0 : D 0 ≠ 0 := by omega
  have e1 : (D.put 0 (D 0 - 1)) (2 + (D 0 - 1).toNat) = D (2 + (D 0 - 1).toNat) := Dq.put_ne _ _ _ (by omega)
  have e2 : (D.put 0 (D 0 - 1)) 1 = D 1 := Dq.put_ne _ _ _ (by omega)
  simp only [DOp.runN, DOp.step, DOp.step1, DOp.new, h0, h1, e1, e2, if_true, if_false, Bool.false_eq_true]
theorem run1_pop_one (h : 1 ≤ D 0) (h1 : D 0 - 1 = D 1 % 65536) : (DOp.new 1 0).runN 1 room 20 D = (⟨1, 6, D (2 + (D 0 - 1).toNat), D 0, D 1, true, D (2 + (D 0 - 1).toNat), 0⟩, ((D.put 0 (D 0 - 1)).put 0 0).put 1 (65536 * (D 1 / 65536 + 1))) := by
  have h0 : D 0 ≠ 0 := by omega
  have h2 : ¬ D 1 % 65536 < D 0 - 1 := by omega
  have e1 : (D.put 0 (D 0 - 1)) (2 + (D 0 - 1).toNat) = D (2 + (D 0 - 1).toNat) := Dq.put_ne _ _ _ (by omega)
  have e2 : (D.put 0 (D 0 - 1)) 1 = D 1 := Dq.put_ne _ _ _ (by omega)
  have e3 : ((D.put 0 (D 0 - 1)).put 0 0) 1 = D 1 := by rw [Dq.put_ne _ _ _ (by omega)]; exact e2
  simp only [DOp.runN, DOp.step, DOp.step1, DOp.new, h0, h2, h1.symm, e1, e2, e3, if_true, if_false, Bool.false_eq_true, Int.lt_irrefl]
theorem run1_pop_none (h : 1 ≤ D 0) (h1 : D 0 - 1 < D 1 % 65536) : (DOp.new 1 0).runN 1 room 20 D = (⟨1, 7, D (2 + (D 0 - 1).toNat), D 0, D 1, true, 0, 9⟩, ((D.put 0 (D 0 - 1)).put 0 0).put 1 (65536 * (D 1 / 65536 + 1))) := by
  have h0 : D 0 ≠ 0 := by omega
  have h2 : ¬ D 1 % 65536 < D 0 - 1 := by omega
  have h3 : ¬ D 0 - 1 = D 1 % 65536 := by omega
  have e1 : (D.put 0 (D 0 - 1)) (2 + (D 0 - 1).toNat) = D (2 + (D 0 - 1).toNat) := Dq.put_ne _ _ _ (by omega)
  have e2 : (D.put 0 (D 0 - 1)) 1 = D 1 := Dq.put_ne _ _ _ (by omega)
  simp only [DOp.runN, DOp.step, DOp.step1, DOp.new, h0, h2, h3, e1, e2, if_true, if_false, Bool.false_eq_true]
theorem run1_steal_none (h : D 0 ≤ D 1 % 65536) : (DOp.new 2 0).runN 1 room 20 D = (⟨2, 2, 0, D 0, D 1, true, 0, 9⟩, D) := by
  simp [DOp.runN, DOp.step, DOp.step1, DOp.new, h]
theorem run1_steal (h : D 1 % 65536 < D 0) : (DOp.new 2 0).runN 1 room 20 D = (⟨2, 4, D (2 + (D 1 % 65536).toNat), D 0, D 1, true, D (2 + (D 1 % 65536).toNat), 0⟩, D.put 1 (D 1 + 1)) := by
  have h0 : ¬ D 0 ≤ D 1 % 65536 := by omega
  simp [DOp.runN, DOp.step, DOp.step1, DOp.new, h0]

theorem run2_push_full (h : D 1 % 65536 = room) : (DOp.new 0 x).runN 2 room 20 D = (⟨0, 1, x, 0, D 1, true, 0, 8⟩, D) := by
  simp [DOp.runN, DOp.step, DOp.step2, DOp.new, h]
theorem run2_push (h : D 1 % 65536 ≠ room) : (DOp.new 0 x).runN 2 room 20 D = (⟨0, 3, x, 0, D 1, true, 0, 0⟩, (D.put (2 + (D 1 % 65536).toNat) x).put 1 (D 1 + 65536 + 1)) := by
  simp [DOp.runN, DOp.step, DOp.step2, DOp.new, h]
theorem run2_pop_none (h : D 1 % 65536 = 0) : (DOp.new 1 0).runN 2 room 20 D = (⟨1, 1, 0, 0, D 1, true, 0, 9⟩, D) := by
  simp [DOp.runN, DOp.step, DOp.step2, DOp.new, h]
theorem run2_pop (h : D 1 % 65536 ≠ 0) : (DOp.new 1 0).runN 2 room 20 D = (⟨1, 3, D (2 + (D 1 % 65536 - 1).toNat), 0, D 1, true, D (2 + (D 1 % 65536 - 1).toNat), 0⟩, D.put 1 (D 1 - 1)) := by
  simp [DOp.runN, DOp.step, DOp.step2, DOp.new, h]
theorem run2_steal_none (h : D 1 % 65536 = 0) : (DOp.new 2 0).runN 2 room 20 D = (⟨2, 1, 0, 0, D 1, true, 0, 9⟩, D) := by
  simp [DOp.runN, DOp.step, DOp.step2, DOp.new, h]
theorem run2_steal (h : D 1 % 65536 ≠ 0) : (DOp.new 2 0).runN 2 room 20 D = (⟨2, 3, D (2 + (D 1 % 65536 - 1).toNat), 0, D 1, true, D (2 + (D 1 % 65536 - 1).toNat), 0⟩, D.put 1 (D 1 - 1)) := by
  simp [DOp.runN, DOp.step, DOp.step2, DOp.new, h]

theorem run3_push_full (h : (room : Int) ≤ D 0 - D 1) : (DOp.new 0 x).runN 3 room 20 D = (⟨0, 2, x, D 0, D 1, true, 0, 8⟩, D) := by
  simp [DOp.runN, DOp.step, DOp.step3, DOp.new, h]
theorem run3_push (h : ¬ (room : Int) ≤ D 0 - D 1) : (DOp.new 0 x).runN 3 room 20 D = (⟨0, 4, x, D 0, D 1, true, 0, 0⟩, (D.put (2 + (D 0).toNat % room) x).put 0 (D 0 + 1)) := by
  simp [DOp.runN, DOp.step, DOp.step3, DOp.new, h]
theorem run3_pop_none (h : D 0 ≤ D 1) : (DOp.new 1 0).runN 3 room 20 D = (⟨1, 2, 0, D 0, D 1, true, 0, 9⟩, D) := by
  simp [DOp.runN, DOp.step, DOp.step3, DOp.new, h]
theorem run3_pop (h : ¬ D 0 ≤ D 1) : (DOp.new 1 0).runN 3 room 20 D = (⟨1, 4, D (2 + (D 1).toNat % room), D 0, D 1, true, D (2 + (D 1).toNat % room), 0⟩, D.put 1 (D 1 + 1)) := by
  simp [DOp.runN, DOp.step, DOp.step3, DOp.new, h]
theorem run3_steal_none (h : D 0 ≤ D 1) : (DOp.new 2 0).runN 3 room 20 D = (⟨2, 2, 0, D 0, D 1, true, 0, 9⟩, D) := by
  simp [DOp.runN, DOp.step, DOp.step3, DOp.new, h]
theorem run3_steal (h : ¬ D 0 ≤ D 1) : (DOp.new 2 0).runN 3 room 20 D = (⟨2, 4, D (2 + (D 1).toNat % room), D 0, D 1, true, D (2 + (D 1).toNat % room), 0⟩, D.put 1 (D 1 + 1)) := by
  simp [DOp.runN, DOp.step, DOp.step3, DOp.new, h]
end

/-- Kind 1, alone: what is there, the first one first; used: how many slots are taken. -/
def Rep1 (room : Nat) (l : List Int) (used : Nat) (D : Dq) : Prop :=
  ∃ top : Nat, D 1 % 65536 = top ∧ 0 ≤ D 1 ∧ D 0 = used ∧ used = top + l.length ∧ used ≤ room ∧ ∀ i, i < l.length → D (2 + (top + i)) = l.getD i 0
def Rep2 (room : Nat) (l : List Int) (D : Dq) : Prop :=
  D 1 % 65536 = l.length ∧ 0 ≤ D 1 ∧ l.length ≤ room ∧ ∀ i, i < l.length → D (2 + i) = l.getD i 0
def Rep3 (room : Nat) (l : List Int) (D : Dq) : Prop :=
  ∃ h : Nat, D 1 = h ∧ D 0 = ((h + l.length : Nat) : Int) ∧ l.length ≤ room ∧ ∀ i, i < l.length → D (2 + (h + i) % room) = l.getD i 0
def Rep (kind room : Nat) (l : List Int) (used : Nat) (D : Dq) : Prop := if kind = 1 then Rep1 room l used D else if kind = 2 then Rep2 room l D else Rep3 room l D

/-- What an operation tells. -/
def DOp.tells (o : DOp) : Value := .tuple #[.int .i64 (if o.ended = true then o.result else 0), .int .i64 (if o.ended = true then o.why else 11)]
theorem prog_tells (kind base room : Nat) (o : DOp) : (o.prog kind base room).tells = o.tells := rfl

/-- What running an operation alone comes to. -/
def Runs (kind room : Nat) (D : Dq) (what : Nat) (x : Int) (res why : Int) (l' : List Int) (used' : Nat) : Prop :=
  ((DOp.new what x).runN kind room 20 D).1.tells = .tuple #[.int .i64 res, .int .i64 why] ∧ Rep kind room l' used' ((DOp.new what x).runN kind room 20 D).2

theorem getD_append_lt {l : List Int} {x : Int} {i : Nat} (h : i < l.length) : (l ++ [x]).getD i 0 = l.getD i 0 := by
  simp [List.getD_eq_getElem?_getD, List.getElem?_append_left h]
theorem getD_append_eq {l : List Int} {x : Int} : (l ++ [x]).getD l.length 0 = x := by
  simp [List.getD_eq_getElem?_getD]
theorem getD_dropLast {l : List Int} {i : Nat} (h : i < l.length - 1) : l.dropLast.getD i 0 = l.getD i 0 := by
  rw [List.getD_eq_getElem?_getD, List.getD_eq_getElem?_getD, List.getElem?_dropLast, if_pos h]
theorem getD_tail {l : List Int} {i : Nat} : l.tail.getD i 0 = l.getD (i + 1) 0 := by
  simp [List.getD_eq_getElem?_getD]
theorem mod_ne {room h i j : Nat} (hi : i < j) (hj : j < i + room) : (h + i) % room ≠ (h + j) % room := by
  intro e
  have h1 := Nat.div_add_mod (h + i) room
  have h2 := Nat.div_add_mod (h + j) room
  rw [e] at h1
  have h3 : room * ((h + j) / room) = room * ((h + i) / room) + (j - i) := by omega
  have h4 : (h + i) / room ≤ (h + j) / room := Nat.div_le_div_right (by omega)
  have h5 : (h + j) / room ≠ (h + i) / room := by intro e; rw [e] at h3; omega
  have h6 : room * ((h + i) / room + 1) ≤ room * ((h + j) / room) := Nat.mul_le_mul_left _ (by omega)
  rw [Nat.mul_add, Nat.mul_one] at h6
  omega

end Go.Proofs.Ytlogmfpnjpamgaa
