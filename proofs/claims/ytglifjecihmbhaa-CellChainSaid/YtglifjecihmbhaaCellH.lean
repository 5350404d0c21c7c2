/- Layer 13: a move of the program and the document's move come to the same. -/
import Derived.Test.YtglifjecihmbhaaCellG
open Go Go.RowKit
namespace Go.Proofs.Ytglifjecihmbhaa

def AOp.good (k : Nat) (s : AOp) : Prop := s.x = k ∧ k ≤ 5 ∧ (s.ended = false → s.waits = false ∧ (k = 0 → s.pc ≤ 3) ∧ (1 ≤ k → s.pc ≤ 4)) ∧ (1 ≤ k → (s.pc ≤ 3 → s.value = 0) ∧ (s.pc ≤ 4 → s.why = 0) ∧ (s.waits = true → s.pc ≤ 3))

theorem rmove_ended (L : Lay) (o : Nat) (C : ACell) (s : AOp) (w : World) (h : HasRef w L o C s) (he : s.ended = true) :
    Calls Try.prog 19 #[.pointer (some ⟨L.v, 2, none⟩), .pointer (some ⟨o, 0, none⟩)] w (RPost w L o C s) := by
  have c5 := h.op.cell 5
  simp [AOp.cells] at c5
  rw [he] at c5
  have HH := Lib.hid h
  clear h he
  go_enter Try.func19, Try.ntmps19
  go_wp2_with fail
  exact bodyPost_ret (v := .tuple #[]) (results_none rfl _ _ _) rfl ⟨rfl, HH.out, Only.refl _ _⟩

theorem rmove_any (L : Lay) (o : Nat) (C : ACell) (s : AOp) (k : Nat) (w : World) (h : HasRef w L o C s) (hg : s.good k) :
    Calls Try.prog 19 #[.pointer (some ⟨L.v, 2, none⟩), .pointer (some ⟨o, 0, none⟩)] w (RPost w L o (s.step C).1 (s.step C).2) := by
  by_cases he : s.ended = true
  · have e : s.step C = (C, s) := by rw [AOp.step, if_pos he]
    rw [e]
    exact rmove_ended L o C s w h he
  · obtain ⟨x, pc, h0, value, why, ended, waits, first⟩ := s
    have hf : ended = false := eq_false_of_ne_true he
    subst hf
    obtain ⟨hx, hk5, hu, -⟩ := hg
    obtain ⟨hw, hf, hwt⟩ := hu rfl
    simp only at hx hw hf hwt
    subst hw; subst hx
    by_cases hk : k = 0
    · subst hk
      have hp := hf rfl
      rcases (show pc = 0 ∨ pc = 1 ∨ pc = 2 ∨ pc = 3 by omega) with rfl | rfl | rfl | rfl
      · exact rmove_f0 L o C h0 value why first w h
      · exact rmove_f1 L o C h0 value why first w h
      · exact rmove_f2 L o C h0 value why first w h
      · by_cases hE : C.H = h0
        · have e : AOp.step C { x := ((0 : Nat) : Int), pc := 3, h := h0, value, why, ended := false, waits := false, first } = ({ C with H := -1 }, { x := 0, pc := 4, h := h0, value, why, ended := true, waits := false, first := h0 }) := by
            simp [AOp.step, hE]
          rw [e]
          exact rmove_f3a L o C h0 value why first w hE h
        · have e : AOp.step C { x := ((0 : Nat) : Int), pc := 3, h := h0, value, why, ended := false, waits := false, first } = (C, { x := 0, pc := 2, h := h0, value, why, ended := false, waits := false, first }) := by
            simp [AOp.step, hE]
          rw [e]
          exact rmove_f3b L o C h0 value why first w hE h
    · have hp := hwt (by omega)
      have hkp : (0 : Int) < k := by omega
      have hk1 : 1 ≤ k := by omega
      rcases (show pc = 0 ∨ pc = 1 ∨ pc = 2 ∨ pc = 3 ∨ pc = 4 by omega) with rfl | rfl | rfl | rfl | rfl
      · by_cases hE : C.H = -1
        · have e : AOp.step C { x := (k : Int), pc := 0, h := h0, value, why, ended := false, waits := false, first } = (C, { x := k, pc := 3, h := C.H, value, why, ended := false, waits := false, first }) := by
            simp [AOp.step, hE]; omega
          rw [e]
          exact rmove_w0a L o C k hk1 hk5 h0 value why first w hE h
        · have e : AOp.step C { x := (k : Int), pc := 0, h := h0, value, why, ended := false, waits := false, first } = (C, { x := k, pc := 1, h := C.H, value, why, ended := false, waits := false, first }) := by
            simp [AOp.step, hE]; omega
          rw [e]
          exact rmove_w0b L o C k hk1 hk5 h0 value why first w hE h
      · have e : AOp.step C { x := (k : Int), pc := 1, h := h0, value, why, ended := false, waits := false, first } = ({ C with L := C.L.set k h0 }, { x := k, pc := 2, h := h0, value, why, ended := false, waits := false, first }) := by
          simp [AOp.step]; omega
        rw [e]
        exact rmove_w1 L o C k hk1 hk5 h0 value why first w h
      · by_cases hE : C.H = h0
        · have e : AOp.step C { x := (k : Int), pc := 2, h := h0, value, why, ended := false, waits := false, first } = ({ C with H := k }, { x := k, pc := 3, h := h0, value, why, ended := true, waits := true, first }) := by
            simp [AOp.step, hE]; omega
          rw [e]
          exact rmove_w2a L o C k hk1 hk5 h0 value why first w hE h
        · have e : AOp.step C { x := (k : Int), pc := 2, h := h0, value, why, ended := false, waits := false, first } = (C, { x := k, pc := 0, h := h0, value, why, ended := false, waits := false, first }) := by
            simp [AOp.step, hE]; omega
          rw [e]
          exact rmove_w2b L o C k hk1 hk5 h0 value why first w hE h
      · have e : AOp.step C { x := (k : Int), pc := 3, h := h0, value, why, ended := false, waits := false, first } = (C, { x := k, pc := 4, h := h0, value := C.V, why, ended := false, waits := false, first }) := by
          simp [AOp.step]; omega
        rw [e]
        exact rmove_w3 L o C k hk1 hk5 h0 value why first w h
      · have e : AOp.step C { x := (k : Int), pc := 4, h := h0, value, why, ended := false, waits := false, first } = (C, { x := k, pc := 5, h := h0, value, why := C.Y, ended := true, waits := false, first }) := by
          simp [AOp.step]; omega
        rw [e]
        exact rmove_w4 L o C k hk1 hk5 h0 value why first w h

/-- A memory of a world: the cell's words from 2 on, the links from 11 on; all live. -/
def ACell.words (C : ACell) : List Int := [0, 0, C.H, C.V, C.Y, 0, 0, 0, 0, 0, 0, C.L.getD 1 0, C.L.getD 2 0, C.L.getD 3 0, C.L.getD 4 0, C.L.getD 5 0, 0, 0, 0, 0]
def ACell.mem (C : ACell) (t : Int) : MemS := ⟨C.words, List.replicate 20 true, t⟩

/-- The program's method that is an operation's next move. -/
def AOp.next (k : Nat) (s : AOp) : Nat :=
  if k = 0 then (match s.pc with | 0 => 23 | 1 => 28 | 2 => 33 | 3 => 37 | _ => 33)
  else if s.waits = true then 22 else (match s.pc with | 0 => 22 | 1 => 26 | 2 => 31 | 3 => 27 | _ => 32)

/-- The program's operation. -/
def AOp.prog (k : Nat) (s : AOp) : OpS :=
  { base := 2, x := k, link := if k = 0 then 0 else 10 + k, h := s.h, waits := s.waits, value := if k = 0 ∧ s.ended = true then 0 else s.value, why := if k = 0 ∧ s.ended = true then 0 else s.why, first := s.first, next := s.next k, ended := s.ended, fault := 0 }

theorem ACell.code (C : ACell) (t : Int) (i : Nat) (h : i < 20) : (C.mem t).code i = 0 :=
  MemS.code_at (by show i < 20; omega) (by show (List.replicate 20 true).getD i false = true; rw [List.getD_eq_getElem?_getD, List.getElem?_replicate, if_pos h]; rfl)

theorem ACell.codeL (C : ACell) (t : Int) (i : Int) (h0 : 0 ≤ i) (h : i < 20) : (C.mem t).code i = 0 := by
  obtain ⟨k, rfl⟩ : ∃ k : Nat, i = k := ⟨i.toNat, by omega⟩
  exact C.code t k (by omega)

theorem ACell.word2 (C : ACell) (t : Int) : (C.mem t).word 2 = C.H := by rw [MemS.word, if_pos (C.codeL t 2 (by omega) (by omega))]; rfl
theorem ACell.word3 (C : ACell) (t : Int) : (C.mem t).word 3 = C.V := by rw [MemS.word, if_pos (C.codeL t 3 (by omega) (by omega))]; rfl
theorem ACell.word4 (C : ACell) (t : Int) : (C.mem t).word 4 = C.Y := by rw [MemS.word, if_pos (C.codeL t 4 (by omega) (by omega))]; rfl
theorem ACell.load (C : ACell) (t : Int) (i : Nat) (h : i < 20) : (C.mem t).load i = C.mem (wrap64 (t + 1)) := by rw [MemS.load, if_pos (C.code t i h)]; rfl
theorem ACell.store3 (C : ACell) (t n : Int) : (C.mem t).store 3 n = ACell.mem { C with V := n } (wrap64 (t + 1)) := by rw [MemS.store, if_pos (C.codeL t 3 (by omega) (by omega))]; rfl
theorem ACell.store4 (C : ACell) (t n : Int) : (C.mem t).store 4 n = ACell.mem { C with Y := n } (wrap64 (t + 1)) := by rw [MemS.store, if_pos (C.codeL t 4 (by omega) (by omega))]; rfl
theorem ACell.hit (C : ACell) (t was : Int) : (C.mem t).hit 2 was = (C.H == was) := by rw [MemS.hit, C.codeL t 2 (by omega) (by omega)]; rfl
theorem ACell.swap_hit (C : ACell) (t was n : Int) (h : C.H = was) : (C.mem t).swap 2 was n = ACell.mem { C with H := n } (wrap64 (t + 1)) := by
  rw [MemS.swap, if_pos (C.codeL t 2 (by omega) (by omega)), if_pos (by show (C.H == was) = true; simpa using h)]; rfl
theorem ACell.swap_miss (C : ACell) (t was n : Int) (h : C.H ≠ was) : (C.mem t).swap 2 was n = C.mem (wrap64 (t + 1)) := by
  rw [MemS.swap, if_pos (C.codeL t 2 (by omega) (by omega)), if_neg (by show ¬ (C.H == was) = true; simpa using h)]; rfl
theorem ACell.tie (C : ACell) (hl : C.L.length = 6) (t n : Int) (k : Nat) (h1 : 1 ≤ k) (h5 : k ≤ 5) : (C.mem t).store (10 + (k : Int)) n = ACell.mem { C with L := C.L.set k n } (wrap64 (t + 1)) := by
  obtain ⟨H, V, Y, Ls⟩ := C
  match Ls, hl with
  | [a0, a1, a2, a3, a4, a5], _ =>
    rw [show (10 + (k : Int)) = ((10 + k : Nat) : Int) from by omega, MemS.store, if_pos (ACell.code _ t _ (by omega))]
    rcases (show k = 1 ∨ k = 2 ∨ k = 3 ∨ k = 4 ∨ k = 5 by omega) with rfl | rfl | rfl | rfl | rfl <;> rfl

end Go.Proofs.Ytglifjecihmbhaa
