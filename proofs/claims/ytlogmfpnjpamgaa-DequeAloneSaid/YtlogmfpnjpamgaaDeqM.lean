/- Layer 9: Move, End, Push, Pop, Steal. -/
import Derived.Test.YtlogmfpnjpamgaaDeqP
import Derived.Test.YtlogmfpnjpamgaaDeqJ
open Go Go.RowKit
namespace Go.Proofs.Ytlogmfpnjpamgaa
set_option linter.unusedVariables false

/-- The program's method that is an operation's next move. -/
def DOp.nx (kind : Nat) (o : DOp) : Nat :=
  if kind = 1 then
    (match o.what with
    | 0 => (match o.next with | 0 => 29 | 1 => 44 | _ => 59)
    | 1 => (match o.next with | 0 => 32 | 1 => 50 | 2 => 61 | 3 => 71 | 4 => 79 | 5 => 83 | _ => 82)
    | _ => (match o.next with | 0 => 35 | 1 => 53 | 2 => 65 | _ => 77))
  else if kind = 2 then
    (match o.what with
    | 0 => (match o.next with | 0 => 30 | 1 => 48 | _ => 60)
    | 1 => (match o.next with | 0 => 33 | 1 => 51 | _ => 63)
    | _ => (match o.next with | 0 => 33 | 1 => 51 | _ => 62))
  else
    (match o.what with
    | 0 => (match o.next with | 0 => 31 | 1 => 49 | 2 => 44 | _ => 59)
    | 1 => (match o.next with | 0 => 34 | 1 => 52 | 2 => 64 | _ => 76)
    | _ => (match o.next with | 0 => 34 | 1 => 52 | 2 => 64 | _ => 75))

/-- What the program keeps as e. -/
def DOp.pe (kind : Nat) (o : DOp) : Int :=
  if kind = 1 then (if o.what = 1 ∧ 2 ≤ o.next then o.e - 1 else o.e) else if kind = 2 then (if o.what = 0 ∧ 1 ≤ o.next then o.t % 65536 else o.e) else o.e

/-- The program's operation. -/
def DOp.prog (kind base room : Nat) (o : DOp) : OpD := ⟨kind, base, room, o.x, o.pe kind, o.t, o.nx kind, o.ended, o.result, o.why, o.what == 1⟩

section
variable {w0 w : World} {o m a b : Nat} {D : Dq} {base room N : Nat} {x e t : Int}

theorem hcast {f : FuncId} {args : Array Value} {r : Value} {s s' : OpD} {D D' : Dq} (h : Calls Try.prog f args w (HPost w0 o m a b r s D)) (hs : s = s') (hd : D = D') : Calls Try.prog f args w (HPost w0 o m a b r s' D') := hs ▸ hd ▸ h

theorem mv_1_0_0 (h : HW w0 w o m a b ((⟨0, 0, x, e, t, false, 0, 0⟩ : DOp).prog 1 base room) D) (hD : DqOk 1 room N D) (ho : (⟨0, 0, x, e, t, false, 0, 0⟩ : DOp).Ok 1 room N) (hN : N ≤ 1000000) :
    Calls Try.prog 29 #[.pointer (some ⟨o, 0, none⟩), .pointer (some ⟨m, 0, none⟩)] w (HPost w0 o m a b (.tuple #[]) ((DOp.step 1 room D ⟨0, 0, x, e, t, false, 0, 0⟩).1.prog 1 base room) (DOp.step 1 room D ⟨0, 0, x, e, t, false, 0, 0⟩).2) := by
  obtain ⟨-, -, hp⟩ := ho
  have hp := hp rfl
  have hroom := h.h.hroom.2
  have hroom1 := h.h.hroom.1
  simp [DqOk, Ok1, TOk] at hp hD
  simp only [DOp.prog] at hroom hroom1
  replace h : HW w0 w o m a b ⟨(1 : Nat), base, room, x, e, t, 29, false, 0, 0, false⟩ D := h
  by_cases hE : D 0 = room
  · exact hcast (m_pushEnd_full h hE) (by simp [DOp.step, DOp.step1, DOp.prog, DOp.pe, DOp.nx, hE]) (by simp [DOp.step, DOp.step1, hE])
  · exact hcast (m_pushEnd h hE) (by simp [DOp.step, DOp.step1, DOp.prog, DOp.pe, DOp.nx, hE]) (by simp [DOp.step, DOp.step1, hE])

theorem mv_1_0_1 (h : HW w0 w o m a b ((⟨0, 1, x, e, t, false, 0, 0⟩ : DOp).prog 1 base room) D) (hD : DqOk 1 room N D) (ho : (⟨0, 1, x, e, t, false, 0, 0⟩ : DOp).Ok 1 room N) (hN : N ≤ 1000000) :
    Calls Try.prog 44 #[.pointer (some ⟨o, 0, none⟩), .pointer (some ⟨m, 0, none⟩)] w (HPost w0 o m a b (.tuple #[]) ((DOp.step 1 room D ⟨0, 1, x, e, t, false, 0, 0⟩).1.prog 1 base room) (DOp.step 1 room D ⟨0, 1, x, e, t, false, 0, 0⟩).2) := by
  obtain ⟨-, -, hp⟩ := ho
  have hp := hp rfl
  have hroom := h.h.hroom.2
  have hroom1 := h.h.hroom.1
  simp [DqOk, Ok1, TOk] at hp hD
  simp only [DOp.prog] at hroom hroom1
  replace h : HW w0 w o m a b ⟨(1 : Nat), base, room, x, e, t, 44, false, 0, 0, false⟩ D := h
  have hq : e.toNat % room = e.toNat := Nat.mod_eq_of_lt (by omega)
  exact hcast (m_pushSlot h (by omega) (by omega)) (by simp [DOp.step, DOp.step1, DOp.prog, DOp.pe, DOp.nx, hq]) (by simp [DOp.step, DOp.step1, hq])

theorem mv_1_0_2 (h : HW w0 w o m a b ((⟨0, 2, x, e, t, false, 0, 0⟩ : DOp).prog 1 base room) D) (hD : DqOk 1 room N D) (ho : (⟨0, 2, x, e, t, false, 0, 0⟩ : DOp).Ok 1 room N) (hN : N ≤ 1000000) :
    Calls Try.prog 59 #[.pointer (some ⟨o, 0, none⟩), .pointer (some ⟨m, 0, none⟩)] w (HPost w0 o m a b (.tuple #[]) ((DOp.step 1 room D ⟨0, 2, x, e, t, false, 0, 0⟩).1.prog 1 base room) (DOp.step 1 room D ⟨0, 2, x, e, t, false, 0, 0⟩).2) := by
  obtain ⟨-, -, hp⟩ := ho
  have hp := hp rfl
  have hroom := h.h.hroom.2
  have hroom1 := h.h.hroom.1
  simp [DqOk, Ok1, TOk] at hp hD
  simp only [DOp.prog] at hroom hroom1
  replace h : HW w0 w o m a b ⟨(1 : Nat), base, room, x, e, t, 59, false, 0, 0, false⟩ D := h
  exact hcast (m_pushOver h (by omega) (by omega)) (by simp [DOp.step, DOp.step1, DOp.prog, DOp.pe, DOp.nx]) (by simp [DOp.step, DOp.step1])

theorem mv_1_1_0 (h : HW w0 w o m a b ((⟨1, 0, x, e, t, false, 0, 0⟩ : DOp).prog 1 base room) D) (hD : DqOk 1 room N D) (ho : (⟨1, 0, x, e, t, false, 0, 0⟩ : DOp).Ok 1 room N) (hN : N ≤ 1000000) :
    Calls Try.prog 32 #[.pointer (some ⟨o, 0, none⟩), .pointer (some ⟨m, 0, none⟩)] w (HPost w0 o m a b (.tuple #[]) ((DOp.step 1 room D ⟨1, 0, x, e, t, false, 0, 0⟩).1.prog 1 base room) (DOp.step 1 room D ⟨1, 0, x, e, t, false, 0, 0⟩).2) := by
  obtain ⟨-, -, hp⟩ := ho
  have hp := hp rfl
  have hroom := h.h.hroom.2
  have hroom1 := h.h.hroom.1
  simp [DqOk, Ok1, TOk] at hp hD
  simp only [DOp.prog] at hroom hroom1
  replace h : HW w0 w o m a b ⟨(1 : Nat), base, room, x, e, t, 32, false, 0, 0, true⟩ D := h
  by_cases hE : D 0 = 0
  · exact hcast (m_popEnd_full h hE) (by simp [DOp.step, DOp.step1, DOp.prog, DOp.pe, DOp.nx, hE]) (by simp [DOp.step, DOp.step1, hE])
  · exact hcast (m_popEnd h hE) (by simp [DOp.step, DOp.step1, DOp.prog, DOp.pe, DOp.nx, hE]) (by simp [DOp.step, DOp.step1, hE])

theorem mv_1_1_1 (h : HW w0 w o m a b ((⟨1, 1, x, e, t, false, 0, 0⟩ : DOp).prog 1 base room) D) (hD : DqOk 1 room N D) (ho : (⟨1, 1, x, e, t, false, 0, 0⟩ : DOp).Ok 1 room N) (hN : N ≤ 1000000) :
    Calls Try.prog 50 #[.pointer (some ⟨o, 0, none⟩), .pointer (some ⟨m, 0, none⟩)] w (HPost w0 o m a b (.tuple #[]) ((DOp.step 1 room D ⟨1, 1, x, e, t, false, 0, 0⟩).1.prog 1 base room) (DOp.step 1 room D ⟨1, 1, x, e, t, false, 0, 0⟩).2) := by
  obtain ⟨-, -, hp⟩ := ho
  have hp := hp rfl
  have hroom := h.h.hroom.2
  have hroom1 := h.h.hroom.1
  simp [DqOk, Ok1, TOk] at hp hD
  simp only [DOp.prog] at hroom hroom1
  replace h : HW w0 w o m a b ⟨(1 : Nat), base, room, x, e, t, 50, false, 0, 0, true⟩ D := h
  exact hcast (m_popDown h (by omega) (by omega)) (by simp [DOp.step, DOp.step1, DOp.prog, DOp.pe, DOp.nx]) (by simp [DOp.step, DOp.step1])

theorem mv_1_1_2 (h : HW w0 w o m a b ((⟨1, 2, x, e, t, false, 0, 0⟩ : DOp).prog 1 base room) D) (hD : DqOk 1 room N D) (ho : (⟨1, 2, x, e, t, false, 0, 0⟩ : DOp).Ok 1 room N) (hN : N ≤ 1000000) :
    Calls Try.prog 61 #[.pointer (some ⟨o, 0, none⟩), .pointer (some ⟨m, 0, none⟩)] w (HPost w0 o m a b (.tuple #[]) ((DOp.step 1 room D ⟨1, 2, x, e, t, false, 0, 0⟩).1.prog 1 base room) (DOp.step 1 room D ⟨1, 2, x, e, t, false, 0, 0⟩).2) := by
  obtain ⟨-, -, hp⟩ := ho
  have hp := hp rfl
  have hroom := h.h.hroom.2
  have hroom1 := h.h.hroom.1
  simp [DqOk, Ok1, TOk] at hp hD
  simp only [DOp.prog] at hroom hroom1
  replace h : HW w0 w o m a b ⟨(1 : Nat), base, room, x, (e - 1), t, 61, false, 0, 0, true⟩ D := h
  have hq : (e.toNat - 1) % room = e.toNat - 1 := Nat.mod_eq_of_lt (by omega)
  exact hcast (m_popSlot h (by omega) (by omega)) (by simp [DOp.step, DOp.step1, DOp.prog, DOp.pe, DOp.nx, hq]) (by simp [DOp.step, DOp.step1, hq])

theorem mv_1_1_3 (h : HW w0 w o m a b ((⟨1, 3, x, e, t, false, 0, 0⟩ : DOp).prog 1 base room) D) (hD : DqOk 1 room N D) (ho : (⟨1, 3, x, e, t, false, 0, 0⟩ : DOp).Ok 1 room N) (hN : N ≤ 1000000) :
    Calls Try.prog 71 #[.pointer (some ⟨o, 0, none⟩), .pointer (some ⟨m, 0, none⟩)] w (HPost w0 o m a b (.tuple #[]) ((DOp.step 1 room D ⟨1, 3, x, e, t, false, 0, 0⟩).1.prog 1 base room) (DOp.step 1 room D ⟨1, 3, x, e, t, false, 0, 0⟩).2) := by
  obtain ⟨-, -, hp⟩ := ho
  have hp := hp rfl
  have hroom := h.h.hroom.2
  have hroom1 := h.h.hroom.1
  simp [DqOk, Ok1, TOk] at hp hD
  simp only [DOp.prog] at hroom hroom1
  replace h : HW w0 w o m a b ⟨(1 : Nat), base, room, x, (e - 1), t, 71, false, 0, 0, true⟩ D := h
  by_cases hE : D 1 % 65536 < e - 1
  · exact hcast (m_popAge_full h (by omega) (by omega) hE) (by simp [DOp.step, DOp.step1, DOp.prog, DOp.pe, DOp.nx, hE]) (by simp [DOp.step, DOp.step1, hE])
  · exact hcast (m_popAge h (by omega) (by omega) (by omega)) (by simp [DOp.step, DOp.step1, DOp.prog, DOp.pe, DOp.nx, hE]) (by simp [DOp.step, DOp.step1, hE])

theorem mv_1_1_4 (h : HW w0 w o m a b ((⟨1, 4, x, e, t, false, 0, 0⟩ : DOp).prog 1 base room) D) (hD : DqOk 1 room N D) (ho : (⟨1, 4, x, e, t, false, 0, 0⟩ : DOp).Ok 1 room N) (hN : N ≤ 1000000) :
    Calls Try.prog 79 #[.pointer (some ⟨o, 0, none⟩), .pointer (some ⟨m, 0, none⟩)] w (HPost w0 o m a b (.tuple #[]) ((DOp.step 1 room D ⟨1, 4, x, e, t, false, 0, 0⟩).1.prog 1 base room) (DOp.step 1 room D ⟨1, 4, x, e, t, false, 0, 0⟩).2) := by
  obtain ⟨-, -, hp⟩ := ho
  have hp := hp rfl
  have hroom := h.h.hroom.2
  have hroom1 := h.h.hroom.1
  simp [DqOk, Ok1, TOk] at hp hD
  simp only [DOp.prog] at hroom hroom1
  replace h : HW w0 w o m a b ⟨(1 : Nat), base, room, x, (e - 1), t, 79, false, 0, 0, true⟩ D := h
  by_cases hE : e - 1 = t % 65536
  · exact hcast (m_popClear_eq h (by omega) (by omega) (by omega) hE) (by simp [DOp.step, DOp.step1, DOp.prog, DOp.pe, DOp.nx, hE]) (by simp [DOp.step, DOp.step1, hE])
  · exact hcast (m_popClear h (by omega) (by omega) (by omega) hE) (by simp [DOp.step, DOp.step1, DOp.prog, DOp.pe, DOp.nx, hE]) (by simp [DOp.step, DOp.step1, hE])

theorem mv_1_1_5 (h : HW w0 w o m a b ((⟨1, 5, x, e, t, false, 0, 0⟩ : DOp).prog 1 base room) D) (hD : DqOk 1 room N D) (ho : (⟨1, 5, x, e, t, false, 0, 0⟩ : DOp).Ok 1 room N) (hN : N ≤ 1000000) :
    Calls Try.prog 83 #[.pointer (some ⟨o, 0, none⟩), .pointer (some ⟨m, 0, none⟩)] w (HPost w0 o m a b (.tuple #[]) ((DOp.step 1 room D ⟨1, 5, x, e, t, false, 0, 0⟩).1.prog 1 base room) (DOp.step 1 room D ⟨1, 5, x, e, t, false, 0, 0⟩).2) := by
  obtain ⟨-, -, hp⟩ := ho
  have hp := hp rfl
  have hroom := h.h.hroom.2
  have hroom1 := h.h.hroom.1
  simp [DqOk, Ok1, TOk] at hp hD
  simp only [DOp.prog] at hroom hroom1
  replace h : HW w0 w o m a b ⟨(1 : Nat), base, room, x, (e - 1), t, 83, false, 0, 0, true⟩ D := h
  have hq : (t / 65536 + 1) * 65536 = 65536 * (t / 65536 + 1) := by omega
  by_cases hE : D 1 = t
  · exact hcast (m_popLast_hit h (by omega) (by omega) (by omega) hE) (by simp [DOp.step, DOp.step1, DOp.prog, DOp.pe, DOp.nx, hq, hE]) (by simp [DOp.step, DOp.step1, hq, hE])
  · exact hcast (m_popLast h (by omega) (by omega) (by omega) hE) (by simp [DOp.step, DOp.step1, DOp.prog, DOp.pe, DOp.nx, hq, hE]) (by simp [DOp.step, DOp.step1, hq, hE])

theorem mv_1_1_6 (h : HW w0 w o m a b ((⟨1, 6, x, e, t, false, 0, 0⟩ : DOp).prog 1 base room) D) (hD : DqOk 1 room N D) (ho : (⟨1, 6, x, e, t, false, 0, 0⟩ : DOp).Ok 1 room N) (hN : N ≤ 1000000) :
    Calls Try.prog 82 #[.pointer (some ⟨o, 0, none⟩), .pointer (some ⟨m, 0, none⟩)] w (HPost w0 o m a b (.tuple #[]) ((DOp.step 1 room D ⟨1, 6, x, e, t, false, 0, 0⟩).1.prog 1 base room) (DOp.step 1 room D ⟨1, 6, x, e, t, false, 0, 0⟩).2) := by
  obtain ⟨-, -, hp⟩ := ho
  have hp := hp rfl
  have hroom := h.h.hroom.2
  have hroom1 := h.h.hroom.1
  simp [DqOk, Ok1, TOk] at hp hD
  simp only [DOp.prog] at hroom hroom1
  replace h : HW w0 w o m a b ⟨(1 : Nat), base, room, x, (e - 1), t, 82, false, 0, 0, true⟩ D := h
  have hq : (t / 65536 + 1) * 65536 = 65536 * (t / 65536 + 1) := by omega
  exact hcast (m_popReset h (by omega) (by omega) (by omega)) (by simp [DOp.step, DOp.step1, DOp.prog, DOp.pe, DOp.nx, hq]) (by simp [DOp.step, DOp.step1, hq])

theorem mv_1_2_0 (h : HW w0 w o m a b ((⟨2, 0, x, e, t, false, 0, 0⟩ : DOp).prog 1 base room) D) (hD : DqOk 1 room N D) (ho : (⟨2, 0, x, e, t, false, 0, 0⟩ : DOp).Ok 1 room N) (hN : N ≤ 1000000) :
    Calls Try.prog 35 #[.pointer (some ⟨o, 0, none⟩), .pointer (some ⟨m, 0, none⟩)] w (HPost w0 o m a b (.tuple #[]) ((DOp.step 1 room D ⟨2, 0, x, e, t, false, 0, 0⟩).1.prog 1 base room) (DOp.step 1 room D ⟨2, 0, x, e, t, false, 0, 0⟩).2) := by
  obtain ⟨-, -, hp⟩ := ho
  have hp := hp rfl
  have hroom := h.h.hroom.2
  have hroom1 := h.h.hroom.1
  simp [DqOk, Ok1, TOk] at hp hD
  simp only [DOp.prog] at hroom hroom1
  replace h : HW w0 w o m a b ⟨(1 : Nat), base, room, x, e, t, 35, false, 0, 0, false⟩ D := h
  exact hcast (m_stealTop h) (by simp [DOp.step, DOp.step1, DOp.prog, DOp.pe, DOp.nx]) (by simp [DOp.step, DOp.step1])

theorem mv_1_2_1 (h : HW w0 w o m a b ((⟨2, 1, x, e, t, false, 0, 0⟩ : DOp).prog 1 base room) D) (hD : DqOk 1 room N D) (ho : (⟨2, 1, x, e, t, false, 0, 0⟩ : DOp).Ok 1 room N) (hN : N ≤ 1000000) :
    Calls Try.prog 53 #[.pointer (some ⟨o, 0, none⟩), .pointer (some ⟨m, 0, none⟩)] w (HPost w0 o m a b (.tuple #[]) ((DOp.step 1 room D ⟨2, 1, x, e, t, false, 0, 0⟩).1.prog 1 base room) (DOp.step 1 room D ⟨2, 1, x, e, t, false, 0, 0⟩).2) := by
  obtain ⟨-, -, hp⟩ := ho
  have hp := hp rfl
  have hroom := h.h.hroom.2
  have hroom1 := h.h.hroom.1
  simp [DqOk, Ok1, TOk] at hp hD
  simp only [DOp.prog] at hroom hroom1
  replace h : HW w0 w o m a b ⟨(1 : Nat), base, room, x, e, t, 53, false, 0, 0, false⟩ D := h
  by_cases hE : D 0 ≤ t % 65536
  · exact hcast (m_stealEnd_full h (by omega) (by omega) (by omega) hE) (by simp [DOp.step, DOp.step1, DOp.prog, DOp.pe, DOp.nx, hE]) (by simp [DOp.step, DOp.step1, hE])
  · exact hcast (m_stealEnd h (by omega) (by omega) (by omega) (by omega)) (by simp [DOp.step, DOp.step1, DOp.prog, DOp.pe, DOp.nx, hE]) (by simp [DOp.step, DOp.step1, hE])

theorem mv_1_2_2 (h : HW w0 w o m a b ((⟨2, 2, x, e, t, false, 0, 0⟩ : DOp).prog 1 base room) D) (hD : DqOk 1 room N D) (ho : (⟨2, 2, x, e, t, false, 0, 0⟩ : DOp).Ok 1 room N) (hN : N ≤ 1000000) :
    Calls Try.prog 65 #[.pointer (some ⟨o, 0, none⟩), .pointer (some ⟨m, 0, none⟩)] w (HPost w0 o m a b (.tuple #[]) ((DOp.step 1 room D ⟨2, 2, x, e, t, false, 0, 0⟩).1.prog 1 base room) (DOp.step 1 room D ⟨2, 2, x, e, t, false, 0, 0⟩).2) := by
  obtain ⟨-, -, hp⟩ := ho
  have hp := hp rfl
  have hroom := h.h.hroom.2
  have hroom1 := h.h.hroom.1
  simp [DqOk, Ok1, TOk] at hp hD
  simp only [DOp.prog] at hroom hroom1
  replace h : HW w0 w o m a b ⟨(1 : Nat), base, room, x, e, t, 65, false, 0, 0, false⟩ D := h
  have hq : (t % 65536).toNat % room = (t % 65536).toNat := Nat.mod_eq_of_lt (by omega)
  exact hcast (m_stealSlot h (by omega) (by omega) (by omega)) (by simp [DOp.step, DOp.step1, DOp.prog, DOp.pe, DOp.nx, hq]) (by simp [DOp.step, DOp.step1, hq])

theorem mv_1_2_3 (h : HW w0 w o m a b ((⟨2, 3, x, e, t, false, 0, 0⟩ : DOp).prog 1 base room) D) (hD : DqOk 1 room N D) (ho : (⟨2, 3, x, e, t, false, 0, 0⟩ : DOp).Ok 1 room N) (hN : N ≤ 1000000) :
    Calls Try.prog 77 #[.pointer (some ⟨o, 0, none⟩), .pointer (some ⟨m, 0, none⟩)] w (HPost w0 o m a b (.tuple #[]) ((DOp.step 1 room D ⟨2, 3, x, e, t, false, 0, 0⟩).1.prog 1 base room) (DOp.step 1 room D ⟨2, 3, x, e, t, false, 0, 0⟩).2) := by
  obtain ⟨-, -, hp⟩ := ho
  have hp := hp rfl
  have hroom := h.h.hroom.2
  have hroom1 := h.h.hroom.1
  simp [DqOk, Ok1, TOk] at hp hD
  simp only [DOp.prog] at hroom hroom1
  replace h : HW w0 w o m a b ⟨(1 : Nat), base, room, x, e, t, 77, false, 0, 0, false⟩ D := h
  have hq : t / 65536 * 65536 + (t % 65536 + 1) = t + 1 := by omega
  by_cases hE : D 1 = t
  · exact hcast (m_stealSwap h (by omega) (by omega) (by omega)) (by simp [DOp.step, DOp.step1, DOp.prog, DOp.pe, DOp.nx, hq, OpD.takenW, OpD.doneW, OpD.endsW, Dq.hit, hE]) (by simp [DOp.step, DOp.step1, hq, Dq.swap, hE])
  · exact hcast (m_stealSwap h (by omega) (by omega) (by omega)) (by simp [DOp.step, DOp.step1, DOp.prog, DOp.pe, DOp.nx, hq, OpD.takenW, OpD.doneW, OpD.endsW, Dq.hit, hE]) (by simp [DOp.step, DOp.step1, hq, Dq.swap, hE])

theorem mv_2_0_0 (h : HW w0 w o m a b ((⟨0, 0, x, e, t, false, 0, 0⟩ : DOp).prog 2 base room) D) (hD : DqOk 2 room N D) (ho : (⟨0, 0, x, e, t, false, 0, 0⟩ : DOp).Ok 2 room N) (hN : N ≤ 1000000) :
    Calls Try.prog 30 #[.pointer (some ⟨o, 0, none⟩), .pointer (some ⟨m, 0, none⟩)] w (HPost w0 o m a b (.tuple #[]) ((DOp.step 2 room D ⟨0, 0, x, e, t, false, 0, 0⟩).1.prog 2 base room) (DOp.step 2 room D ⟨0, 0, x, e, t, false, 0, 0⟩).2) := by
  obtain ⟨-, -, hp⟩ := ho
  have hp := hp rfl
  have hroom := h.h.hroom.2
  have hroom1 := h.h.hroom.1
  simp [DqOk, Ok2, TOk] at hp hD
  simp only [DOp.prog] at hroom hroom1
  replace h : HW w0 w o m a b ⟨(2 : Nat), base, room, x, e, t, 30, false, 0, 0, false⟩ D := h
  by_cases hE : D 1 % 65536 = room
  · exact hcast (m_pushTop_full h (by omega) (by omega) hE) (by simp [DOp.step, DOp.step2, DOp.prog, DOp.pe, DOp.nx, hE]) (by simp [DOp.step, DOp.step2, hE])
  · exact hcast (m_pushTop h (by omega) (by omega) hE) (by simp [DOp.step, DOp.step2, DOp.prog, DOp.pe, DOp.nx, hE]) (by simp [DOp.step, DOp.step2, hE])

theorem mv_2_0_1 (h : HW w0 w o m a b ((⟨0, 1, x, e, t, false, 0, 0⟩ : DOp).prog 2 base room) D) (hD : DqOk 2 room N D) (ho : (⟨0, 1, x, e, t, false, 0, 0⟩ : DOp).Ok 2 room N) (hN : N ≤ 1000000) :
    Calls Try.prog 48 #[.pointer (some ⟨o, 0, none⟩), .pointer (some ⟨m, 0, none⟩)] w (HPost w0 o m a b (.tuple #[]) ((DOp.step 2 room D ⟨0, 1, x, e, t, false, 0, 0⟩).1.prog 2 base room) (DOp.step 2 room D ⟨0, 1, x, e, t, false, 0, 0⟩).2) := by
  obtain ⟨-, -, hp⟩ := ho
  have hp := hp rfl
  have hroom := h.h.hroom.2
  have hroom1 := h.h.hroom.1
  simp [DqOk, Ok2, TOk] at hp hD
  simp only [DOp.prog] at hroom hroom1
  replace h : HW w0 w o m a b ⟨(2 : Nat), base, room, x, (t % 65536), t, 48, false, 0, 0, false⟩ D := h
  have hq : (t % 65536).toNat % room = (t % 65536).toNat := Nat.mod_eq_of_lt (by omega)
  exact hcast (m_pushLast h (by omega) (by omega)) (by simp [DOp.step, DOp.step2, DOp.prog, DOp.pe, DOp.nx, hq]) (by simp [DOp.step, DOp.step2, hq])

theorem mv_2_0_2 (h : HW w0 w o m a b ((⟨0, 2, x, e, t, false, 0, 0⟩ : DOp).prog 2 base room) D) (hD : DqOk 2 room N D) (ho : (⟨0, 2, x, e, t, false, 0, 0⟩ : DOp).Ok 2 room N) (hN : N ≤ 1000000) :
    Calls Try.prog 60 #[.pointer (some ⟨o, 0, none⟩), .pointer (some ⟨m, 0, none⟩)] w (HPost w0 o m a b (.tuple #[]) ((DOp.step 2 room D ⟨0, 2, x, e, t, false, 0, 0⟩).1.prog 2 base room) (DOp.step 2 room D ⟨0, 2, x, e, t, false, 0, 0⟩).2) := by
  obtain ⟨-, -, hp⟩ := ho
  have hp := hp rfl
  have hroom := h.h.hroom.2
  have hroom1 := h.h.hroom.1
  simp [DqOk, Ok2, TOk] at hp hD
  simp only [DOp.prog] at hroom hroom1
  replace h : HW w0 w o m a b ⟨(2 : Nat), base, room, x, (t % 65536), t, 60, false, 0, 0, false⟩ D := h
  have hq : (t / 65536 + 1) * 65536 + (t % 65536 + 1) = t + 65536 + 1 := by omega
  exact hcast (m_pushTag h (by omega) (by omega) (by omega)) (by simp [DOp.step, DOp.step2, DOp.prog, DOp.pe, DOp.nx, hq]) (by simp [DOp.step, DOp.step2, hq])

theorem mv_2_1_0 (h : HW w0 w o m a b ((⟨1, 0, x, e, t, false, 0, 0⟩ : DOp).prog 2 base room) D) (hD : DqOk 2 room N D) (ho : (⟨1, 0, x, e, t, false, 0, 0⟩ : DOp).Ok 2 room N) (hN : N ≤ 1000000) :
    Calls Try.prog 33 #[.pointer (some ⟨o, 0, none⟩), .pointer (some ⟨m, 0, none⟩)] w (HPost w0 o m a b (.tuple #[]) ((DOp.step 2 room D ⟨1, 0, x, e, t, false, 0, 0⟩).1.prog 2 base room) (DOp.step 2 room D ⟨1, 0, x, e, t, false, 0, 0⟩).2) := by
  obtain ⟨-, -, hp⟩ := ho
  have hp := hp rfl
  have hroom := h.h.hroom.2
  have hroom1 := h.h.hroom.1
  simp [DqOk, Ok2, TOk] at hp hD
  simp only [DOp.prog] at hroom hroom1
  replace h : HW w0 w o m a b ⟨(2 : Nat), base, room, x, e, t, 33, false, 0, 0, true⟩ D := h
  by_cases hE : D 1 % 65536 = 0
  · exact hcast (m_lastTop_full h (by omega) (by omega) hE) (by simp [DOp.step, DOp.step2, DOp.prog, DOp.pe, DOp.nx, hE]) (by simp [DOp.step, DOp.step2, hE])
  · exact hcast (m_lastTop h (by omega) (by omega) hE) (by simp [DOp.step, DOp.step2, DOp.prog, DOp.pe, DOp.nx, hE]) (by simp [DOp.step, DOp.step2, hE])

theorem mv_2_1_1 (h : HW w0 w o m a b ((⟨1, 1, x, e, t, false, 0, 0⟩ : DOp).prog 2 base room) D) (hD : DqOk 2 room N D) (ho : (⟨1, 1, x, e, t, false, 0, 0⟩ : DOp).Ok 2 room N) (hN : N ≤ 1000000) :
    Calls Try.prog 51 #[.pointer (some ⟨o, 0, none⟩), .pointer (some ⟨m, 0, none⟩)] w (HPost w0 o m a b (.tuple #[]) ((DOp.step 2 room D ⟨1, 1, x, e, t, false, 0, 0⟩).1.prog 2 base room) (DOp.step 2 room D ⟨1, 1, x, e, t, false, 0, 0⟩).2) := by
  obtain ⟨-, -, hp⟩ := ho
  have hp := hp rfl
  have hroom := h.h.hroom.2
  have hroom1 := h.h.hroom.1
  simp [DqOk, Ok2, TOk] at hp hD
  simp only [DOp.prog] at hroom hroom1
  replace h : HW w0 w o m a b ⟨(2 : Nat), base, room, x, e, t, 51, false, 0, 0, true⟩ D := h
  have hq : ((t % 65536).toNat - 1) % room = (t % 65536).toNat - 1 := Nat.mod_eq_of_lt (by omega)
  exact hcast (m_lastSlot_own h (by omega) (by omega) (by omega) (by omega)) (by simp [DOp.step, DOp.step2, DOp.prog, DOp.pe, DOp.nx, hq]) (by simp [DOp.step, DOp.step2, hq])

theorem mv_2_1_2 (h : HW w0 w o m a b ((⟨1, 2, x, e, t, false, 0, 0⟩ : DOp).prog 2 base room) D) (hD : DqOk 2 room N D) (ho : (⟨1, 2, x, e, t, false, 0, 0⟩ : DOp).Ok 2 room N) (hN : N ≤ 1000000) :
    Calls Try.prog 63 #[.pointer (some ⟨o, 0, none⟩), .pointer (some ⟨m, 0, none⟩)] w (HPost w0 o m a b (.tuple #[]) ((DOp.step 2 room D ⟨1, 2, x, e, t, false, 0, 0⟩).1.prog 2 base room) (DOp.step 2 room D ⟨1, 2, x, e, t, false, 0, 0⟩).2) := by
  obtain ⟨-, -, hp⟩ := ho
  have hp := hp rfl
  have hroom := h.h.hroom.2
  have hroom1 := h.h.hroom.1
  simp [DqOk, Ok2, TOk] at hp hD
  simp only [DOp.prog] at hroom hroom1
  replace h : HW w0 w o m a b ⟨(2 : Nat), base, room, x, e, t, 63, false, 0, 0, true⟩ D := h
  have hq : t / 65536 * 65536 + (t % 65536 - 1) = t - 1 := by omega
  exact hcast (m_lastStore h (by omega) (by omega) (by omega) (by omega)) (by simp [DOp.step, DOp.step2, DOp.prog, DOp.pe, DOp.nx, hq]) (by simp [DOp.step, DOp.step2, hq])

theorem mv_2_2_0 (h : HW w0 w o m a b ((⟨2, 0, x, e, t, false, 0, 0⟩ : DOp).prog 2 base room) D) (hD : DqOk 2 room N D) (ho : (⟨2, 0, x, e, t, false, 0, 0⟩ : DOp).Ok 2 room N) (hN : N ≤ 1000000) :
    Calls Try.prog 33 #[.pointer (some ⟨o, 0, none⟩), .pointer (some ⟨m, 0, none⟩)] w (HPost w0 o m a b (.tuple #[]) ((DOp.step 2 room D ⟨2, 0, x, e, t, false, 0, 0⟩).1.prog 2 base room) (DOp.step 2 room D ⟨2, 0, x, e, t, false, 0, 0⟩).2) := by
  obtain ⟨-, -, hp⟩ := ho
  have hp := hp rfl
  have hroom := h.h.hroom.2
  have hroom1 := h.h.hroom.1
  simp [DqOk, Ok2, TOk] at hp hD
  simp only [DOp.prog] at hroom hroom1
  replace h : HW w0 w o m a b ⟨(2 : Nat), base, room, x, e, t, 33, false, 0, 0, false⟩ D := h
  by_cases hE : D 1 % 65536 = 0
  · exact hcast (m_lastTop_full h (by omega) (by omega) hE) (by simp [DOp.step, DOp.step2, DOp.prog, DOp.pe, DOp.nx, hE]) (by simp [DOp.step, DOp.step2, hE])
  · exact hcast (m_lastTop h (by omega) (by omega) hE) (by simp [DOp.step, DOp.step2, DOp.prog, DOp.pe, DOp.nx, hE]) (by simp [DOp.step, DOp.step2, hE])

theorem mv_2_2_1 (h : HW w0 w o m a b ((⟨2, 1, x, e, t, false, 0, 0⟩ : DOp).prog 2 base room) D) (hD : DqOk 2 room N D) (ho : (⟨2, 1, x, e, t, false, 0, 0⟩ : DOp).Ok 2 room N) (hN : N ≤ 1000000) :
    Calls Try.prog 51 #[.pointer (some ⟨o, 0, none⟩), .pointer (some ⟨m, 0, none⟩)] w (HPost w0 o m a b (.tuple #[]) ((DOp.step 2 room D ⟨2, 1, x, e, t, false, 0, 0⟩).1.prog 2 base room) (DOp.step 2 room D ⟨2, 1, x, e, t, false, 0, 0⟩).2) := by
  obtain ⟨-, -, hp⟩ := ho
  have hp := hp rfl
  have hroom := h.h.hroom.2
  have hroom1 := h.h.hroom.1
  simp [DqOk, Ok2, TOk] at hp hD
  simp only [DOp.prog] at hroom hroom1
  replace h : HW w0 w o m a b ⟨(2 : Nat), base, room, x, e, t, 51, false, 0, 0, false⟩ D := h
  have hq : ((t % 65536).toNat - 1) % room = (t % 65536).toNat - 1 := Nat.mod_eq_of_lt (by omega)
  exact hcast (m_lastSlot_thief h (by omega) (by omega) (by omega) (by omega)) (by simp [DOp.step, DOp.step2, DOp.prog, DOp.pe, DOp.nx, hq]) (by simp [DOp.step, DOp.step2, hq])

theorem mv_2_2_2 (h : HW w0 w o m a b ((⟨2, 2, x, e, t, false, 0, 0⟩ : DOp).prog 2 base room) D) (hD : DqOk 2 room N D) (ho : (⟨2, 2, x, e, t, false, 0, 0⟩ : DOp).Ok 2 room N) (hN : N ≤ 1000000) :
    Calls Try.prog 62 #[.pointer (some ⟨o, 0, none⟩), .pointer (some ⟨m, 0, none⟩)] w (HPost w0 o m a b (.tuple #[]) ((DOp.step 2 room D ⟨2, 2, x, e, t, false, 0, 0⟩).1.prog 2 base room) (DOp.step 2 room D ⟨2, 2, x, e, t, false, 0, 0⟩).2) := by
  obtain ⟨-, -, hp⟩ := ho
  have hp := hp rfl
  have hroom := h.h.hroom.2
  have hroom1 := h.h.hroom.1
  simp [DqOk, Ok2, TOk] at hp hD
  simp only [DOp.prog] at hroom hroom1
  replace h : HW w0 w o m a b ⟨(2 : Nat), base, room, x, e, t, 62, false, 0, 0, false⟩ D := h
  have hq : t / 65536 * 65536 + (t % 65536 - 1) = t - 1 := by omega
  by_cases hE : D 1 = t
  · exact hcast (m_lastSwap h (by omega) (by omega) (by omega) (by omega)) (by simp [DOp.step, DOp.step2, DOp.prog, DOp.pe, DOp.nx, hq, OpD.takenW, OpD.doneW, OpD.endsW, Dq.hit, hE]) (by simp [DOp.step, DOp.step2, hq, Dq.swap, hE])
  · exact hcast (m_lastSwap h (by omega) (by omega) (by omega) (by omega)) (by simp [DOp.step, DOp.step2, DOp.prog, DOp.pe, DOp.nx, hq, OpD.takenW, OpD.doneW, OpD.endsW, Dq.hit, hE]) (by simp [DOp.step, DOp.step2, hq, Dq.swap, hE])

theorem mv_3_0_0 (h : HW w0 w o m a b ((⟨0, 0, x, e, t, false, 0, 0⟩ : DOp).prog 3 base room) D) (hD : DqOk 3 room N D) (ho : (⟨0, 0, x, e, t, false, 0, 0⟩ : DOp).Ok 3 room N) (hN : N ≤ 1000000) :
    Calls Try.prog 31 #[.pointer (some ⟨o, 0, none⟩), .pointer (some ⟨m, 0, none⟩)] w (HPost w0 o m a b (.tuple #[]) ((DOp.step 3 room D ⟨0, 0, x, e, t, false, 0, 0⟩).1.prog 3 base room) (DOp.step 3 room D ⟨0, 0, x, e, t, false, 0, 0⟩).2) := by
  obtain ⟨-, -, hp⟩ := ho
  have hp := hp rfl
  have hroom := h.h.hroom.2
  have hroom1 := h.h.hroom.1
  simp [DqOk, Ok3] at hp hD
  simp only [DOp.prog] at hroom hroom1
  replace h : HW w0 w o m a b ⟨(3 : Nat), base, room, x, e, t, 31, false, 0, 0, false⟩ D := h
  exact hcast (m_pushHead h) (by simp [DOp.step, DOp.step3, DOp.prog, DOp.pe, DOp.nx]) (by simp [DOp.step, DOp.step3])

theorem mv_3_0_1 (h : HW w0 w o m a b ((⟨0, 1, x, e, t, false, 0, 0⟩ : DOp).prog 3 base room) D) (hD : DqOk 3 room N D) (ho : (⟨0, 1, x, e, t, false, 0, 0⟩ : DOp).Ok 3 room N) (hN : N ≤ 1000000) :
    Calls Try.prog 49 #[.pointer (some ⟨o, 0, none⟩), .pointer (some ⟨m, 0, none⟩)] w (HPost w0 o m a b (.tuple #[]) ((DOp.step 3 room D ⟨0, 1, x, e, t, false, 0, 0⟩).1.prog 3 base room) (DOp.step 3 room D ⟨0, 1, x, e, t, false, 0, 0⟩).2) := by
  obtain ⟨-, -, hp⟩ := ho
  have hp := hp rfl
  have hroom := h.h.hroom.2
  have hroom1 := h.h.hroom.1
  simp [DqOk, Ok3] at hp hD
  simp only [DOp.prog] at hroom hroom1
  replace h : HW w0 w o m a b ⟨(3 : Nat), base, room, x, e, t, 49, false, 0, 0, false⟩ D := h
  by_cases hE : (room : Int) ≤ D 0 - t
  · exact hcast (m_pushTail_full h (by omega) (by omega) (by omega) (by omega) hE) (by simp [DOp.step, DOp.step3, DOp.prog, DOp.pe, DOp.nx, hE]) (by simp [DOp.step, DOp.step3, hE])
  · exact hcast (m_pushTail h (by omega) (by omega) (by omega) (by omega) (by omega)) (by simp [DOp.step, DOp.step3, DOp.prog, DOp.pe, DOp.nx, hE]) (by simp [DOp.step, DOp.step3, hE])

theorem mv_3_0_2 (h : HW w0 w o m a b ((⟨0, 2, x, e, t, false, 0, 0⟩ : DOp).prog 3 base room) D) (hD : DqOk 3 room N D) (ho : (⟨0, 2, x, e, t, false, 0, 0⟩ : DOp).Ok 3 room N) (hN : N ≤ 1000000) :
    Calls Try.prog 44 #[.pointer (some ⟨o, 0, none⟩), .pointer (some ⟨m, 0, none⟩)] w (HPost w0 o m a b (.tuple #[]) ((DOp.step 3 room D ⟨0, 2, x, e, t, false, 0, 0⟩).1.prog 3 base room) (DOp.step 3 room D ⟨0, 2, x, e, t, false, 0, 0⟩).2) := by
  obtain ⟨-, -, hp⟩ := ho
  have hp := hp rfl
  have hroom := h.h.hroom.2
  have hroom1 := h.h.hroom.1
  simp [DqOk, Ok3] at hp hD
  simp only [DOp.prog] at hroom hroom1
  replace h : HW w0 w o m a b ⟨(3 : Nat), base, room, x, e, t, 44, false, 0, 0, false⟩ D := h
  exact hcast (m_pushSlot h (by omega) (by omega)) (by simp [DOp.step, DOp.step3, DOp.prog, DOp.pe, DOp.nx]) (by simp [DOp.step, DOp.step3])

theorem mv_3_0_3 (h : HW w0 w o m a b ((⟨0, 3, x, e, t, false, 0, 0⟩ : DOp).prog 3 base room) D) (hD : DqOk 3 room N D) (ho : (⟨0, 3, x, e, t, false, 0, 0⟩ : DOp).Ok 3 room N) (hN : N ≤ 1000000) :
    Calls Try.prog 59 #[.pointer (some ⟨o, 0, none⟩), .pointer (some ⟨m, 0, none⟩)] w (HPost w0 o m a b (.tuple #[]) ((DOp.step 3 room D ⟨0, 3, x, e, t, false, 0, 0⟩).1.prog 3 base room) (DOp.step 3 room D ⟨0, 3, x, e, t, false, 0, 0⟩).2) := by
  obtain ⟨-, -, hp⟩ := ho
  have hp := hp rfl
  have hroom := h.h.hroom.2
  have hroom1 := h.h.hroom.1
  simp [DqOk, Ok3] at hp hD
  simp only [DOp.prog] at hroom hroom1
  replace h : HW w0 w o m a b ⟨(3 : Nat), base, room, x, e, t, 59, false, 0, 0, false⟩ D := h
  exact hcast (m_pushOver h (by omega) (by omega)) (by simp [DOp.step, DOp.step3, DOp.prog, DOp.pe, DOp.nx]) (by simp [DOp.step, DOp.step3])

theorem mv_3_1_0 (h : HW w0 w o m a b ((⟨1, 0, x, e, t, false, 0, 0⟩ : DOp).prog 3 base room) D) (hD : DqOk 3 room N D) (ho : (⟨1, 0, x, e, t, false, 0, 0⟩ : DOp).Ok 3 room N) (hN : N ≤ 1000000) :
    Calls Try.prog 34 #[.pointer (some ⟨o, 0, none⟩), .pointer (some ⟨m, 0, none⟩)] w (HPost w0 o m a b (.tuple #[]) ((DOp.step 3 room D ⟨1, 0, x, e, t, false, 0, 0⟩).1.prog 3 base room) (DOp.step 3 room D ⟨1, 0, x, e, t, false, 0, 0⟩).2) := by
  obtain ⟨-, -, hp⟩ := ho
  have hp := hp rfl
  have hroom := h.h.hroom.2
  have hroom1 := h.h.hroom.1
  simp [DqOk, Ok3] at hp hD
  simp only [DOp.prog] at hroom hroom1
  replace h : HW w0 w o m a b ⟨(3 : Nat), base, room, x, e, t, 34, false, 0, 0, true⟩ D := h
  exact hcast (m_headTop h) (by simp [DOp.step, DOp.step3, DOp.prog, DOp.pe, DOp.nx]) (by simp [DOp.step, DOp.step3])

theorem mv_3_1_1 (h : HW w0 w o m a b ((⟨1, 1, x, e, t, false, 0, 0⟩ : DOp).prog 3 base room) D) (hD : DqOk 3 room N D) (ho : (⟨1, 1, x, e, t, false, 0, 0⟩ : DOp).Ok 3 room N) (hN : N ≤ 1000000) :
    Calls Try.prog 52 #[.pointer (some ⟨o, 0, none⟩), .pointer (some ⟨m, 0, none⟩)] w (HPost w0 o m a b (.tuple #[]) ((DOp.step 3 room D ⟨1, 1, x, e, t, false, 0, 0⟩).1.prog 3 base room) (DOp.step 3 room D ⟨1, 1, x, e, t, false, 0, 0⟩).2) := by
  obtain ⟨-, -, hp⟩ := ho
  have hp := hp rfl
  have hroom := h.h.hroom.2
  have hroom1 := h.h.hroom.1
  simp [DqOk, Ok3] at hp hD
  simp only [DOp.prog] at hroom hroom1
  replace h : HW w0 w o m a b ⟨(3 : Nat), base, room, x, e, t, 52, false, 0, 0, true⟩ D := h
  by_cases hE : D 0 ≤ t
  · exact hcast (m_headEnd_full h hE) (by simp [DOp.step, DOp.step3, DOp.prog, DOp.pe, DOp.nx, hE]) (by simp [DOp.step, DOp.step3, hE])
  · exact hcast (m_headEnd h (by omega)) (by simp [DOp.step, DOp.step3, DOp.prog, DOp.pe, DOp.nx, hE]) (by simp [DOp.step, DOp.step3, hE])

theorem mv_3_1_2 (h : HW w0 w o m a b ((⟨1, 2, x, e, t, false, 0, 0⟩ : DOp).prog 3 base room) D) (hD : DqOk 3 room N D) (ho : (⟨1, 2, x, e, t, false, 0, 0⟩ : DOp).Ok 3 room N) (hN : N ≤ 1000000) :
    Calls Try.prog 64 #[.pointer (some ⟨o, 0, none⟩), .pointer (some ⟨m, 0, none⟩)] w (HPost w0 o m a b (.tuple #[]) ((DOp.step 3 room D ⟨1, 2, x, e, t, false, 0, 0⟩).1.prog 3 base room) (DOp.step 3 room D ⟨1, 2, x, e, t, false, 0, 0⟩).2) := by
  obtain ⟨-, -, hp⟩ := ho
  have hp := hp rfl
  have hroom := h.h.hroom.2
  have hroom1 := h.h.hroom.1
  simp [DqOk, Ok3] at hp hD
  simp only [DOp.prog] at hroom hroom1
  replace h : HW w0 w o m a b ⟨(3 : Nat), base, room, x, e, t, 64, false, 0, 0, true⟩ D := h
  exact hcast (m_headSlot_own h (by omega) (by omega)) (by simp [DOp.step, DOp.step3, DOp.prog, DOp.pe, DOp.nx]) (by simp [DOp.step, DOp.step3])

theorem mv_3_1_3 (h : HW w0 w o m a b ((⟨1, 3, x, e, t, false, 0, 0⟩ : DOp).prog 3 base room) D) (hD : DqOk 3 room N D) (ho : (⟨1, 3, x, e, t, false, 0, 0⟩ : DOp).Ok 3 room N) (hN : N ≤ 1000000) :
    Calls Try.prog 76 #[.pointer (some ⟨o, 0, none⟩), .pointer (some ⟨m, 0, none⟩)] w (HPost w0 o m a b (.tuple #[]) ((DOp.step 3 room D ⟨1, 3, x, e, t, false, 0, 0⟩).1.prog 3 base room) (DOp.step 3 room D ⟨1, 3, x, e, t, false, 0, 0⟩).2) := by
  obtain ⟨-, -, hp⟩ := ho
  have hp := hp rfl
  have hroom := h.h.hroom.2
  have hroom1 := h.h.hroom.1
  simp [DqOk, Ok3] at hp hD
  simp only [DOp.prog] at hroom hroom1
  replace h : HW w0 w o m a b ⟨(3 : Nat), base, room, x, e, t, 76, false, 0, 0, true⟩ D := h
  exact hcast (m_headStore h (by omega) (by omega)) (by simp [DOp.step, DOp.step3, DOp.prog, DOp.pe, DOp.nx]) (by simp [DOp.step, DOp.step3])

theorem mv_3_2_0 (h : HW w0 w o m a b ((⟨2, 0, x, e, t, false, 0, 0⟩ : DOp).prog 3 base room) D) (hD : DqOk 3 room N D) (ho : (⟨2, 0, x, e, t, false, 0, 0⟩ : DOp).Ok 3 room N) (hN : N ≤ 1000000) :
    Calls Try.prog 34 #[.pointer (some ⟨o, 0, none⟩), .pointer (some ⟨m, 0, none⟩)] w (HPost w0 o m a b (.tuple #[]) ((DOp.step 3 room D ⟨2, 0, x, e, t, false, 0, 0⟩).1.prog 3 base room) (DOp.step 3 room D ⟨2, 0, x, e, t, false, 0, 0⟩).2) := by
  obtain ⟨-, -, hp⟩ := ho
  have hp := hp rfl
  have hroom := h.h.hroom.2
  have hroom1 := h.h.hroom.1
  simp [DqOk, Ok3] at hp hD
  simp only [DOp.prog] at hroom hroom1
  replace h : HW w0 w o m a b ⟨(3 : Nat), base, room, x, e, t, 34, false, 0, 0, false⟩ D := h
  exact hcast (m_headTop h) (by simp [DOp.step, DOp.step3, DOp.prog, DOp.pe, DOp.nx]) (by simp [DOp.step, DOp.step3])

theorem mv_3_2_1 (h : HW w0 w o m a b ((⟨2, 1, x, e, t, false, 0, 0⟩ : DOp).prog 3 base room) D) (hD : DqOk 3 room N D) (ho : (⟨2, 1, x, e, t, false, 0, 0⟩ : DOp).Ok 3 room N) (hN : N ≤ 1000000) :
    Calls Try.prog 52 #[.pointer (some ⟨o, 0, none⟩), .pointer (some ⟨m, 0, none⟩)] w (HPost w0 o m a b (.tuple #[]) ((DOp.step 3 room D ⟨2, 1, x, e, t, false, 0, 0⟩).1.prog 3 base room) (DOp.step 3 room D ⟨2, 1, x, e, t, false, 0, 0⟩).2) := by
  obtain ⟨-, -, hp⟩ := ho
  have hp := hp rfl
  have hroom := h.h.hroom.2
  have hroom1 := h.h.hroom.1
  simp [DqOk, Ok3] at hp hD
  simp only [DOp.prog] at hroom hroom1
  replace h : HW w0 w o m a b ⟨(3 : Nat), base, room, x, e, t, 52, false, 0, 0, false⟩ D := h
  by_cases hE : D 0 ≤ t
  · exact hcast (m_headEnd_full h hE) (by simp [DOp.step, DOp.step3, DOp.prog, DOp.pe, DOp.nx, hE]) (by simp [DOp.step, DOp.step3, hE])
  · exact hcast (m_headEnd h (by omega)) (by simp [DOp.step, DOp.step3, DOp.prog, DOp.pe, DOp.nx, hE]) (by simp [DOp.step, DOp.step3, hE])

theorem mv_3_2_2 (h : HW w0 w o m a b ((⟨2, 2, x, e, t, false, 0, 0⟩ : DOp).prog 3 base room) D) (hD : DqOk 3 room N D) (ho : (⟨2, 2, x, e, t, false, 0, 0⟩ : DOp).Ok 3 room N) (hN : N ≤ 1000000) :
    Calls Try.prog 64 #[.pointer (some ⟨o, 0, none⟩), .pointer (some ⟨m, 0, none⟩)] w (HPost w0 o m a b (.tuple #[]) ((DOp.step 3 room D ⟨2, 2, x, e, t, false, 0, 0⟩).1.prog 3 base room) (DOp.step 3 room D ⟨2, 2, x, e, t, false, 0, 0⟩).2) := by
  obtain ⟨-, -, hp⟩ := ho
  have hp := hp rfl
  have hroom := h.h.hroom.2
  have hroom1 := h.h.hroom.1
  simp [DqOk, Ok3] at hp hD
  simp only [DOp.prog] at hroom hroom1
  replace h : HW w0 w o m a b ⟨(3 : Nat), base, room, x, e, t, 64, false, 0, 0, false⟩ D := h
  exact hcast (m_headSlot_thief h (by omega) (by omega)) (by simp [DOp.step, DOp.step3, DOp.prog, DOp.pe, DOp.nx]) (by simp [DOp.step, DOp.step3])

theorem mv_3_2_3 (h : HW w0 w o m a b ((⟨2, 3, x, e, t, false, 0, 0⟩ : DOp).prog 3 base room) D) (hD : DqOk 3 room N D) (ho : (⟨2, 3, x, e, t, false, 0, 0⟩ : DOp).Ok 3 room N) (hN : N ≤ 1000000) :
    Calls Try.prog 75 #[.pointer (some ⟨o, 0, none⟩), .pointer (some ⟨m, 0, none⟩)] w (HPost w0 o m a b (.tuple #[]) ((DOp.step 3 room D ⟨2, 3, x, e, t, false, 0, 0⟩).1.prog 3 base room) (DOp.step 3 room D ⟨2, 3, x, e, t, false, 0, 0⟩).2) := by
  obtain ⟨-, -, hp⟩ := ho
  have hp := hp rfl
  have hroom := h.h.hroom.2
  have hroom1 := h.h.hroom.1
  simp [DqOk, Ok3] at hp hD
  simp only [DOp.prog] at hroom hroom1
  replace h : HW w0 w o m a b ⟨(3 : Nat), base, room, x, e, t, 75, false, 0, 0, false⟩ D := h
  by_cases hE : D 1 = t
  · exact hcast (m_headSwap h (by omega) (by omega)) (by simp [DOp.step, DOp.step3, DOp.prog, DOp.pe, DOp.nx, OpD.takenW, OpD.doneW, OpD.endsW, Dq.hit, hE]) (by simp [DOp.step, DOp.step3, Dq.swap, hE])
  · exact hcast (m_headSwap h (by omega) (by omega)) (by simp [DOp.step, DOp.step3, DOp.prog, DOp.pe, DOp.nx, OpD.takenW, OpD.doneW, OpD.endsW, Dq.hit, hE]) (by simp [DOp.step, DOp.step3, Dq.swap, hE])

theorem mv_1 (s : DOp) (h : HW w0 w o m a b (s.prog 1 base room) D) (hD : DqOk 1 room N D) (ho : s.Ok 1 room N) (hN : N ≤ 1000000) (he : s.ended = false) :
    Calls Try.prog (s.nx 1) #[.pointer (some ⟨o, 0, none⟩), .pointer (some ⟨m, 0, none⟩)] w (HPost w0 o m a b (.tuple #[]) ((s.step 1 room D).1.prog 1 base room) (s.step 1 room D).2) := by
  obtain ⟨what, next, x, e, t, ended, result, why⟩ := s
  simp only at he
  subst he
  have hz := ho.zero rfl
  have hw := ho.what
  have hp := ho.pc rfl
  simp only at hz hw
  obtain ⟨rfl, rfl⟩ := hz
  simp [Ok1] at hp
  rcases three_cases hw with rfl | rfl | rfl
  · rcases (show next = 0 ∨ next = 1 ∨ next = 2 by omega) with rfl | rfl | rfl
    · exact mv_1_0_0 h hD ho hN
    · exact mv_1_0_1 h hD ho hN
    · exact mv_1_0_2 h hD ho hN
  · rcases (show next = 0 ∨ next = 1 ∨ next = 2 ∨ next = 3 ∨ next = 4 ∨ next = 5 ∨ next = 6 by omega) with rfl | rfl | rfl | rfl | rfl | rfl | rfl
    · exact mv_1_1_0 h hD ho hN
    · exact mv_1_1_1 h hD ho hN
    · exact mv_1_1_2 h hD ho hN
    · exact mv_1_1_3 h hD ho hN
    · exact mv_1_1_4 h hD ho hN
    · exact mv_1_1_5 h hD ho hN
    · exact mv_1_1_6 h hD ho hN
  · rcases (show next = 0 ∨ next = 1 ∨ next = 2 ∨ next = 3 by omega) with rfl | rfl | rfl | rfl
    · exact mv_1_2_0 h hD ho hN
    · exact mv_1_2_1 h hD ho hN
    · exact mv_1_2_2 h hD ho hN
    · exact mv_1_2_3 h hD ho hN

theorem mv_2 (s : DOp) (h : HW w0 w o m a b (s.prog 2 base room) D) (hD : DqOk 2 room N D) (ho : s.Ok 2 room N) (hN : N ≤ 1000000) (he : s.ended = false) :
    Calls Try.prog (s.nx 2) #[.pointer (some ⟨o, 0, none⟩), .pointer (some ⟨m, 0, none⟩)] w (HPost w0 o m a b (.tuple #[]) ((s.step 2 room D).1.prog 2 base room) (s.step 2 room D).2) := by
  obtain ⟨what, next, x, e, t, ended, result, why⟩ := s
  simp only at he
  subst he
  have hz := ho.zero rfl
  have hw := ho.what
  have hp := ho.pc rfl
  simp only at hz hw
  obtain ⟨rfl, rfl⟩ := hz
  simp [Ok2] at hp
  rcases three_cases hw with rfl | rfl | rfl
  · rcases (show next = 0 ∨ next = 1 ∨ next = 2 by omega) with rfl | rfl | rfl
    · exact mv_2_0_0 h hD ho hN
    · exact mv_2_0_1 h hD ho hN
    · exact mv_2_0_2 h hD ho hN
  · rcases (show next = 0 ∨ next = 1 ∨ next = 2 by omega) with rfl | rfl | rfl
    · exact mv_2_1_0 h hD ho hN
    · exact mv_2_1_1 h hD ho hN
    · exact mv_2_1_2 h hD ho hN
  · rcases (show next = 0 ∨ next = 1 ∨ next = 2 by omega) with rfl | rfl | rfl
    · exact mv_2_2_0 h hD ho hN
    · exact mv_2_2_1 h hD ho hN
    · exact mv_2_2_2 h hD ho hN

theorem mv_3 (s : DOp) (h : HW w0 w o m a b (s.prog 3 base room) D) (hD : DqOk 3 room N D) (ho : s.Ok 3 room N) (hN : N ≤ 1000000) (he : s.ended = false) :
    Calls Try.prog (s.nx 3) #[.pointer (some ⟨o, 0, none⟩), .pointer (some ⟨m, 0, none⟩)] w (HPost w0 o m a b (.tuple #[]) ((s.step 3 room D).1.prog 3 base room) (s.step 3 room D).2) := by
  obtain ⟨what, next, x, e, t, ended, result, why⟩ := s
  simp only at he
  subst he
  have hz := ho.zero rfl
  have hw := ho.what
  have hp := ho.pc rfl
  simp only at hz hw
  obtain ⟨rfl, rfl⟩ := hz
  simp [Ok3] at hp
  rcases three_cases hw with rfl | rfl | rfl
  · rcases (show next = 0 ∨ next = 1 ∨ next = 2 ∨ next = 3 by omega) with rfl | rfl | rfl | rfl
    · exact mv_3_0_0 h hD ho hN
    · exact mv_3_0_1 h hD ho hN
    · exact mv_3_0_2 h hD ho hN
    · exact mv_3_0_3 h hD ho hN
  · rcases (show next = 0 ∨ next = 1 ∨ next = 2 ∨ next = 3 by omega) with rfl | rfl | rfl | rfl
    · exact mv_3_1_0 h hD ho hN
    · exact mv_3_1_1 h hD ho hN
    · exact mv_3_1_2 h hD ho hN
    · exact mv_3_1_3 h hD ho hN
  · rcases (show next = 0 ∨ next = 1 ∨ next = 2 ∨ next = 3 by omega) with rfl | rfl | rfl | rfl
    · exact mv_3_2_0 h hD ho hN
    · exact mv_3_2_1 h hD ho hN
    · exact mv_3_2_2 h hD ho hN
    · exact mv_3_2_3 h hD ho hN

end
end Go.Proofs.Ytlogmfpnjpamgaa
