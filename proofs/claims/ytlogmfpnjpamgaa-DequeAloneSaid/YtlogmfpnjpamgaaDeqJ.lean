/- Layer 9: the moves of an operation: tests with a place. -/
import Derived.Test.YtlogmfpnjpamgaaDeqI
open Go Go.RowKit
namespace Go.Proofs.Ytlogmfpnjpamgaa

section
variable {w0 w : World} {o m a b : Nat} {D : Dq} {kind : Int} {base room : Nat} {x e t : Int} {nx : Nat} {result why : Int} {owner : Bool}

theorem quiet_eq {P : Program} {f : FuncId} {args : Array Value} {w : World} {n : Nat} {v : Value} (h : Calls P f args (w.drewN n) fun e w' => e = .returned v ∧ w.drewN n = w') : Calls P f args (w.drewN n) fun e w'' => e = .returned v ∧ ∃ m, w'' = w.drewN m :=
  h.mono fun _ _ ⟨he, hm⟩ => ⟨he, n, hm.symm⟩

theorem m_lastTop_full (h : HW w0 w o m a b ⟨kind, base, room, x, e, t, nx, false, result, why, owner⟩ D) (hT0 : 0 ≤ D 1) (hT1 : D 1 < 1099511627776) (hE : D 1 % 65536 = 0) :
    Calls Try.prog 33 #[.pointer (some ⟨o, 0, none⟩), .pointer (some ⟨m, 0, none⟩)] w (HPost w0 o m a b (.tuple #[]) ⟨kind, base, room, x, e, D 1, 51, true, result, 9, owner⟩ D) := by
  have hEb : (D 1 % 65536 == 0) = true := by simpa using hE
  have HE := Lib.hid hE; clear hE
  have hh := h
  obtain ⟨k0, k1, k2, k3, k4, k5, k6, k7, k8, k9, k10, klt, f3, f4, f5, f6⟩ := hh.facts
  have hbase := hh.h.hbase; have hroom := hh.h.hroom; simp only at hbase hroom; have H0 := Lib.hid hh; clear hh h
  go_enter Try.func33, Try.ntmps33
  go_wp2_with fail
  refine (w_top H0.out _ _ _ (by omega) (by omega)).mono ?_
  rintro e w1 ⟨rfl, hh⟩
  clear k0 k1 k2 k3 k4 k5 k6 k7 k8 k9 k10 klt f3 f4 f5 f6
  obtain ⟨k0, k1, k2, k3, k4, k5, k6, k7, k8, k9, k10, klt, f3, f4, f5, f6⟩ := hh.facts
  have H1 := Lib.hid hh; clear hh
  go_wp2_with fail
  refine (w_load H1.out _ 1 (by simp) (by simp)).mono ?_
  rintro e w2 ⟨rfl, hh⟩
  clear k0 k1 k2 k3 k4 k5 k6 k7 k8 k9 k10 klt f3 f4 f5 f6
  obtain ⟨k0, k1, k2, k3, k4, k5, k6, k7, k8, k9, k10, klt, f3, f4, f5, f6⟩ := hh.facts
  have H2 := Lib.hid hh; clear hh
  go_wp2_with fail
  refine (w_place ((H2.out.setT (D 1)).setN 51) hT0 (by simp only; omega)).mono ?_
  rintro e w3 ⟨rfl, hh⟩
  clear k0 k1 k2 k3 k4 k5 k6 k7 k8 k9 k10 klt f3 f4 f5 f6
  obtain ⟨k0, k1, k2, k3, k4, k5, k6, k7, k8, k9, k10, klt, f3, f4, f5, f6⟩ := hh.facts
  have H3 := Lib.hid hh; clear hh
  go_wp2_with fail
  refine (w_ends (H3.out) 9).mono ?_
  rintro e w9 ⟨rfl, hh⟩
  have H9 := Lib.hid hh; clear hh
  go_wp2_with fail
  go_end0
  exact ⟨rfl, H9.out⟩

theorem m_lastTop (h : HW w0 w o m a b ⟨kind, base, room, x, e, t, nx, false, result, why, owner⟩ D) (hT0 : 0 ≤ D 1) (hT1 : D 1 < 1099511627776) (hE : D 1 % 65536 ≠ 0) :
    Calls Try.prog 33 #[.pointer (some ⟨o, 0, none⟩), .pointer (some ⟨m, 0, none⟩)] w (HPost w0 o m a b (.tuple #[]) ⟨kind, base, room, x, e, D 1, 51, false, result, why, owner⟩ D) := by
  have hEb : (D 1 % 65536 == 0) = false := by simpa using hE
  have HE := Lib.hid hE; clear hE
  have hh := h
  obtain ⟨k0, k1, k2, k3, k4, k5, k6, k7, k8, k9, k10, klt, f3, f4, f5, f6⟩ := hh.facts
  have hbase := hh.h.hbase; have hroom := hh.h.hroom; simp only at hbase hroom; have H0 := Lib.hid hh; clear hh h
  go_enter Try.func33, Try.ntmps33
  go_wp2_with fail
  refine (w_top H0.out _ _ _ (by omega) (by omega)).mono ?_
  rintro e w1 ⟨rfl, hh⟩
  clear k0 k1 k2 k3 k4 k5 k6 k7 k8 k9 k10 klt f3 f4 f5 f6
  obtain ⟨k0, k1, k2, k3, k4, k5, k6, k7, k8, k9, k10, klt, f3, f4, f5, f6⟩ := hh.facts
  have H1 := Lib.hid hh; clear hh
  go_wp2_with fail
  refine (w_load H1.out _ 1 (by simp) (by simp)).mono ?_
  rintro e w2 ⟨rfl, hh⟩
  clear k0 k1 k2 k3 k4 k5 k6 k7 k8 k9 k10 klt f3 f4 f5 f6
  obtain ⟨k0, k1, k2, k3, k4, k5, k6, k7, k8, k9, k10, klt, f3, f4, f5, f6⟩ := hh.facts
  have H2 := Lib.hid hh; clear hh
  go_wp2_with fail
  refine (w_place ((H2.out.setT (D 1)).setN 51) hT0 (by simp only; omega)).mono ?_
  rintro e w3 ⟨rfl, hh⟩
  clear k0 k1 k2 k3 k4 k5 k6 k7 k8 k9 k10 klt f3 f4 f5 f6
  obtain ⟨k0, k1, k2, k3, k4, k5, k6, k7, k8, k9, k10, klt, f3, f4, f5, f6⟩ := hh.facts
  have H3 := Lib.hid hh; clear hh
  go_wp2_with fail
  go_end0
  exact ⟨rfl, H3.out⟩

theorem m_pushTop_full (h : HW w0 w o m a b ⟨kind, base, room, x, e, t, nx, false, result, why, owner⟩ D) (hT0 : 0 ≤ D 1) (hT1 : D 1 < 1099511627776) (hE : D 1 % 65536 = room) :
    Calls Try.prog 30 #[.pointer (some ⟨o, 0, none⟩), .pointer (some ⟨m, 0, none⟩)] w (HPost w0 o m a b (.tuple #[]) ⟨kind, base, room, x, (D 1 % 65536), D 1, 48, true, result, 8, owner⟩ D) := by
  have hEb : (D 1 % 65536 == (room : Int)) = true := by simpa using hE
  have HE := Lib.hid hE; clear hE
  have hh := h
  obtain ⟨k0, k1, k2, k3, k4, k5, k6, k7, k8, k9, k10, klt, f3, f4, f5, f6⟩ := hh.facts
  have hbase := hh.h.hbase; have hroom := hh.h.hroom; simp only at hbase hroom; have H0 := Lib.hid hh; clear hh h
  go_enter Try.func30, Try.ntmps30
  go_wp2_with fail
  refine (w_top H0.out _ _ _ (by omega) (by omega)).mono ?_
  rintro e w1 ⟨rfl, hh⟩
  clear k0 k1 k2 k3 k4 k5 k6 k7 k8 k9 k10 klt f3 f4 f5 f6
  obtain ⟨k0, k1, k2, k3, k4, k5, k6, k7, k8, k9, k10, klt, f3, f4, f5, f6⟩ := hh.facts
  have H1 := Lib.hid hh; clear hh
  go_wp2_with fail
  refine (w_load H1.out _ 1 (by simp) (by simp)).mono ?_
  rintro e w2 ⟨rfl, hh⟩
  clear k0 k1 k2 k3 k4 k5 k6 k7 k8 k9 k10 klt f3 f4 f5 f6
  obtain ⟨k0, k1, k2, k3, k4, k5, k6, k7, k8, k9, k10, klt, f3, f4, f5, f6⟩ := hh.facts
  have H2 := Lib.hid hh; clear hh
  go_wp2_with fail
  refine (w_place (H2.out.setT (D 1)) hT0 (by simp only; omega)).mono ?_
  rintro e w3 ⟨rfl, hh⟩
  clear k0 k1 k2 k3 k4 k5 k6 k7 k8 k9 k10 klt f3 f4 f5 f6
  obtain ⟨k0, k1, k2, k3, k4, k5, k6, k7, k8, k9, k10, klt, f3, f4, f5, f6⟩ := hh.facts
  have H3 := Lib.hid hh; clear hh
  go_wp2_with fail
  go_quiet (fail)
  go_wp2_with fail
  refine (w_ends (((H3.out.setE (D 1 % 65536)).setN 48).drewN nq) 8).mono ?_
  rintro e w9 ⟨rfl, hh⟩
  have H9 := Lib.hid hh; clear hh
  go_wp2_with fail
  go_end0
  exact ⟨rfl, H9.out⟩

theorem m_pushTop (h : HW w0 w o m a b ⟨kind, base, room, x, e, t, nx, false, result, why, owner⟩ D) (hT0 : 0 ≤ D 1) (hT1 : D 1 < 1099511627776) (hE : D 1 % 65536 ≠ room) :
    Calls Try.prog 30 #[.pointer (some ⟨o, 0, none⟩), .pointer (some ⟨m, 0, none⟩)] w (HPost w0 o m a b (.tuple #[]) ⟨kind, base, room, x, (D 1 % 65536), D 1, 48, false, result, why, owner⟩ D) := by
  have hEb : (D 1 % 65536 == (room : Int)) = false := by simpa using hE
  have HE := Lib.hid hE; clear hE
  have hh := h
  obtain ⟨k0, k1, k2, k3, k4, k5, k6, k7, k8, k9, k10, klt, f3, f4, f5, f6⟩ := hh.facts
  have hbase := hh.h.hbase; have hroom := hh.h.hroom; simp only at hbase hroom; have H0 := Lib.hid hh; clear hh h
  go_enter Try.func30, Try.ntmps30
  go_wp2_with fail
  refine (w_top H0.out _ _ _ (by omega) (by omega)).mono ?_
  rintro e w1 ⟨rfl, hh⟩
  clear k0 k1 k2 k3 k4 k5 k6 k7 k8 k9 k10 klt f3 f4 f5 f6
  obtain ⟨k0, k1, k2, k3, k4, k5, k6, k7, k8, k9, k10, klt, f3, f4, f5, f6⟩ := hh.facts
  have H1 := Lib.hid hh; clear hh
  go_wp2_with fail
  refine (w_load H1.out _ 1 (by simp) (by simp)).mono ?_
  rintro e w2 ⟨rfl, hh⟩
  clear k0 k1 k2 k3 k4 k5 k6 k7 k8 k9 k10 klt f3 f4 f5 f6
  obtain ⟨k0, k1, k2, k3, k4, k5, k6, k7, k8, k9, k10, klt, f3, f4, f5, f6⟩ := hh.facts
  have H2 := Lib.hid hh; clear hh
  go_wp2_with fail
  refine (w_place (H2.out.setT (D 1)) hT0 (by simp only; omega)).mono ?_
  rintro e w3 ⟨rfl, hh⟩
  clear k0 k1 k2 k3 k4 k5 k6 k7 k8 k9 k10 klt f3 f4 f5 f6
  obtain ⟨k0, k1, k2, k3, k4, k5, k6, k7, k8, k9, k10, klt, f3, f4, f5, f6⟩ := hh.facts
  have H3 := Lib.hid hh; clear hh
  go_wp2_with fail
  go_quiet (fail)
  go_wp2_with fail
  go_end0
  exact ⟨rfl, ((H3.out.setE (D 1 % 65536)).setN 48).drewN nq⟩

theorem m_pushTail_full (h : HW w0 w o m a b ⟨kind, base, room, x, e, t, nx, false, result, why, owner⟩ D) (hE0 : 0 ≤ D 0) (hE1 : D 0 < 4611686018427387904) (ht0 : 0 ≤ t) (ht1 : t < 4611686018427387904) (hE : (room : Int) ≤ D 0 - t) :
    Calls Try.prog 49 #[.pointer (some ⟨o, 0, none⟩), .pointer (some ⟨m, 0, none⟩)] w (HPost w0 o m a b (.tuple #[]) ⟨kind, base, room, x, D 0, t, 44, true, result, 8, owner⟩ D) := by
  have hs2 : IntKind.i64.wrap (D 0 - t) = D 0 - t := IntWalk.i64_in _ (by omega)
  have hEb : (room : Int) ≤ D 0 - t := hE
  have HE := Lib.hid hE; clear hE
  have hh := h
  obtain ⟨k0, k1, k2, k3, k4, k5, k6, k7, k8, k9, k10, klt, f3, f4, f5, f6⟩ := hh.facts
  have hbase := hh.h.hbase; have hroom := hh.h.hroom; simp only at hbase hroom; have H0 := Lib.hid hh; clear hh h
  go_enter Try.func49, Try.ntmps49
  go_wp2_with fail
  refine (w_end H0.out _ _ _).mono ?_
  rintro e w1 ⟨rfl, hh⟩
  clear k0 k1 k2 k3 k4 k5 k6 k7 k8 k9 k10 klt f3 f4 f5 f6
  obtain ⟨k0, k1, k2, k3, k4, k5, k6, k7, k8, k9, k10, klt, f3, f4, f5, f6⟩ := hh.facts
  have H1 := Lib.hid hh; clear hh
  go_wp2_with fail
  refine (w_load H1.out _ 0 (by simp) (by simp)).mono ?_
  rintro e w2 ⟨rfl, hh⟩
  clear k0 k1 k2 k3 k4 k5 k6 k7 k8 k9 k10 klt f3 f4 f5 f6
  obtain ⟨k0, k1, k2, k3, k4, k5, k6, k7, k8, k9, k10, klt, f3, f4, f5, f6⟩ := hh.facts
  have H2 := Lib.hid hh; clear hh
  go_wp2_with fail
  go_quiet (fail)
  go_wp2_with fail
  refine (w_ends (((H2.out.setE (D 0)).setN 44).drewN nq) 8).mono ?_
  rintro e w9 ⟨rfl, hh⟩
  have H9 := Lib.hid hh; clear hh
  go_wp2_with fail
  go_end0
  exact ⟨rfl, H9.out⟩

theorem m_pushTail (h : HW w0 w o m a b ⟨kind, base, room, x, e, t, nx, false, result, why, owner⟩ D) (hE0 : 0 ≤ D 0) (hE1 : D 0 < 4611686018427387904) (ht0 : 0 ≤ t) (ht1 : t < 4611686018427387904) (hE : D 0 - t < room) :
    Calls Try.prog 49 #[.pointer (some ⟨o, 0, none⟩), .pointer (some ⟨m, 0, none⟩)] w (HPost w0 o m a b (.tuple #[]) ⟨kind, base, room, x, D 0, t, 44, false, result, why, owner⟩ D) := by
  have hs2 : IntKind.i64.wrap (D 0 - t) = D 0 - t := IntWalk.i64_in _ (by omega)
  have hEb : decide ((room : Int) ≤ D 0 - t) = false := by simp; omega
  have HE := Lib.hid hE; clear hE
  have hh := h
  obtain ⟨k0, k1, k2, k3, k4, k5, k6, k7, k8, k9, k10, klt, f3, f4, f5, f6⟩ := hh.facts
  have hbase := hh.h.hbase; have hroom := hh.h.hroom; simp only at hbase hroom; have H0 := Lib.hid hh; clear hh h
  go_enter Try.func49, Try.ntmps49
  go_wp2_with fail
  refine (w_end H0.out _ _ _).mono ?_
  rintro e w1 ⟨rfl, hh⟩
  clear k0 k1 k2 k3 k4 k5 k6 k7 k8 k9 k10 klt f3 f4 f5 f6
  obtain ⟨k0, k1, k2, k3, k4, k5, k6, k7, k8, k9, k10, klt, f3, f4, f5, f6⟩ := hh.facts
  have H1 := Lib.hid hh; clear hh
  go_wp2_with fail
  refine (w_load H1.out _ 0 (by simp) (by simp)).mono ?_
  rintro e w2 ⟨rfl, hh⟩
  clear k0 k1 k2 k3 k4 k5 k6 k7 k8 k9 k10 klt f3 f4 f5 f6
  obtain ⟨k0, k1, k2, k3, k4, k5, k6, k7, k8, k9, k10, klt, f3, f4, f5, f6⟩ := hh.facts
  have H2 := Lib.hid hh; clear hh
  go_wp2_with fail
  go_quiet (fail)
  go_wp2_with fail
  go_end0
  exact ⟨rfl, ((H2.out.setE (D 0)).setN 44).drewN nq⟩

theorem m_popAge_full (h : HW w0 w o m a b ⟨kind, base, room, x, e, t, nx, false, result, why, owner⟩ D) (hT0 : 0 ≤ D 1) (hT1 : D 1 < 1099511627776) (hE : D 1 % 65536 < e) :
    Calls Try.prog 71 #[.pointer (some ⟨o, 0, none⟩), .pointer (some ⟨m, 0, none⟩)] w (HPost w0 o m a b (.tuple #[]) ⟨kind, base, room, x, e, D 1, 79, true, x, 0, owner⟩ D) := by
  have hEb : D 1 % 65536 < e := hE
  have HE := Lib.hid hE; clear hE
  have hh := h
  obtain ⟨k0, k1, k2, k3, k4, k5, k6, k7, k8, k9, k10, klt, f3, f4, f5, f6⟩ := hh.facts
  have hbase := hh.h.hbase; have hroom := hh.h.hroom; simp only at hbase hroom; have H0 := Lib.hid hh; clear hh h
  go_enter Try.func71, Try.ntmps71
  go_wp2_with fail
  refine (w_top H0.out _ _ _ (by omega) (by omega)).mono ?_
  rintro e w1 ⟨rfl, hh⟩
  clear k0 k1 k2 k3 k4 k5 k6 k7 k8 k9 k10 klt f3 f4 f5 f6
  obtain ⟨k0, k1, k2, k3, k4, k5, k6, k7, k8, k9, k10, klt, f3, f4, f5, f6⟩ := hh.facts
  have H1 := Lib.hid hh; clear hh
  go_wp2_with fail
  refine (w_load H1.out _ 1 (by simp) (by simp)).mono ?_
  rintro e w2 ⟨rfl, hh⟩
  clear k0 k1 k2 k3 k4 k5 k6 k7 k8 k9 k10 klt f3 f4 f5 f6
  obtain ⟨k0, k1, k2, k3, k4, k5, k6, k7, k8, k9, k10, klt, f3, f4, f5, f6⟩ := hh.facts
  have H2 := Lib.hid hh; clear hh
  go_wp2_with fail
  go_quiet ((go_at_call 47; exact quiet_eq (dplace_any o (D 1) _ ((HW.drewN ((H2.out.setT (D 1)).setN 79) _).h.op.cell 5) (by omega) (by omega))))
  go_wp2_with fail
  refine (w_done (((H2.out.setT (D 1)).setN 79).drewN nq)).mono ?_
  rintro e w9 ⟨rfl, hh⟩
  have H9 := Lib.hid hh; clear hh
  go_wp2_with fail
  go_end0
  exact ⟨rfl, H9.out⟩

theorem m_popAge (h : HW w0 w o m a b ⟨kind, base, room, x, e, t, nx, false, result, why, owner⟩ D) (hT0 : 0 ≤ D 1) (hT1 : D 1 < 1099511627776) (hE : e ≤ D 1 % 65536) :
    Calls Try.prog 71 #[.pointer (some ⟨o, 0, none⟩), .pointer (some ⟨m, 0, none⟩)] w (HPost w0 o m a b (.tuple #[]) ⟨kind, base, room, x, e, D 1, 79, false, result, why, owner⟩ D) := by
  have hEb : decide (D 1 % 65536 < e) = false := by simp; omega
  have HE := Lib.hid hE; clear hE
  have hh := h
  obtain ⟨k0, k1, k2, k3, k4, k5, k6, k7, k8, k9, k10, klt, f3, f4, f5, f6⟩ := hh.facts
  have hbase := hh.h.hbase; have hroom := hh.h.hroom; simp only at hbase hroom; have H0 := Lib.hid hh; clear hh h
  go_enter Try.func71, Try.ntmps71
  go_wp2_with fail
  refine (w_top H0.out _ _ _ (by omega) (by omega)).mono ?_
  rintro e w1 ⟨rfl, hh⟩
  clear k0 k1 k2 k3 k4 k5 k6 k7 k8 k9 k10 klt f3 f4 f5 f6
  obtain ⟨k0, k1, k2, k3, k4, k5, k6, k7, k8, k9, k10, klt, f3, f4, f5, f6⟩ := hh.facts
  have H1 := Lib.hid hh; clear hh
  go_wp2_with fail
  refine (w_load H1.out _ 1 (by simp) (by simp)).mono ?_
  rintro e w2 ⟨rfl, hh⟩
  clear k0 k1 k2 k3 k4 k5 k6 k7 k8 k9 k10 klt f3 f4 f5 f6
  obtain ⟨k0, k1, k2, k3, k4, k5, k6, k7, k8, k9, k10, klt, f3, f4, f5, f6⟩ := hh.facts
  have H2 := Lib.hid hh; clear hh
  go_wp2_with fail
  go_quiet ((go_at_call 47; exact quiet_eq (dplace_any o (D 1) _ ((HW.drewN ((H2.out.setT (D 1)).setN 79) _).h.op.cell 5) (by omega) (by omega))))
  go_wp2_with fail
  go_end0
  exact ⟨rfl, ((H2.out.setT (D 1)).setN 79).drewN nq⟩

theorem m_stealEnd_full (h : HW w0 w o m a b ⟨kind, base, room, x, e, t, nx, false, result, why, owner⟩ D) (ht0 : 0 ≤ t) (ht1 : t < 1099511627776) (hpl : t % 65536 ≤ 1000) (hE : D 0 ≤ t % 65536) :
    Calls Try.prog 53 #[.pointer (some ⟨o, 0, none⟩), .pointer (some ⟨m, 0, none⟩)] w (HPost w0 o m a b (.tuple #[]) ⟨kind, base, room, x, D 0, t, 65, true, result, 9, owner⟩ D) := by
  have hEb : D 0 ≤ t % 65536 := hE
  have HE := Lib.hid hE; clear hE
  have hh := h
  obtain ⟨k0, k1, k2, k3, k4, k5, k6, k7, k8, k9, k10, klt, f3, f4, f5, f6⟩ := hh.facts
  have hbase := hh.h.hbase; have hroom := hh.h.hroom; simp only at hbase hroom; have H0 := Lib.hid hh; clear hh h
  go_enter Try.func53, Try.ntmps53
  go_wp2_with fail
  refine (w_end H0.out _ _ _).mono ?_
  rintro e w1 ⟨rfl, hh⟩
  clear k0 k1 k2 k3 k4 k5 k6 k7 k8 k9 k10 klt f3 f4 f5 f6
  obtain ⟨k0, k1, k2, k3, k4, k5, k6, k7, k8, k9, k10, klt, f3, f4, f5, f6⟩ := hh.facts
  have H1 := Lib.hid hh; clear hh
  go_wp2_with fail
  refine (w_load H1.out _ 0 (by simp) (by simp)).mono ?_
  rintro e w2 ⟨rfl, hh⟩
  clear k0 k1 k2 k3 k4 k5 k6 k7 k8 k9 k10 klt f3 f4 f5 f6
  obtain ⟨k0, k1, k2, k3, k4, k5, k6, k7, k8, k9, k10, klt, f3, f4, f5, f6⟩ := hh.facts
  have H2 := Lib.hid hh; clear hh
  go_wp2_with fail
  go_quiet ((go_at_call 47; exact quiet_eq (dplace_any o t _ ((HW.drewN ((H2.out.setE (D 0)).setN 65) _).h.op.cell 5) (by omega) (by omega))))
  go_wp2_with fail
  refine (w_ends (((H2.out.setE (D 0)).setN 65).drewN nq) 9).mono ?_
  rintro e w9 ⟨rfl, hh⟩
  have H9 := Lib.hid hh; clear hh
  go_wp2_with fail
  go_end0
  exact ⟨rfl, H9.out⟩

theorem m_stealEnd (h : HW w0 w o m a b ⟨kind, base, room, x, e, t, nx, false, result, why, owner⟩ D) (ht0 : 0 ≤ t) (ht1 : t < 1099511627776) (hpl : t % 65536 ≤ 1000) (hE : t % 65536 < D 0) :
    Calls Try.prog 53 #[.pointer (some ⟨o, 0, none⟩), .pointer (some ⟨m, 0, none⟩)] w (HPost w0 o m a b (.tuple #[]) ⟨kind, base, room, x, D 0, t, 65, false, result, why, owner⟩ D) := by
  have hEb : decide (D 0 ≤ t % 65536) = false := by simp; omega
  have HE := Lib.hid hE; clear hE
  have hh := h
  obtain ⟨k0, k1, k2, k3, k4, k5, k6, k7, k8, k9, k10, klt, f3, f4, f5, f6⟩ := hh.facts
  have hbase := hh.h.hbase; have hroom := hh.h.hroom; simp only at hbase hroom; have H0 := Lib.hid hh; clear hh h
  go_enter Try.func53, Try.ntmps53
  go_wp2_with fail
  refine (w_end H0.out _ _ _).mono ?_
  rintro e w1 ⟨rfl, hh⟩
  clear k0 k1 k2 k3 k4 k5 k6 k7 k8 k9 k10 klt f3 f4 f5 f6
  obtain ⟨k0, k1, k2, k3, k4, k5, k6, k7, k8, k9, k10, klt, f3, f4, f5, f6⟩ := hh.facts
  have H1 := Lib.hid hh; clear hh
  go_wp2_with fail
  refine (w_load H1.out _ 0 (by simp) (by simp)).mono ?_
  rintro e w2 ⟨rfl, hh⟩
  clear k0 k1 k2 k3 k4 k5 k6 k7 k8 k9 k10 klt f3 f4 f5 f6
  obtain ⟨k0, k1, k2, k3, k4, k5, k6, k7, k8, k9, k10, klt, f3, f4, f5, f6⟩ := hh.facts
  have H2 := Lib.hid hh; clear hh
  go_wp2_with fail
  go_quiet ((go_at_call 47; exact quiet_eq (dplace_any o t _ ((HW.drewN ((H2.out.setE (D 0)).setN 65) _).h.op.cell 5) (by omega) (by omega))))
  go_wp2_with fail
  go_end0
  exact ⟨rfl, ((H2.out.setE (D 0)).setN 65).drewN nq⟩

theorem m_popClear_eq (h : HW w0 w o m a b ⟨kind, base, room, x, e, t, nx, false, result, why, owner⟩ D) (ht0 : 0 ≤ t) (ht1 : t < 1099511627776) (hpl : t % 65536 ≤ 1000) (hE : e = t % 65536) :
    Calls Try.prog 79 #[.pointer (some ⟨o, 0, none⟩), .pointer (some ⟨m, 0, none⟩)] w (HPost w0 o m a b (.tuple #[]) ⟨kind, base, room, x, e, t, 83, false, result, why, owner⟩ (D.put 0 0)) := by
  have hEb : (e == t % 65536) = true := by simpa using hE
  have HE := Lib.hid hE; clear hE
  have hh := h
  obtain ⟨k0, k1, k2, k3, k4, k5, k6, k7, k8, k9, k10, klt, f3, f4, f5, f6⟩ := hh.facts
  have hbase := hh.h.hbase; have hroom := hh.h.hroom; simp only at hbase hroom; have H0 := Lib.hid hh; clear hh h
  go_enter Try.func79, Try.ntmps79
  go_wp2_with fail
  refine (w_end H0.out _ _ _).mono ?_
  rintro e w1 ⟨rfl, hh⟩
  clear k0 k1 k2 k3 k4 k5 k6 k7 k8 k9 k10 klt f3 f4 f5 f6
  obtain ⟨k0, k1, k2, k3, k4, k5, k6, k7, k8, k9, k10, klt, f3, f4, f5, f6⟩ := hh.facts
  have H1 := Lib.hid hh; clear hh
  go_wp2_with fail
  refine (w_store H1.out _ 0 0 (by simp) (by simp)).mono ?_
  rintro e w2 ⟨rfl, hh⟩
  clear k0 k1 k2 k3 k4 k5 k6 k7 k8 k9 k10 klt f3 f4 f5 f6
  obtain ⟨k0, k1, k2, k3, k4, k5, k6, k7, k8, k9, k10, klt, f3, f4, f5, f6⟩ := hh.facts
  have H2 := Lib.hid hh; clear hh
  go_wp2_with fail
  go_quiet ((go_at_call 47; exact quiet_eq (dplace_any o t _ ((HW.drewN (H2.out.setN 82) _).h.op.cell 5) (by omega) (by omega))))
  go_wp2_with fail
  go_end0
  exact ⟨rfl, ((H2.out.setN 82).drewN nq).setN 83⟩

theorem m_popClear (h : HW w0 w o m a b ⟨kind, base, room, x, e, t, nx, false, result, why, owner⟩ D) (ht0 : 0 ≤ t) (ht1 : t < 1099511627776) (hpl : t % 65536 ≤ 1000) (hE : e ≠ t % 65536) :
    Calls Try.prog 79 #[.pointer (some ⟨o, 0, none⟩), .pointer (some ⟨m, 0, none⟩)] w (HPost w0 o m a b (.tuple #[]) ⟨kind, base, room, x, e, t, 82, false, result, why, owner⟩ (D.put 0 0)) := by
  have hEb : (e == t % 65536) = false := by simpa using hE
  have HE := Lib.hid hE; clear hE
  have hh := h
  obtain ⟨k0, k1, k2, k3, k4, k5, k6, k7, k8, k9, k10, klt, f3, f4, f5, f6⟩ := hh.facts
  have hbase := hh.h.hbase; have hroom := hh.h.hroom; simp only at hbase hroom; have H0 := Lib.hid hh; clear hh h
  go_enter Try.func79, Try.ntmps79
  go_wp2_with fail
  refine (w_end H0.out _ _ _).mono ?_
  rintro e w1 ⟨rfl, hh⟩
  clear k0 k1 k2 k3 k4 k5 k6 k7 k8 k9 k10 klt f3 f4 f5 f6
  obtain ⟨k0, k1, k2, k3, k4, k5, k6, k7, k8, k9, k10, klt, f3, f4, f5, f6⟩ := hh.facts
  have H1 := Lib.hid hh; clear hh
  go_wp2_with fail
  refine (w_store H1.out _ 0 0 (by simp) (by simp)).mono ?_
  rintro e w2 ⟨rfl, hh⟩
  clear k0 k1 k2 k3 k4 k5 k6 k7 k8 k9 k10 klt f3 f4 f5 f6
  obtain ⟨k0, k1, k2, k3, k4, k5, k6, k7, k8, k9, k10, klt, f3, f4, f5, f6⟩ := hh.facts
  have H2 := Lib.hid hh; clear hh
  go_wp2_with fail
  go_quiet ((go_at_call 47; exact quiet_eq (dplace_any o t _ ((HW.drewN (H2.out.setN 82) _).h.op.cell 5) (by omega) (by omega))))
  go_wp2_with fail
  go_end0
  exact ⟨rfl, ((H2.out.setN 82).drewN nq)⟩

end
end Go.Proofs.Ytlogmfpnjpamgaa
