/- Layer 9: the moves of an operation: loads. -/
import Derived.Test.YtlogmfpnjpamgaaDeqD
open Go Go.RowKit
namespace Go.Proofs.Ytlogmfpnjpamgaa

section
variable {w0 w : World} {o m a b : Nat} {D : Dq} {kind : Int} {base room : Nat} {x e t : Int} {nx : Nat} {result why : Int} {owner : Bool}

theorem m_pushHead (h : HW w0 w o m a b ⟨kind, base, room, x, e, t, nx, false, result, why, owner⟩ D) :
    Calls Try.prog 31 #[.pointer (some ⟨o, 0, none⟩), .pointer (some ⟨m, 0, none⟩)] w (HPost w0 o m a b (.tuple #[]) ⟨kind, base, room, x, e, D 1, 49, false, result, why, owner⟩ D) := by
  have hh := h
  obtain ⟨k0, k1, k2, k3, k4, k5, k6, k7, k8, k9, k10, klt, f3, f4, f5, f6⟩ := hh.facts
  have hbase := hh.h.hbase; have hroom := hh.h.hroom; simp only at hbase hroom; have H0 := Lib.hid hh; clear hh h
  go_enter Try.func31, Try.ntmps31
  go_wp2_with fail
  refine (w_top H0.out _ _ _ (by omega) (by omega)).mono ?_
  rintro e w1 ⟨rfl, hh⟩
  clear k0 k1 k2 k3 k4 k5 k6 k7 k8 k9 k10 klt f3 f4 f5 f6
  obtain ⟨k0, k1, k2, k3, k4, k5, k6, k7, k8, k9, k10, klt, f3, f4, f5, f6⟩ := hh.facts
  have H1 := Lib.hid hh; clear hh
  go_wp2_with fail
  refine (w_load H1.out _ 1 (by simp) (by simp)).mono ?_
  rintro e w2 ⟨rfl, hh⟩
  clear k0 k1 k2 k3 k4 k5 k6 k7 k8 k9 k10 klt f3 f4 f5 f6
  obtain ⟨k0, k1, k2, k3, k4, k5, k6, k7, k8, k9, k10, klt, f3, f4, f5, f6⟩ := hh.facts
  have H2 := Lib.hid hh; clear hh
  go_wp2_with fail
  go_end0
  exact ⟨rfl, (H2.out.setT (D 1)).setN 49⟩

theorem m_stealTop (h : HW w0 w o m a b ⟨kind, base, room, x, e, t, nx, false, result, why, owner⟩ D) :
    Calls Try.prog 35 #[.pointer (some ⟨o, 0, none⟩), .pointer (some ⟨m, 0, none⟩)] w (HPost w0 o m a b (.tuple #[]) ⟨kind, base, room, x, e, D 1, 53, false, result, why, owner⟩ D) := by
  have hh := h
  obtain ⟨k0, k1, k2, k3, k4, k5, k6, k7, k8, k9, k10, klt, f3, f4, f5, f6⟩ := hh.facts
  have hbase := hh.h.hbase; have hroom := hh.h.hroom; simp only at hbase hroom; have H0 := Lib.hid hh; clear hh h
  go_enter Try.func35, Try.ntmps35
  go_wp2_with fail
  refine (w_top H0.out _ _ _ (by omega) (by omega)).mono ?_
  rintro e w1 ⟨rfl, hh⟩
  clear k0 k1 k2 k3 k4 k5 k6 k7 k8 k9 k10 klt f3 f4 f5 f6
  obtain ⟨k0, k1, k2, k3, k4, k5, k6, k7, k8, k9, k10, klt, f3, f4, f5, f6⟩ := hh.facts
  have H1 := Lib.hid hh; clear hh
  go_wp2_with fail
  refine (w_load H1.out _ 1 (by simp) (by simp)).mono ?_
  rintro e w2 ⟨rfl, hh⟩
  clear k0 k1 k2 k3 k4 k5 k6 k7 k8 k9 k10 klt f3 f4 f5 f6
  obtain ⟨k0, k1, k2, k3, k4, k5, k6, k7, k8, k9, k10, klt, f3, f4, f5, f6⟩ := hh.facts
  have H2 := Lib.hid hh; clear hh
  go_wp2_with fail
  go_end0
  exact ⟨rfl, (H2.out.setT (D 1)).setN 53⟩

theorem m_headTop (h : HW w0 w o m a b ⟨kind, base, room, x, e, t, nx, false, result, why, owner⟩ D) :
    Calls Try.prog 34 #[.pointer (some ⟨o, 0, none⟩), .pointer (some ⟨m, 0, none⟩)] w (HPost w0 o m a b (.tuple #[]) ⟨kind, base, room, x, e, D 1, 52, false, result, why, owner⟩ D) := by
  have hh := h
  obtain ⟨k0, k1, k2, k3, k4, k5, k6, k7, k8, k9, k10, klt, f3, f4, f5, f6⟩ := hh.facts
  have hbase := hh.h.hbase; have hroom := hh.h.hroom; simp only at hbase hroom; have H0 := Lib.hid hh; clear hh h
  go_enter Try.func34, Try.ntmps34
  go_wp2_with fail
  refine (w_top H0.out _ _ _ (by omega) (by omega)).mono ?_
  rintro e w1 ⟨rfl, hh⟩
  clear k0 k1 k2 k3 k4 k5 k6 k7 k8 k9 k10 klt f3 f4 f5 f6
  obtain ⟨k0, k1, k2, k3, k4, k5, k6, k7, k8, k9, k10, klt, f3, f4, f5, f6⟩ := hh.facts
  have H1 := Lib.hid hh; clear hh
  go_wp2_with fail
  refine (w_load H1.out _ 1 (by simp) (by simp)).mono ?_
  rintro e w2 ⟨rfl, hh⟩
  clear k0 k1 k2 k3 k4 k5 k6 k7 k8 k9 k10 klt f3 f4 f5 f6
  obtain ⟨k0, k1, k2, k3, k4, k5, k6, k7, k8, k9, k10, klt, f3, f4, f5, f6⟩ := hh.facts
  have H2 := Lib.hid hh; clear hh
  go_wp2_with fail
  go_end0
  exact ⟨rfl, (H2.out.setT (D 1)).setN 52⟩

theorem m_popEnd_full (h : HW w0 w o m a b ⟨kind, base, room, x, e, t, nx, false, result, why, owner⟩ D) (hE : D 0 = 0) :
    Calls Try.prog 32 #[.pointer (some ⟨o, 0, none⟩), .pointer (some ⟨m, 0, none⟩)] w (HPost w0 o m a b (.tuple #[]) ⟨kind, base, room, x, D 0, t, 50, true, result, 9, owner⟩ D) := by
  have hEb : (D 0 == 0) = true := by simpa using hE
  have HE := Lib.hid hE; clear hE
  have hh := h
  obtain ⟨k0, k1, k2, k3, k4, k5, k6, k7, k8, k9, k10, klt, f3, f4, f5, f6⟩ := hh.facts
  have hbase := hh.h.hbase; have hroom := hh.h.hroom; simp only at hbase hroom; have H0 := Lib.hid hh; clear hh h
  go_enter Try.func32, Try.ntmps32
  go_wp2_with fail
  refine (w_end H0.out _ _ _).mono ?_
  rintro e w1 ⟨rfl, hh⟩
  clear k0 k1 k2 k3 k4 k5 k6 k7 k8 k9 k10 klt f3 f4 f5 f6
  obtain ⟨k0, k1, k2, k3, k4, k5, k6, k7, k8, k9, k10, klt, f3, f4, f5, f6⟩ := hh.facts
  have H1 := Lib.hid hh; clear hh
  go_wp2_with fail
  refine (w_load H1.out _ 0 (by simp) (by simp)).mono ?_
  rintro e w2 ⟨rfl, hh⟩
  clear k0 k1 k2 k3 k4 k5 k6 k7 k8 k9 k10 klt f3 f4 f5 f6
  obtain ⟨k0, k1, k2, k3, k4, k5, k6, k7, k8, k9, k10, klt, f3, f4, f5, f6⟩ := hh.facts
  have H2 := Lib.hid hh; clear hh
  go_wp2_with fail
  go_wp2_with fail
  refine (w_ends ((H2.out.setE (D 0)).setN 50) 9).mono ?_
  rintro e w3 ⟨rfl, hh⟩
  clear k0 k1 k2 k3 k4 k5 k6 k7 k8 k9 k10 klt f3 f4 f5 f6
  obtain ⟨k0, k1, k2, k3, k4, k5, k6, k7, k8, k9, k10, klt, f3, f4, f5, f6⟩ := hh.facts
  have H3 := Lib.hid hh; clear hh
  go_wp2_with fail
  go_end0
  exact ⟨rfl, H3.out⟩

theorem m_popEnd (h : HW w0 w o m a b ⟨kind, base, room, x, e, t, nx, false, result, why, owner⟩ D) (hE : D 0 ≠ 0) :
    Calls Try.prog 32 #[.pointer (some ⟨o, 0, none⟩), .pointer (some ⟨m, 0, none⟩)] w (HPost w0 o m a b (.tuple #[]) ⟨kind, base, room, x, D 0, t, 50, false, result, why, owner⟩ D) := by
  have hEb : (D 0 == 0) = false := by simpa using hE
  have HE := Lib.hid hE; clear hE
  have hh := h
  obtain ⟨k0, k1, k2, k3, k4, k5, k6, k7, k8, k9, k10, klt, f3, f4, f5, f6⟩ := hh.facts
  have hbase := hh.h.hbase; have hroom := hh.h.hroom; simp only at hbase hroom; have H0 := Lib.hid hh; clear hh h
  go_enter Try.func32, Try.ntmps32
  go_wp2_with fail
  refine (w_end H0.out _ _ _).mono ?_
  rintro e w1 ⟨rfl, hh⟩
  clear k0 k1 k2 k3 k4 k5 k6 k7 k8 k9 k10 klt f3 f4 f5 f6
  obtain ⟨k0, k1, k2, k3, k4, k5, k6, k7, k8, k9, k10, klt, f3, f4, f5, f6⟩ := hh.facts
  have H1 := Lib.hid hh; clear hh
  go_wp2_with fail
  refine (w_load H1.out _ 0 (by simp) (by simp)).mono ?_
  rintro e w2 ⟨rfl, hh⟩
  clear k0 k1 k2 k3 k4 k5 k6 k7 k8 k9 k10 klt f3 f4 f5 f6
  obtain ⟨k0, k1, k2, k3, k4, k5, k6, k7, k8, k9, k10, klt, f3, f4, f5, f6⟩ := hh.facts
  have H2 := Lib.hid hh; clear hh
  go_wp2_with fail
  go_end0
  exact ⟨rfl, (H2.out.setE (D 0)).setN 50⟩

theorem m_headEnd_full (h : HW w0 w o m a b ⟨kind, base, room, x, e, t, nx, false, result, why, owner⟩ D) (hE : D 0 ≤ t) :
    Calls Try.prog 52 #[.pointer (some ⟨o, 0, none⟩), .pointer (some ⟨m, 0, none⟩)] w (HPost w0 o m a b (.tuple #[]) ⟨kind, base, room, x, D 0, t, 64, true, result, 9, owner⟩ D) := by
  have hEb : D 0 ≤ t := hE
  have HE := Lib.hid hE; clear hE
  have hh := h
  obtain ⟨k0, k1, k2, k3, k4, k5, k6, k7, k8, k9, k10, klt, f3, f4, f5, f6⟩ := hh.facts
  have hbase := hh.h.hbase; have hroom := hh.h.hroom; simp only at hbase hroom; have H0 := Lib.hid hh; clear hh h
  go_enter Try.func52, Try.ntmps52
  go_wp2_with fail
  refine (w_end H0.out _ _ _).mono ?_
  rintro e w1 ⟨rfl, hh⟩
  clear k0 k1 k2 k3 k4 k5 k6 k7 k8 k9 k10 klt f3 f4 f5 f6
  obtain ⟨k0, k1, k2, k3, k4, k5, k6, k7, k8, k9, k10, klt, f3, f4, f5, f6⟩ := hh.facts
  have H1 := Lib.hid hh; clear hh
  go_wp2_with fail
  refine (w_load H1.out _ 0 (by simp) (by simp)).mono ?_
  rintro e w2 ⟨rfl, hh⟩
  clear k0 k1 k2 k3 k4 k5 k6 k7 k8 k9 k10 klt f3 f4 f5 f6
  obtain ⟨k0, k1, k2, k3, k4, k5, k6, k7, k8, k9, k10, klt, f3, f4, f5, f6⟩ := hh.facts
  have H2 := Lib.hid hh; clear hh
  go_wp2_with fail
  go_quiet (fail)
  go_wp2_with fail
  refine (w_ends (((H2.out.setE (D 0)).setN 64).drewN nq) 9).mono ?_
  rintro e w3 ⟨rfl, hh⟩
  clear k0 k1 k2 k3 k4 k5 k6 k7 k8 k9 k10 klt f3 f4 f5 f6
  obtain ⟨k0, k1, k2, k3, k4, k5, k6, k7, k8, k9, k10, klt, f3, f4, f5, f6⟩ := hh.facts
  have H3 := Lib.hid hh; clear hh
  go_wp2_with fail
  go_end0
  exact ⟨rfl, H3.out⟩

theorem m_headEnd (h : HW w0 w o m a b ⟨kind, base, room, x, e, t, nx, false, result, why, owner⟩ D) (hE : t < D 0) :
    Calls Try.prog 52 #[.pointer (some ⟨o, 0, none⟩), .pointer (some ⟨m, 0, none⟩)] w (HPost w0 o m a b (.tuple #[]) ⟨kind, base, room, x, D 0, t, 64, false, result, why, owner⟩ D) := by
  have hEb : decide (D 0 ≤ t) = false := by simpa using hE
  have HE := Lib.hid hE; clear hE
  have hh := h
  obtain ⟨k0, k1, k2, k3, k4, k5, k6, k7, k8, k9, k10, klt, f3, f4, f5, f6⟩ := hh.facts
  have hbase := hh.h.hbase; have hroom := hh.h.hroom; simp only at hbase hroom; have H0 := Lib.hid hh; clear hh h
  go_enter Try.func52, Try.ntmps52
  go_wp2_with fail
  refine (w_end H0.out _ _ _).mono ?_
  rintro e w1 ⟨rfl, hh⟩
  clear k0 k1 k2 k3 k4 k5 k6 k7 k8 k9 k10 klt f3 f4 f5 f6
  obtain ⟨k0, k1, k2, k3, k4, k5, k6, k7, k8, k9, k10, klt, f3, f4, f5, f6⟩ := hh.facts
  have H1 := Lib.hid hh; clear hh
  go_wp2_with fail
  refine (w_load H1.out _ 0 (by simp) (by simp)).mono ?_
  rintro e w2 ⟨rfl, hh⟩
  clear k0 k1 k2 k3 k4 k5 k6 k7 k8 k9 k10 klt f3 f4 f5 f6
  obtain ⟨k0, k1, k2, k3, k4, k5, k6, k7, k8, k9, k10, klt, f3, f4, f5, f6⟩ := hh.facts
  have H2 := Lib.hid hh; clear hh
  go_wp2_with fail
  go_quiet (fail)
  go_wp2_with fail
  go_end0
  exact ⟨rfl, ((H2.out.setE (D 0)).setN 64).drewN nq⟩

end
end Go.Proofs.Ytlogmfpnjpamgaa
