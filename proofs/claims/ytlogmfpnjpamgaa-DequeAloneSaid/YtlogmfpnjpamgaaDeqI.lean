/- Layer 9: the moves of an operation: exchanges of the word T. -/
import Derived.Test.YtlogmfpnjpamgaaDeqH
open Go Go.RowKit
namespace Go.Proofs.Ytlogmfpnjpamgaa

section
variable {w0 w : World} {o m a b : Nat} {D : Dq} {kind : Int} {base room : Nat} {x e t : Int} {nx : Nat} {result why : Int} {owner : Bool}

theorem m_stealSwap (h : HW w0 w o m a b ⟨kind, base, room, x, e, t, nx, false, result, why, owner⟩ D) (ht0 : 0 ≤ t) (ht1 : t < 1099511627776) (hpl : t % 65536 ≤ 1000) :
    Calls Try.prog 77 #[.pointer (some ⟨o, 0, none⟩), .pointer (some ⟨m, 0, none⟩)] w (HPost w0 o m a b (.tuple #[]) (OpD.takenW ⟨kind, base, room, x, e, t, nx, false, result, why, owner⟩ (D.hit 1 t)) (D.swap 1 t (t / 65536 * 65536 + (t % 65536 + 1)))) := by
  have hh := h
  obtain ⟨k0, k1, k2, k3, k4, k5, k6, k7, k8, k9, k10, klt, f3, f4, f5, f6⟩ := hh.facts
  have hbase := hh.h.hbase; have hroom := hh.h.hroom; simp only at hbase hroom; have H0 := Lib.hid hh; clear hh h
  obtain ⟨g, hg⟩ : ∃ g, g = t / 65536 := ⟨_, rfl⟩
  obtain ⟨p, hp⟩ : ∃ p, p = t % 65536 := ⟨_, rfl⟩
  have hgb : 0 ≤ g ∧ g < 16777216 := by omega
  have hpb : 0 ≤ p ∧ p ≤ 1000 := by omega
  have C2 := Lib.hid (fun (v : World) (hv : HW w0 v o m a b ⟨kind, base, room, x, e, t, nx, false, result, why, owner⟩ D) => hg ▸ w_tag hv)
  have C3 := Lib.hid (fun (v : World) (hv : HW w0 v o m a b ⟨kind, base, room, x, e, t, nx, false, result, why, owner⟩ D) => hp ▸ w_place hv ht0 (by simp only; omega))
  have C4 := Lib.hid (fun (v : World) (hv : HW w0 v o m a b ⟨kind, base, room, x, e, t, nx, false, result, why, owner⟩ D) => w_pair hv g (p + 1) (by omega) (by omega) (by omega) (by omega))
  have C5 := Lib.hid (fun (v : World) (hv : HW w0 v o m a b ⟨kind, base, room, x, e, t, nx, false, result, why, owner⟩ D) => w_swap hv (g * 65536 + (p + 1)))
  have hs2 : IntKind.i64.wrap (p + 1) = p + 1 := IntWalk.i64_in _ (by omega)
  have HS2 := Lib.hid hs2; clear hs2
  rw [← hg, ← hp]
  clear hbase hroom k0 k1 k2 k3 k4 k5 k6 k7 k8 k9 k10 f3 f4 f5 f6 hg hp hgb hpb ht0 ht1 hpl
  have hs2 := HS2.out
  go_enter Try.func77, Try.ntmps77
  go_wp2_with fail
  refine (C2.out _ H0.out).mono ?_
  rintro e w2 ⟨rfl, hh⟩
  obtain ⟨-, -, -, -, -, -, -, -, -, -, -, klt, -, -, -, -⟩ := hh.facts
  have H2 := Lib.hid hh; clear hh
  go_wp2_with fail
  refine (C3.out _ H2.out).mono ?_
  rintro e w3 ⟨rfl, hh⟩
  obtain ⟨-, -, -, -, -, -, -, -, -, -, -, klt, -, -, -, -⟩ := hh.facts
  have H3 := Lib.hid hh; clear hh
  go_wp2_with fail
  refine (C4.out _ H3.out).mono ?_
  rintro e w4 ⟨rfl, hh⟩
  obtain ⟨-, -, -, -, -, -, -, -, -, -, -, klt, -, -, -, -⟩ := hh.facts
  have H4 := Lib.hid hh; clear hh
  go_wp2_with fail
  refine (C5.out _ H4.out).mono ?_
  rintro e w5 ⟨rfl, hh⟩
  obtain ⟨-, -, -, -, -, -, -, -, -, -, -, klt, -, -, -, -⟩ := hh.facts
  have H5 := Lib.hid hh; clear hh
  clear hs2
  go_wp2_with fail
  refine (w_taken H5.out _ rfl).mono ?_
  rintro e w9 ⟨rfl, hh⟩
  have H9 := Lib.hid hh; clear hh
  go_wp2_with fail
  go_end0
  exact ⟨rfl, H9.out⟩

theorem m_lastSwap (h : HW w0 w o m a b ⟨kind, base, room, x, e, t, nx, false, result, why, owner⟩ D) (ht0 : 0 ≤ t) (ht1 : t < 1099511627776) (hpl : t % 65536 ≤ 1000) (hp1 : 1 ≤ t % 65536) :
    Calls Try.prog 62 #[.pointer (some ⟨o, 0, none⟩), .pointer (some ⟨m, 0, none⟩)] w (HPost w0 o m a b (.tuple #[]) (OpD.takenW ⟨kind, base, room, x, e, t, nx, false, result, why, owner⟩ (D.hit 1 t)) (D.swap 1 t (t / 65536 * 65536 + (t % 65536 - 1)))) := by
  have hh := h
  obtain ⟨k0, k1, k2, k3, k4, k5, k6, k7, k8, k9, k10, klt, f3, f4, f5, f6⟩ := hh.facts
  have hbase := hh.h.hbase; have hroom := hh.h.hroom; simp only at hbase hroom; have H0 := Lib.hid hh; clear hh h
  obtain ⟨g, hg⟩ : ∃ g, g = t / 65536 := ⟨_, rfl⟩
  obtain ⟨p, hp⟩ : ∃ p, p = t % 65536 := ⟨_, rfl⟩
  have hgb : 0 ≤ g ∧ g < 16777216 := by omega
  have hpb : 0 ≤ p ∧ p ≤ 1000 := by omega
  have C2 := Lib.hid (fun (v : World) (hv : HW w0 v o m a b ⟨kind, base, room, x, e, t, nx, false, result, why, owner⟩ D) => hg ▸ w_tag hv)
  have C3 := Lib.hid (fun (v : World) (hv : HW w0 v o m a b ⟨kind, base, room, x, e, t, nx, false, result, why, owner⟩ D) => hp ▸ w_place hv ht0 (by simp only; omega))
  have C4 := Lib.hid (fun (v : World) (hv : HW w0 v o m a b ⟨kind, base, room, x, e, t, nx, false, result, why, owner⟩ D) => w_pair hv g (p - 1) (by omega) (by omega) (by omega) (by omega))
  have C5 := Lib.hid (fun (v : World) (hv : HW w0 v o m a b ⟨kind, base, room, x, e, t, nx, false, result, why, owner⟩ D) => w_swap hv (g * 65536 + (p - 1)))
  have hs2 : IntKind.i64.wrap (p - 1) = p - 1 := IntWalk.i64_in _ (by omega)
  have HS2 := Lib.hid hs2; clear hs2
  rw [← hg, ← hp]
  clear hbase hroom k0 k1 k2 k3 k4 k5 k6 k7 k8 k9 k10 f3 f4 f5 f6 hg hp hgb hpb ht0 ht1 hpl hp1
  have hs2 := HS2.out
  go_enter Try.func62, Try.ntmps62
  go_wp2_with fail
  refine (C2.out _ H0.out).mono ?_
  rintro e w2 ⟨rfl, hh⟩
  obtain ⟨-, -, -, -, -, -, -, -, -, -, -, klt, -, -, -, -⟩ := hh.facts
  have H2 := Lib.hid hh; clear hh
  go_wp2_with fail
  refine (C3.out _ H2.out).mono ?_
  rintro e w3 ⟨rfl, hh⟩
  obtain ⟨-, -, -, -, -, -, -, -, -, -, -, klt, -, -, -, -⟩ := hh.facts
  have H3 := Lib.hid hh; clear hh
  go_wp2_with fail
  refine (C4.out _ H3.out).mono ?_
  rintro e w4 ⟨rfl, hh⟩
  obtain ⟨-, -, -, -, -, -, -, -, -, -, -, klt, -, -, -, -⟩ := hh.facts
  have H4 := Lib.hid hh; clear hh
  go_wp2_with fail
  refine (C5.out _ H4.out).mono ?_
  rintro e w5 ⟨rfl, hh⟩
  obtain ⟨-, -, -, -, -, -, -, -, -, -, -, klt, -, -, -, -⟩ := hh.facts
  have H5 := Lib.hid hh; clear hh
  clear hs2
  go_wp2_with fail
  refine (w_taken H5.out _ rfl).mono ?_
  rintro e w9 ⟨rfl, hh⟩
  have H9 := Lib.hid hh; clear hh
  go_wp2_with fail
  go_end0
  exact ⟨rfl, H9.out⟩

theorem m_headSwap (h : HW w0 w o m a b ⟨kind, base, room, x, e, t, nx, false, result, why, owner⟩ D) (ht0 : 0 ≤ t) (ht1 : t < 4611686018427387904) :
    Calls Try.prog 75 #[.pointer (some ⟨o, 0, none⟩), .pointer (some ⟨m, 0, none⟩)] w (HPost w0 o m a b (.tuple #[]) (OpD.takenW ⟨kind, base, room, x, e, t, nx, false, result, why, owner⟩ (D.hit 1 t)) (D.swap 1 t (t + 1))) := by
  have hh := h
  obtain ⟨k0, k1, k2, k3, k4, k5, k6, k7, k8, k9, k10, klt, f3, f4, f5, f6⟩ := hh.facts
  have hbase := hh.h.hbase; have hroom := hh.h.hroom; simp only at hbase hroom; have H0 := Lib.hid hh; clear hh h
  have C5 := Lib.hid (fun (v : World) (hv : HW w0 v o m a b ⟨kind, base, room, x, e, t, nx, false, result, why, owner⟩ D) => w_swap hv (t + 1))
  have hs2 : IntKind.i64.wrap (t + 1) = t + 1 := IntWalk.i64_in _ (by omega)
  clear hbase hroom k0 k1 k2 k3 k4 k6 k7 k8 k9 k10 f3 f4 f5 f6 ht0 ht1
  go_enter Try.func75, Try.ntmps75
  go_wp2_with fail
  refine (C5.out _ H0.out).mono ?_
  rintro e w5 ⟨rfl, hh⟩
  obtain ⟨-, -, -, -, -, -, -, -, -, -, -, klt, -, -, -, -⟩ := hh.facts
  have H5 := Lib.hid hh; clear hh
  clear hs2
  go_wp2_with fail
  refine (w_taken H5.out _ rfl).mono ?_
  rintro e w9 ⟨rfl, hh⟩
  have H9 := Lib.hid hh; clear hh
  go_wp2_with fail
  go_end0
  exact ⟨rfl, H9.out⟩

theorem m_popLast_hit (h : HW w0 w o m a b ⟨kind, base, room, x, e, t, nx, false, result, why, owner⟩ D) (ht0 : 0 ≤ t) (ht1 : t < 1099511627776) (hpl : t % 65536 ≤ 1000) (hE : D 1 = t) :
    Calls Try.prog 83 #[.pointer (some ⟨o, 0, none⟩), .pointer (some ⟨m, 0, none⟩)] w (HPost w0 o m a b (.tuple #[]) ⟨kind, base, room, x, e, t, 82, true, x, 0, owner⟩ (D.put 1 ((t / 65536 + 1) * 65536))) := by
  have hEb : D.hit 1 t = true := by simp [Dq.hit, hE]
  have HSW := Lib.hid (show D.swap 1 t ((t / 65536 + 1) * 65536) = D.put 1 ((t / 65536 + 1) * 65536) by simp [Dq.swap, hE])
  have HE := Lib.hid hE; clear hE
  have hh := h
  obtain ⟨k0, k1, k2, k3, k4, k5, k6, k7, k8, k9, k10, klt, f3, f4, f5, f6⟩ := hh.facts
  have hbase := hh.h.hbase; have hroom := hh.h.hroom; simp only at hbase hroom; have H0 := Lib.hid hh; clear hh h
  obtain ⟨g, hg⟩ : ∃ g, g = t / 65536 := ⟨_, rfl⟩
  obtain ⟨p, hp⟩ : ∃ p, p = t % 65536 := ⟨_, rfl⟩
  have hgb : 0 ≤ g ∧ g < 16777216 := by omega
  have hpb : 0 ≤ p ∧ p ≤ 1000 := by omega
  have C2 := Lib.hid (fun (v : World) (hv : HW w0 v o m a b ⟨kind, base, room, x, e, t, 82, false, result, why, owner⟩ D) => hg ▸ w_tag hv)
  have C4 := Lib.hid (fun (v : World) (hv : HW w0 v o m a b ⟨kind, base, room, x, e, t, 82, false, result, why, owner⟩ D) => (by have h := w_pair hv (g + 1) 0 (by omega) (by omega) (by omega) (by omega); rw [Int.add_zero] at h; exact h : Calls Try.prog 69 #[.int .i64 (g + 1), .int .i64 0] v (HPost w0 o m a b (.int .i64 ((g + 1) * 65536)) ⟨kind, base, room, x, e, t, 82, false, result, why, owner⟩ D)))
  have C5 := Lib.hid (fun (v : World) (hv : HW w0 v o m a b ⟨kind, base, room, x, e, t, 82, false, result, why, owner⟩ D) => w_swap hv ((g + 1) * 65536))
  have hs2 : IntKind.i64.wrap (g + 1) = g + 1 := IntWalk.i64_in _ (by omega)
  have HS2 := Lib.hid hs2; clear hs2
  rw [← hg] at HSW
  rw [← hg]
  clear hbase hroom k0 k1 k2 k3 k4 k5 k7 k8 k9 k10 f3 f4 f5 hg hp hgb hpb ht0 ht1 hpl
  have hs2 := HS2.out
  go_enter Try.func83, Try.ntmps83
  go_wp2_with fail
  refine (C2.out _ (H0.out.setN 82)).mono ?_
  rintro e w2 ⟨rfl, hh⟩
  obtain ⟨-, -, -, -, -, -, -, -, -, -, -, klt, -, -, -, -⟩ := hh.facts
  have H2 := Lib.hid hh; clear hh
  go_wp2_with fail
  refine (C4.out _ H2.out).mono ?_
  rintro e w4 ⟨rfl, hh⟩
  obtain ⟨-, -, -, -, -, -, -, -, -, -, -, klt, -, -, -, -⟩ := hh.facts
  have H4 := Lib.hid hh; clear hh
  go_wp2_with fail
  refine (C5.out _ H4.out).mono ?_
  rintro e w5 ⟨rfl, hh⟩
  obtain ⟨-, -, -, -, -, -, -, -, -, -, -, klt, -, -, -, -⟩ := hh.facts
  have H5 := Lib.hid hh; clear hh
  clear hs2
  go_wp2_with fail
  refine (w_done H5.out).mono ?_
  rintro e w9 ⟨rfl, hh⟩
  have H9 := Lib.hid hh; clear hh
  go_wp2_with fail
  go_end0
  exact ⟨rfl, HSW.out ▸ H9.out⟩

theorem m_popLast (h : HW w0 w o m a b ⟨kind, base, room, x, e, t, nx, false, result, why, owner⟩ D) (ht0 : 0 ≤ t) (ht1 : t < 1099511627776) (hpl : t % 65536 ≤ 1000) (hE : D 1 ≠ t) :
    Calls Try.prog 83 #[.pointer (some ⟨o, 0, none⟩), .pointer (some ⟨m, 0, none⟩)] w (HPost w0 o m a b (.tuple #[]) ⟨kind, base, room, x, e, t, 82, false, result, why, owner⟩ D) := by
  have hEb : D.hit 1 t = false := by simp [Dq.hit, hE]
  have HSW := Lib.hid (show D.swap 1 t ((t / 65536 + 1) * 65536) = D by simp [Dq.swap, hE])
  have HE := Lib.hid hE; clear hE
  have hh := h
  obtain ⟨k0, k1, k2, k3, k4, k5, k6, k7, k8, k9, k10, klt, f3, f4, f5, f6⟩ := hh.facts
  have hbase := hh.h.hbase; have hroom := hh.h.hroom; simp only at hbase hroom; have H0 := Lib.hid hh; clear hh h
  obtain ⟨g, hg⟩ : ∃ g, g = t / 65536 := ⟨_, rfl⟩
  obtain ⟨p, hp⟩ : ∃ p, p = t % 65536 := ⟨_, rfl⟩
  have hgb : 0 ≤ g ∧ g < 16777216 := by omega
  have hpb : 0 ≤ p ∧ p ≤ 1000 := by omega
  have C2 := Lib.hid (fun (v : World) (hv : HW w0 v o m a b ⟨kind, base, room, x, e, t, 82, false, result, why, owner⟩ D) => hg ▸ w_tag hv)
  have C4 := Lib.hid (fun (v : World) (hv : HW w0 v o m a b ⟨kind, base, room, x, e, t, 82, false, result, why, owner⟩ D) => (by have h := w_pair hv (g + 1) 0 (by omega) (by omega) (by omega) (by omega); rw [Int.add_zero] at h; exact h : Calls Try.prog 69 #[.int .i64 (g + 1), .int .i64 0] v (HPost w0 o m a b (.int .i64 ((g + 1) * 65536)) ⟨kind, base, room, x, e, t, 82, false, result, why, owner⟩ D)))
  have C5 := Lib.hid (fun (v : World) (hv : HW w0 v o m a b ⟨kind, base, room, x, e, t, 82, false, result, why, owner⟩ D) => w_swap hv ((g + 1) * 65536))
  have hs2 : IntKind.i64.wrap (g + 1) = g + 1 := IntWalk.i64_in _ (by omega)
  have HS2 := Lib.hid hs2; clear hs2
  rw [← hg] at HSW
  clear hbase hroom k0 k1 k2 k3 k4 k5 k7 k8 k9 k10 f3 f4 f5 hg hp hgb hpb ht0 ht1 hpl
  have hs2 := HS2.out
  go_enter Try.func83, Try.ntmps83
  go_wp2_with fail
  refine (C2.out _ (H0.out.setN 82)).mono ?_
  rintro e w2 ⟨rfl, hh⟩
  obtain ⟨-, -, -, -, -, -, -, -, -, -, -, klt, -, -, -, -⟩ := hh.facts
  have H2 := Lib.hid hh; clear hh
  go_wp2_with fail
  refine (C4.out _ H2.out).mono ?_
  rintro e w4 ⟨rfl, hh⟩
  obtain ⟨-, -, -, -, -, -, -, -, -, -, -, klt, -, -, -, -⟩ := hh.facts
  have H4 := Lib.hid hh; clear hh
  go_wp2_with fail
  refine (C5.out _ H4.out).mono ?_
  rintro e w5 ⟨rfl, hh⟩
  obtain ⟨-, -, -, -, -, -, -, -, -, -, -, klt, -, -, -, -⟩ := hh.facts
  have H5 := Lib.hid hh; clear hh
  clear hs2
  go_wp2_with fail
  go_end0
  exact ⟨rfl, HSW.out ▸ H5.out⟩

end
end Go.Proofs.Ytlogmfpnjpamgaa
