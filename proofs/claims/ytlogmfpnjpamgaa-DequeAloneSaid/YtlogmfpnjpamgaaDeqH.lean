/- Layer 9: the moves of an operation: stores of the word T. -/
import Derived.Test.YtlogmfpnjpamgaaDeqG
open Go Go.RowKit
namespace Go.Proofs.Ytlogmfpnjpamgaa

section
variable {w0 w : World} {o m a b : Nat} {D : Dq} {kind : Int} {base room : Nat} {x e t : Int} {nx : Nat} {result why : Int} {owner : Bool}

theorem m_pushTag (h : HW w0 w o m a b ⟨kind, base, room, x, e, t, nx, false, result, why, owner⟩ D) (ht0 : 0 ≤ t) (ht1 : t < 1099511627776) (hpl : t % 65536 ≤ 1000) :
    Calls Try.prog 60 #[.pointer (some ⟨o, 0, none⟩), .pointer (some ⟨m, 0, none⟩)] w (HPost w0 o m a b (.tuple #[]) ⟨kind, base, room, x, e, t, nx, true, result, 0, owner⟩ (D.put 1 ((t / 65536 + 1) * 65536 + (t % 65536 + 1)))) := by
  have hh := h
  obtain ⟨k0, k1, k2, k3, k4, k5, k6, k7, k8, k9, k10, klt, f3, f4, f5, f6⟩ := hh.facts
  have hbase := hh.h.hbase; have hroom := hh.h.hroom; simp only at hbase hroom; have H0 := Lib.hid hh; clear hh h
  obtain ⟨g, hg⟩ : ∃ g, g = t / 65536 := ⟨_, rfl⟩
  obtain ⟨p, hp⟩ : ∃ p, p = t % 65536 := ⟨_, rfl⟩
  have hgb : 0 ≤ g ∧ g < 16777216 := by omega
  have hpb : 0 ≤ p ∧ p ≤ 1000 := by omega
  have C1 := Lib.hid (fun (v : World) (hv : HW w0 v o m a b ⟨kind, base, room, x, e, t, nx, false, result, why, owner⟩ D) => w_top hv kind base room (by omega) (by omega))
  have C2 := Lib.hid (fun (v : World) (hv : HW w0 v o m a b ⟨kind, base, room, x, e, t, nx, false, result, why, owner⟩ D) => hg ▸ w_tag hv)
  have C3 := Lib.hid (fun (v : World) (hv : HW w0 v o m a b ⟨kind, base, room, x, e, t, nx, false, result, why, owner⟩ D) => hp ▸ w_place hv ht0 (by simp only; omega))
  have C4 := Lib.hid (fun (v : World) (hv : HW w0 v o m a b ⟨kind, base, room, x, e, t, nx, false, result, why, owner⟩ D) => w_pair hv (g + 1) (p + 1) (by omega) (by omega) (by omega) (by omega))
  have C5 := Lib.hid (fun (v : World) (hv : HW w0 v o m a b ⟨kind, base, room, x, e, t, nx, false, result, why, owner⟩ D) => w_store hv ((base : Int) + 1) ((g + 1) * 65536 + (p + 1)) 1 (by simp) (by simp))
  have hs1 : IntKind.i64.wrap (g + 1) = g + 1 := IntWalk.i64_in _ (by omega)
  have hs2 : IntKind.i64.wrap (p + 1) = p + 1 := IntWalk.i64_in _ (by omega)
  have HS1 := Lib.hid hs1; have HS2 := Lib.hid hs2; clear hs1 hs2
  rw [← hg, ← hp]
  clear hbase hroom k3 k4 k5 k6 k7 k8 k9 k10 f3 f4 f5 f6 hg hp hgb hpb ht0 ht1 hpl
  have hs1 := HS1.out; have hs2 := HS2.out
  go_enter Try.func60, Try.ntmps60
  go_wp2_with fail
  go_wp2_with fail
  refine (C1.out _ H0.out).mono ?_
  rintro e w1 ⟨rfl, hh⟩
  obtain ⟨-, -, -, -, -, -, -, -, -, -, -, klt, -, -, -, -⟩ := hh.facts
  have H1 := Lib.hid hh; clear hh
  go_wp2_with fail
  refine (C2.out _ H1.out).mono ?_
  rintro e w2 ⟨rfl, hh⟩
  obtain ⟨-, -, -, -, -, -, -, -, -, -, -, klt, -, -, -, -⟩ := hh.facts
  have H2 := Lib.hid hh; clear hh
  go_wp2_with fail
  refine (C3.out _ H2.out).mono ?_
  rintro e w3 ⟨rfl, hh⟩
  obtain ⟨-, -, -, -, -, -, -, -, -, -, -, klt, -, -, -, -⟩ := hh.facts
  have H3 := Lib.hid hh; clear hh
  go_wp2_with fail
  refine (C4.out _ H3.out).mono ?_
  rintro e w4 ⟨rfl, hh⟩
  obtain ⟨-, -, -, -, -, -, -, -, -, -, -, klt, -, -, -, -⟩ := hh.facts
  have H4 := Lib.hid hh; clear hh
  go_wp2_with fail
  refine (C5.out _ H4.out).mono ?_
  rintro e w5 ⟨rfl, hh⟩
  obtain ⟨-, -, -, -, -, -, -, -, -, -, -, klt, -, -, -, -⟩ := hh.facts
  have H5 := Lib.hid hh; clear hh
  clear hs1 hs2
  go_wp2_with fail
  refine (w_over H5.out rfl).mono ?_
  rintro e w6 ⟨rfl, hh⟩
  have H6 := Lib.hid hh; clear hh
  go_wp2_with fail
  go_end0
  exact ⟨rfl, H6.out⟩

theorem m_lastStore (h : HW w0 w o m a b ⟨kind, base, room, x, e, t, nx, false, result, why, owner⟩ D) (ht0 : 0 ≤ t) (ht1 : t < 1099511627776) (hpl : t % 65536 ≤ 1000) (hp1 : 1 ≤ t % 65536) :
    Calls Try.prog 63 #[.pointer (some ⟨o, 0, none⟩), .pointer (some ⟨m, 0, none⟩)] w (HPost w0 o m a b (.tuple #[]) ⟨kind, base, room, x, e, t, nx, true, x, 0, owner⟩ (D.put 1 (t / 65536 * 65536 + (t % 65536 - 1)))) := by
  have hh := h
  obtain ⟨k0, k1, k2, k3, k4, k5, k6, k7, k8, k9, k10, klt, f3, f4, f5, f6⟩ := hh.facts
  have hbase := hh.h.hbase; have hroom := hh.h.hroom; simp only at hbase hroom; have H0 := Lib.hid hh; clear hh h
  obtain ⟨g, hg⟩ : ∃ g, g = t / 65536 := ⟨_, rfl⟩
  obtain ⟨p, hp⟩ : ∃ p, p = t % 65536 := ⟨_, rfl⟩
  have hgb : 0 ≤ g ∧ g < 16777216 := by omega
  have hpb : 0 ≤ p ∧ p ≤ 1000 := by omega
  have C1 := Lib.hid (fun (v : World) (hv : HW w0 v o m a b ⟨kind, base, room, x, e, t, nx, false, result, why, owner⟩ D) => w_top hv kind base room (by omega) (by omega))
  have C2 := Lib.hid (fun (v : World) (hv : HW w0 v o m a b ⟨kind, base, room, x, e, t, nx, false, result, why, owner⟩ D) => hg ▸ w_tag hv)
  have C3 := Lib.hid (fun (v : World) (hv : HW w0 v o m a b ⟨kind, base, room, x, e, t, nx, false, result, why, owner⟩ D) => hp ▸ w_place hv ht0 (by simp only; omega))
  have C4 := Lib.hid (fun (v : World) (hv : HW w0 v o m a b ⟨kind, base, room, x, e, t, nx, false, result, why, owner⟩ D) => w_pair hv g (p - 1) (by omega) (by omega) (by omega) (by omega))
  have C5 := Lib.hid (fun (v : World) (hv : HW w0 v o m a b ⟨kind, base, room, x, e, t, nx, false, result, why, owner⟩ D) => w_store hv ((base : Int) + 1) (g * 65536 + (p - 1)) 1 (by simp) (by simp))
  have hs2 : IntKind.i64.wrap (p - 1) = p - 1 := IntWalk.i64_in _ (by omega)
  have HS2 := Lib.hid hs2; clear hs2
  rw [← hg, ← hp]
  clear hbase hroom k3 k4 k5 k6 k7 k8 k9 k10 f3 f4 f5 f6 hg hp hgb hpb ht0 ht1 hpl hp1
  have hs2 := HS2.out
  go_enter Try.func63, Try.ntmps63
  go_wp2_with fail
  go_wp2_with fail
  refine (C1.out _ H0.out).mono ?_
  rintro e w1 ⟨rfl, hh⟩
  obtain ⟨-, -, -, -, -, -, -, -, -, -, -, klt, -, -, -, -⟩ := hh.facts
  have H1 := Lib.hid hh; clear hh
  go_wp2_with fail
  refine (C2.out _ H1.out).mono ?_
  rintro e w2 ⟨rfl, hh⟩
  obtain ⟨-, -, -, -, -, -, -, -, -, -, -, klt, -, -, -, -⟩ := hh.facts
  have H2 := Lib.hid hh; clear hh
  go_wp2_with fail
  refine (C3.out _ H2.out).mono ?_
  rintro e w3 ⟨rfl, hh⟩
  obtain ⟨-, -, -, -, -, -, -, -, -, -, -, klt, -, -, -, -⟩ := hh.facts
  have H3 := Lib.hid hh; clear hh
  go_wp2_with fail
  refine (C4.out _ H3.out).mono ?_
  rintro e w4 ⟨rfl, hh⟩
  obtain ⟨-, -, -, -, -, -, -, -, -, -, -, klt, -, -, -, -⟩ := hh.facts
  have H4 := Lib.hid hh; clear hh
  go_wp2_with fail
  refine (C5.out _ H4.out).mono ?_
  rintro e w5 ⟨rfl, hh⟩
  obtain ⟨-, -, -, -, -, -, -, -, -, -, -, klt, -, -, -, -⟩ := hh.facts
  have H5 := Lib.hid hh; clear hh
  clear hs2
  go_wp2_with fail
  refine (w_kept H5.out rfl).mono ?_
  rintro e w6 ⟨rfl, hh⟩
  have H6 := Lib.hid hh; clear hh
  go_wp2_with fail
  go_end0
  exact ⟨rfl, H6.out⟩

theorem m_headStore (h : HW w0 w o m a b ⟨kind, base, room, x, e, t, nx, false, result, why, owner⟩ D) (ht0 : 0 ≤ t) (ht1 : t < 4611686018427387904) :
    Calls Try.prog 76 #[.pointer (some ⟨o, 0, none⟩), .pointer (some ⟨m, 0, none⟩)] w (HPost w0 o m a b (.tuple #[]) ⟨kind, base, room, x, e, t, nx, true, x, 0, owner⟩ (D.put 1 (t + 1))) := by
  have hh := h
  obtain ⟨k0, k1, k2, k3, k4, k5, k6, k7, k8, k9, k10, klt, f3, f4, f5, f6⟩ := hh.facts
  have hbase := hh.h.hbase; have hroom := hh.h.hroom; simp only at hbase hroom; have H0 := Lib.hid hh; clear hh h
  have C1 := Lib.hid (fun (v : World) (hv : HW w0 v o m a b ⟨kind, base, room, x, e, t, nx, false, result, why, owner⟩ D) => w_top hv kind base room (by omega) (by omega))
  have C5 := Lib.hid (fun (v : World) (hv : HW w0 v o m a b ⟨kind, base, room, x, e, t, nx, false, result, why, owner⟩ D) => w_store hv ((base : Int) + 1) (t + 1) 1 (by simp) (by simp))
  have hs2 : IntKind.i64.wrap (t + 1) = t + 1 := IntWalk.i64_in _ (by omega)
  have HS2 := Lib.hid hs2; clear hs2
  clear hbase hroom k3 k4 k6 k7 k8 k9 k10 f3 f4 f5 f6 ht0 ht1
  have hs2 := HS2.out
  go_enter Try.func76, Try.ntmps76
  go_wp2_with fail
  go_region_held3 (fun w' => w'.cell? ⟨o, 0, none⟩ = some (.int .i64 kind) ∧ w'.cell? ⟨o, 1, none⟩ = some (.int .i64 base) ∧ w'.cell? ⟨o, 2, none⟩ = some (.int .i64 room) ∧ w'.cell? ⟨o, 5, none⟩ = some (.int .i64 t)) (go_keep)
    (first
      | (go_at_call 46; refine (C1.out _ H0.out.drew).mono ?_; rintro e0 w1 ⟨rfl, hh⟩; obtain ⟨k0, k1, k2, -, -, k5, -, -, -, -, -, klt, -, -, -, -⟩ := hh.facts; have H1 := Lib.hid hh; clear hh)
      | (go_at_call 57; refine (C5.out _ H1.out).mono ?_; rintro e1 w5 ⟨rfl, hh⟩; obtain ⟨k0, k1, k2, -, -, k5, -, -, -, -, -, klt, -, -, -, -⟩ := hh.facts; have H5 := Lib.hid hh; clear hh))
  clear hs2
  go_wp2_with fail
  refine (w_kept H5.out rfl).mono ?_
  rintro e w6 ⟨rfl, hh⟩
  have H6 := Lib.hid hh; clear hh
  go_wp2_with fail
  go_end0
  exact ⟨rfl, H6.out⟩

theorem m_popReset (h : HW w0 w o m a b ⟨kind, base, room, x, e, t, nx, false, result, why, owner⟩ D) (ht0 : 0 ≤ t) (ht1 : t < 1099511627776) (hpl : t % 65536 ≤ 1000) :
    Calls Try.prog 82 #[.pointer (some ⟨o, 0, none⟩), .pointer (some ⟨m, 0, none⟩)] w (HPost w0 o m a b (.tuple #[]) ⟨kind, base, room, x, e, t, nx, true, result, 9, owner⟩ (D.put 1 ((t / 65536 + 1) * 65536))) := by
  have hh := h
  obtain ⟨k0, k1, k2, k3, k4, k5, k6, k7, k8, k9, k10, klt, f3, f4, f5, f6⟩ := hh.facts
  have hbase := hh.h.hbase; have hroom := hh.h.hroom; simp only at hbase hroom; have H0 := Lib.hid hh; clear hh h
  obtain ⟨g, hg⟩ : ∃ g, g = t / 65536 := ⟨_, rfl⟩
  obtain ⟨p, hp⟩ : ∃ p, p = t % 65536 := ⟨_, rfl⟩
  have hgb : 0 ≤ g ∧ g < 16777216 := by omega
  have hpb : 0 ≤ p ∧ p ≤ 1000 := by omega
  have C1 := Lib.hid (fun (v : World) (hv : HW w0 v o m a b ⟨kind, base, room, x, e, t, nx, false, result, why, owner⟩ D) => w_top hv kind base room (by omega) (by omega))
  have C2 := Lib.hid (fun (v : World) (hv : HW w0 v o m a b ⟨kind, base, room, x, e, t, nx, false, result, why, owner⟩ D) => hg ▸ w_tag hv)
  have C4 := Lib.hid (fun (v : World) (hv : HW w0 v o m a b ⟨kind, base, room, x, e, t, nx, false, result, why, owner⟩ D) => (by have h := w_pair hv (g + 1) 0 (by omega) (by omega) (by omega) (by omega); rw [Int.add_zero] at h; exact h : Calls Try.prog 69 #[.int .i64 (g + 1), .int .i64 0] v (HPost w0 o m a b (.int .i64 ((g + 1) * 65536)) ⟨kind, base, room, x, e, t, nx, false, result, why, owner⟩ D)))
  have C5 := Lib.hid (fun (v : World) (hv : HW w0 v o m a b ⟨kind, base, room, x, e, t, nx, false, result, why, owner⟩ D) => w_store hv ((base : Int) + 1) ((g + 1) * 65536) 1 (by simp) (by simp))
  have hs1 : IntKind.i64.wrap (g + 1) = g + 1 := IntWalk.i64_in _ (by omega)
  have HS1 := Lib.hid hs1; clear hs1
  rw [← hg]
  clear hbase hroom k3 k4 k5 k6 k7 k8 k9 k10 f3 f4 f5 f6 hg hp hgb hpb ht0 ht1 hpl
  have hs1 := HS1.out
  go_enter Try.func82, Try.ntmps82
  go_wp2_with fail
  go_wp2_with fail
  refine (C1.out _ H0.out).mono ?_
  rintro e w1 ⟨rfl, hh⟩
  obtain ⟨-, -, -, -, -, -, -, k7, -, -, -, klt, -, -, -, -⟩ := hh.facts
  have H1 := Lib.hid hh; clear hh
  go_wp2_with fail
  refine (C2.out _ H1.out).mono ?_
  rintro e w2 ⟨rfl, hh⟩
  obtain ⟨-, -, -, -, -, -, -, k7, -, -, -, klt, -, -, -, -⟩ := hh.facts
  have H2 := Lib.hid hh; clear hh
  go_wp2_with fail
  refine (C4.out _ H2.out).mono ?_
  rintro e w4 ⟨rfl, hh⟩
  obtain ⟨-, -, -, -, -, -, -, k7, -, -, -, klt, -, -, -, -⟩ := hh.facts
  have H4 := Lib.hid hh; clear hh
  go_wp2_with fail
  refine (C5.out _ H4.out).mono ?_
  rintro e w5 ⟨rfl, hh⟩
  obtain ⟨-, -, -, -, -, -, -, k7, -, -, -, klt, -, -, -, -⟩ := hh.facts
  have H5 := Lib.hid hh; clear hh
  clear hs1
  go_wp2_with fail
  refine (w_ends H5.out 9).mono ?_
  rintro e w6 ⟨rfl, hh⟩
  have H6 := Lib.hid hh; clear hh
  go_wp2_with fail
  go_end0
  exact ⟨rfl, H6.out⟩

end
end Go.Proofs.Ytlogmfpnjpamgaa
