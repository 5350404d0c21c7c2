/- Layer 9: the moves of an operation, the owner's pushes. -/
import Derived.Test.YtlogmfpnjpamgaaDeqC
import Derived.Deep.QuietTactic
import Derived.BigQuiet
open Go Go.RowKit
namespace Go.Proofs.Ytlogmfpnjpamgaa

section
variable {w0 w : World} {o m a b : Nat} {D : Dq} {kind : Int} {base room : Nat} {x e t : Int} {nx : Nat} {result why : Int} {owner : Bool}

theorem m_pushEnd_full (h : HW w0 w o m a b ⟨kind, base, room, x, e, t, nx, false, result, why, owner⟩ D) (hE : D 0 = room) :
    Calls Try.prog 29 #[.pointer (some ⟨o, 0, none⟩), .pointer (some ⟨m, 0, none⟩)] w (HPost w0 o m a b (.tuple #[]) ⟨kind, base, room, x, D 0, t, 44, true, result, 8, owner⟩ D) := by
  have hEb : (D 0 == (room : Int)) = true := by simpa using hE
  have HE := Lib.hid hE; clear hE
  have hh := h
  obtain ⟨k0, k1, k2, k3, k4, k5, k6, k7, k8, k9, k10, klt, f3, f4, f5, f6⟩ := hh.facts
  have hbase := hh.h.hbase; have hroom := hh.h.hroom; simp only at hbase hroom; have H0 := Lib.hid hh; clear hh h
  go_enter Try.func29, Try.ntmps29
  go_wp2_with fail
  refine (w_end H0.out _ _ _).mono ?_
  rintro e w1 ⟨rfl, hh⟩
  clear k0 k1 k2 k3 k4 k5 k6 k7 k8 k9 k10 klt f3 f4 f5 f6
  obtain ⟨k0, k1, k2, k3, k4, k5, k6, k7, k8, k9, k10, klt, f3, f4, f5, f6⟩ := hh.facts
  have H1 := Lib.hid hh; clear hh
  go_wp2_with fail
  refine (w_load H1.out _ 0 (by simp) (by simp)).mono ?_
  rintro e w2 ⟨rfl, hh⟩
  clear k0 k1 k2 k3 k4 k5 k6 k7 k8 k9 k10 klt f3 f4 f5 f6
  obtain ⟨k0, k1, k2, k3, k4, k5, k6, k7, k8, k9, k10, klt, f3, f4, f5, f6⟩ := hh.facts
  have H2 := Lib.hid hh; clear hh
  go_wp2_with fail
  go_quiet (fail)
  go_wp2_with fail
  refine (w_ends (((H2.out.setE (D 0)).setN 44).drewN nq) 8).mono ?_
  rintro e w3 ⟨rfl, hh⟩
  clear k0 k1 k2 k3 k4 k5 k6 k7 k8 k9 k10 klt f3 f4 f5 f6
  obtain ⟨k0, k1, k2, k3, k4, k5, k6, k7, k8, k9, k10, klt, f3, f4, f5, f6⟩ := hh.facts
  have H3 := Lib.hid hh; clear hh
  go_wp2_with fail
  go_end0
  exact ⟨rfl, H3.out⟩

theorem m_pushEnd (h : HW w0 w o m a b ⟨kind, base, room, x, e, t, nx, false, result, why, owner⟩ D) (hE : D 0 ≠ room) :
    Calls Try.prog 29 #[.pointer (some ⟨o, 0, none⟩), .pointer (some ⟨m, 0, none⟩)] w (HPost w0 o m a b (.tuple #[]) ⟨kind, base, room, x, D 0, t, 44, false, result, why, owner⟩ D) := by
  have hEb : (D 0 == (room : Int)) = false := by simpa using hE
  have HE := Lib.hid hE; clear hE
  have hh := h
  obtain ⟨k0, k1, k2, k3, k4, k5, k6, k7, k8, k9, k10, klt, f3, f4, f5, f6⟩ := hh.facts
  have hbase := hh.h.hbase; have hroom := hh.h.hroom; simp only at hbase hroom; have H0 := Lib.hid hh; clear hh h
  go_enter Try.func29, Try.ntmps29
  go_wp2_with fail
  refine (w_end H0.out _ _ _).mono ?_
  rintro e w1 ⟨rfl, hh⟩
  clear k0 k1 k2 k3 k4 k5 k6 k7 k8 k9 k10 klt f3 f4 f5 f6
  obtain ⟨k0, k1, k2, k3, k4, k5, k6, k7, k8, k9, k10, klt, f3, f4, f5, f6⟩ := hh.facts
  have H1 := Lib.hid hh; clear hh
  go_wp2_with fail
  refine (w_load H1.out _ 0 (by simp) (by simp)).mono ?_
  rintro e w2 ⟨rfl, hh⟩
  clear k0 k1 k2 k3 k4 k5 k6 k7 k8 k9 k10 klt f3 f4 f5 f6
  obtain ⟨k0, k1, k2, k3, k4, k5, k6, k7, k8, k9, k10, klt, f3, f4, f5, f6⟩ := hh.facts
  have H2 := Lib.hid hh; clear hh
  go_wp2_with fail
  go_quiet (fail)
  go_wp2_with fail
  go_end0
  exact ⟨rfl, ((H2.out.setE (D 0)).setN 44).drewN nq⟩

theorem m_pushSlot (h : HW w0 w o m a b ⟨kind, base, room, x, e, t, nx, false, result, why, owner⟩ D) (h0 : 0 ≤ e) (h1 : e < 4611686018427387904) :
    Calls Try.prog 44 #[.pointer (some ⟨o, 0, none⟩), .pointer (some ⟨m, 0, none⟩)] w (HPost w0 o m a b (.tuple #[]) ⟨kind, base, room, x, e, t, 59, false, result, why, owner⟩ (D.put (2 + e.toNat % room) x)) := by
  have hh := h
  obtain ⟨k0, k1, k2, k3, k4, k5, k6, k7, k8, k9, k10, klt, f3, f4, f5, f6⟩ := hh.facts
  have hbase := hh.h.hbase; have hroom := hh.h.hroom; simp only at hbase hroom; have H0 := Lib.hid hh; clear hh h
  have hq : e.toNat % room < room := Nat.mod_lt _ (by omega)
  obtain ⟨q, hqq⟩ : ∃ q, q = 2 + e.toNat % room := ⟨_, rfl⟩
  have hq2 : q < room + 2 := by omega
  have C1 := Lib.hid (fun (v : World) (hv : HW w0 v o m a b ⟨kind, base, room, x, e, t, nx, false, result, why, owner⟩ D) => hqq ▸ w_slot hv kind base room e hbase hroom h0 h1)
  have C2 := Lib.hid (fun (v : World) (hv : HW w0 v o m a b ⟨kind, base, room, x, e, t, nx, false, result, why, owner⟩ D) => w_store hv ((base + q : Nat) : Int) x q hq2 rfl)
  rw [← hqq]
  clear hq hqq hq2 hbase hroom h0 h1 k5 k6 k7 k8 k9 k10 f3 f4 f5 f6
  go_enter Try.func44, Try.ntmps44
  go_wp2_with fail
  go_region_held3 (fun w' => w'.cell? ⟨o, 0, none⟩ = some (.int .i64 kind) ∧ w'.cell? ⟨o, 1, none⟩ = some (.int .i64 base) ∧ w'.cell? ⟨o, 2, none⟩ = some (.int .i64 room) ∧ w'.cell? ⟨o, 3, none⟩ = some (.int .i64 x) ∧ w'.cell? ⟨o, 4, none⟩ = some (.int .i64 e)) (go_keep)
    (first
      | (go_at_call 58; refine (C1.out _ H0.out.drew).mono ?_; rintro e1 w1 ⟨rfl, hh⟩; obtain ⟨k0, k1, k2, k3, k4, -, -, -, -, -, -, klt, -, -, -, -⟩ := hh.facts; have H1 := Lib.hid hh; clear hh)
      | (go_at_call 57; refine (C2.out _ H1.out).mono ?_; rintro e2 w2 ⟨rfl, hh⟩; obtain ⟨k0, k1, k2, k3, k4, -, k6, -, -, -, -, klt, -, -, -, f6⟩ := hh.facts; have H2 := Lib.hid hh; clear hh))
  go_wp2_with fail
  go_end0
  exact ⟨rfl, H2.out.setN 59⟩

end
end Go.Proofs.Ytlogmfpnjpamgaa
