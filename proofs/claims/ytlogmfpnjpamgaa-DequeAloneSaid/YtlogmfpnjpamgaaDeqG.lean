/- Layer 9: the moves of an operation: loads of a slot. -/
import Derived.Test.YtlogmfpnjpamgaaDeqF
open Go Go.RowKit
namespace Go.Proofs.Ytlogmfpnjpamgaa

section
variable {w0 w : World} {o m a b : Nat} {D : Dq} {kind : Int} {base room : Nat} {x e t : Int} {nx : Nat} {result why : Int} {owner : Bool}

theorem m_stealSlot (h : HW w0 w o m a b ⟨kind, base, room, x, e, t, nx, false, result, why, owner⟩ D) (ht0 : 0 ≤ t) (ht1 : t < 1099511627776) (hpl : t % 65536 ≤ 1000) :
    Calls Try.prog 65 #[.pointer (some ⟨o, 0, none⟩), .pointer (some ⟨m, 0, none⟩)] w (HPost w0 o m a b (.tuple #[]) ⟨kind, base, room, D (2 + (t % 65536).toNat % room), e, t, 77, false, result, why, owner⟩ D) := by
  have hh := h
  obtain ⟨k0, k1, k2, k3, k4, k5, k6, k7, k8, k9, k10, klt, f3, f4, f5, f6⟩ := hh.facts
  have hbase := hh.h.hbase; have hroom := hh.h.hroom; simp only at hbase hroom; have H0 := Lib.hid hh; clear hh h
  obtain ⟨g, hg⟩ : ∃ g, g = t / 65536 := ⟨_, rfl⟩
  obtain ⟨p, hp⟩ : ∃ p, p = t % 65536 := ⟨_, rfl⟩
  have hgb : 0 ≤ g ∧ g < 16777216 := by omega
  have hpb : 0 ≤ p ∧ p ≤ 1000 := by omega
  obtain ⟨q, hqq⟩ : ∃ q, q = 2 + (p).toNat % room := ⟨_, rfl⟩
  have hq0 : (p).toNat % room < room := Nat.mod_lt _ (by omega)
  have hq2 : q < room + 2 := by omega
  have C1 := Lib.hid (fun (v : World) (hv : HW w0 v o m a b ⟨kind, base, room, x, e, t, nx, false, result, why, owner⟩ D) => hp ▸ w_place hv ht0 (by simp only; omega))
  have C2 := Lib.hid (fun (v : World) (hv : HW w0 v o m a b ⟨kind, base, room, x, e, t, nx, false, result, why, owner⟩ D) => hqq ▸ w_slot hv kind base room p hbase hroom (by omega) (by omega))
  have C3 := Lib.hid (fun (v : World) (hv : HW w0 v o m a b ⟨kind, base, room, x, e, t, nx, false, result, why, owner⟩ D) => w_load hv ((base + q : Nat) : Int) q hq2 rfl)
  rw [← hp, ← hqq]
  clear hbase hroom k3 k4 k5 k6 k7 k8 k9 k10 f4 f5 f6 hg hp hgb hpb hqq hq0 hq2 ht0 ht1 hpl
  go_enter Try.func65, Try.ntmps65
  go_wp2_with fail
  go_region_held3 (fun w' => w'.cell? ⟨o, 0, none⟩ = some (.int .i64 kind) ∧ w'.cell? ⟨o, 1, none⟩ = some (.int .i64 base) ∧ w'.cell? ⟨o, 2, none⟩ = some (.int .i64 room)) (((repeat' apply And.intro) <;> (first | assumption | exact cell_far (by decide) (by assumption))))
    (first
      | (go_at_call 47; refine (C1.out _ H0.out.drew).mono ?_; rintro e0 w1 ⟨rfl, hh⟩; obtain ⟨k0, k1, k2, -, -, -, -, -, -, -, -, klt, f3, -, -, -⟩ := hh.facts; have H1 := Lib.hid hh; clear hh)
      | (go_at_call 58; refine (C2.out _ H1.out).mono ?_; rintro e1 w2 ⟨rfl, hh⟩; obtain ⟨k0, k1, k2, -, -, -, -, -, -, -, -, klt, f3, -, -, -⟩ := hh.facts; have H2 := Lib.hid hh; clear hh)
      | (go_at_call 42; refine (C3.out _ H2.out).mono ?_; rintro e2 w3 ⟨rfl, hh⟩; obtain ⟨k0, k1, k2, k3, -, -, k6, -, -, -, -, klt, f3, -, -, f6⟩ := hh.facts; have H3 := Lib.hid hh; clear hh))
  go_wp2_with fail
  go_end0
  exact ⟨rfl, (H3.out.setX _).setN 77⟩

theorem m_lastSlot_own (h : HW w0 w o m a b ⟨kind, base, room, x, e, t, nx, false, result, why, true⟩ D) (ht0 : 0 ≤ t) (ht1 : t < 1099511627776) (hpl : t % 65536 ≤ 1000) (hp1 : 1 ≤ t % 65536) :
    Calls Try.prog 51 #[.pointer (some ⟨o, 0, none⟩), .pointer (some ⟨m, 0, none⟩)] w (HPost w0 o m a b (.tuple #[]) ⟨kind, base, room, D (2 + (t % 65536 - 1).toNat % room), e, t, 63, false, result, why, true⟩ D) := by
  have hh := h
  obtain ⟨k0, k1, k2, k3, k4, k5, k6, k7, k8, k9, k10, klt, f3, f4, f5, f6⟩ := hh.facts
  have hbase := hh.h.hbase; have hroom := hh.h.hroom; simp only at hbase hroom; have H0 := Lib.hid hh; clear hh h
  obtain ⟨g, hg⟩ : ∃ g, g = t / 65536 := ⟨_, rfl⟩
  obtain ⟨p, hp⟩ : ∃ p, p = t % 65536 := ⟨_, rfl⟩
  have hgb : 0 ≤ g ∧ g < 16777216 := by omega
  have hpb : 0 ≤ p ∧ p ≤ 1000 := by omega
  obtain ⟨q, hqq⟩ : ∃ q, q = 2 + (p - 1).toNat % room := ⟨_, rfl⟩
  have hq0 : (p - 1).toNat % room < room := Nat.mod_lt _ (by omega)
  have hq2 : q < room + 2 := by omega
  have hpp : IntKind.i64.wrap (p - 1) = p - 1 := IntWalk.i64_in _ (by omega)
  have HPP := Lib.hid hpp; clear hpp
  have C1 := Lib.hid (fun (v : World) (hv : HW w0 v o m a b ⟨kind, base, room, x, e, t, nx, false, result, why, true⟩ D) => hp ▸ w_place hv ht0 (by simp only; omega))
  have C2 := Lib.hid (fun (v : World) (hv : HW w0 v o m a b ⟨kind, base, room, x, e, t, nx, false, result, why, true⟩ D) => hqq ▸ w_slot hv kind base room (p - 1) hbase hroom (by omega) (by omega))
  have C3 := Lib.hid (fun (v : World) (hv : HW w0 v o m a b ⟨kind, base, room, x, e, t, nx, false, result, why, true⟩ D) => w_load hv ((base + q : Nat) : Int) q hq2 rfl)
  rw [← hp, ← hqq]
  clear hbase hroom k3 k4 k5 k6 k7 k8 k9 k10 f4 f5 f6 hg hp hgb hpb hqq hq0 hq2 ht0 ht1 hpl hp1
  have hpp := HPP.out
  go_enter Try.func51, Try.ntmps51
  go_wp2_with fail
  go_region_held3 (fun w' => w'.cell? ⟨o, 0, none⟩ = some (.int .i64 kind) ∧ w'.cell? ⟨o, 1, none⟩ = some (.int .i64 base) ∧ w'.cell? ⟨o, 2, none⟩ = some (.int .i64 room)) (((repeat' apply And.intro) <;> (first | assumption | exact cell_far (by decide) (by assumption))))
    (first
      | (go_at_call 47; refine (C1.out _ H0.out.drew).mono ?_; rintro e0 w1 ⟨rfl, hh⟩; obtain ⟨k0, k1, k2, -, -, -, -, -, -, -, -, klt, f3, -, -, -⟩ := hh.facts; have H1 := Lib.hid hh; clear hh)
      | (go_at_call 58; refine (C2.out _ H1.out).mono ?_; rintro e1 w2 ⟨rfl, hh⟩; obtain ⟨k0, k1, k2, -, -, -, -, -, -, -, -, klt, f3, -, -, -⟩ := hh.facts; have H2 := Lib.hid hh; clear hh)
      | (go_at_call 42; refine (C3.out _ H2.out).mono ?_; rintro e2 w3 ⟨rfl, hh⟩; obtain ⟨k0, k1, k2, k3, -, -, k6, -, -, -, k10, klt, f3, -, -, f6⟩ := hh.facts; have H3 := Lib.hid hh; clear hh))
  go_wp2_with fail
  go_end0
  exact ⟨rfl, ((H3.out.setX _).setN 62).setN 63⟩

theorem m_headSlot_own (h : HW w0 w o m a b ⟨kind, base, room, x, e, t, nx, false, result, why, true⟩ D) (ht0 : 0 ≤ t) (ht1 : t < 4611686018427387904) :
    Calls Try.prog 64 #[.pointer (some ⟨o, 0, none⟩), .pointer (some ⟨m, 0, none⟩)] w (HPost w0 o m a b (.tuple #[]) ⟨kind, base, room, D (2 + (t).toNat % room), e, t, 76, false, result, why, true⟩ D) := by
  have hh := h
  obtain ⟨k0, k1, k2, k3, k4, k5, k6, k7, k8, k9, k10, klt, f3, f4, f5, f6⟩ := hh.facts
  have hbase := hh.h.hbase; have hroom := hh.h.hroom; simp only at hbase hroom; have H0 := Lib.hid hh; clear hh h
  obtain ⟨q, hqq⟩ : ∃ q, q = 2 + (t).toNat % room := ⟨_, rfl⟩
  have hq0 : (t).toNat % room < room := Nat.mod_lt _ (by omega)
  have hq2 : q < room + 2 := by omega
  have C2 := Lib.hid (fun (v : World) (hv : HW w0 v o m a b ⟨kind, base, room, x, e, t, nx, false, result, why, true⟩ D) => hqq ▸ w_slot hv kind base room t hbase hroom (by omega) (by omega))
  have C3 := Lib.hid (fun (v : World) (hv : HW w0 v o m a b ⟨kind, base, room, x, e, t, nx, false, result, why, true⟩ D) => w_load hv ((base + q : Nat) : Int) q hq2 rfl)
  rw [← hqq]
  clear hbase hroom k3 k4 k6 k7 k8 k9 k10 f4 f5 f6 hqq hq0 hq2 ht0 ht1
  go_enter Try.func64, Try.ntmps64
  go_wp2_with fail
  go_region_held3 (fun w' => w'.cell? ⟨o, 0, none⟩ = some (.int .i64 kind) ∧ w'.cell? ⟨o, 1, none⟩ = some (.int .i64 base) ∧ w'.cell? ⟨o, 2, none⟩ = some (.int .i64 room) ∧ w'.cell? ⟨o, 5, none⟩ = some (.int .i64 t)) (((repeat' apply And.intro) <;> (first | assumption | exact cell_far (by decide) (by assumption))))
    (first
      | (go_at_call 58; refine (C2.out _ H0.out.drew).mono ?_; rintro e0 w2 ⟨rfl, hh⟩; obtain ⟨k0, k1, k2, -, -, k5, -, -, -, -, -, klt, f3, -, -, -⟩ := hh.facts; have H2 := Lib.hid hh; clear hh)
      | (go_at_call 42; refine (C3.out _ H2.out).mono ?_; rintro e1 w3 ⟨rfl, hh⟩; obtain ⟨k0, k1, k2, k3, -, k5, k6, -, -, -, k10, klt, f3, -, -, f6⟩ := hh.facts; have H3 := Lib.hid hh; clear hh))
  go_wp2_with fail
  go_end0
  exact ⟨rfl, ((H3.out.setX _).setN 75).setN 76⟩

theorem m_lastSlot_thief (h : HW w0 w o m a b ⟨kind, base, room, x, e, t, nx, false, result, why, false⟩ D) (ht0 : 0 ≤ t) (ht1 : t < 1099511627776) (hpl : t % 65536 ≤ 1000) (hp1 : 1 ≤ t % 65536) :
    Calls Try.prog 51 #[.pointer (some ⟨o, 0, none⟩), .pointer (some ⟨m, 0, none⟩)] w (HPost w0 o m a b (.tuple #[]) ⟨kind, base, room, D (2 + (t % 65536 - 1).toNat % room), e, t, 62, false, result, why, false⟩ D) := by
  have hh := h
  obtain ⟨k0, k1, k2, k3, k4, k5, k6, k7, k8, k9, k10, klt, f3, f4, f5, f6⟩ := hh.facts
  have hbase := hh.h.hbase; have hroom := hh.h.hroom; simp only at hbase hroom; have H0 := Lib.hid hh; clear hh h
  obtain ⟨g, hg⟩ : ∃ g, g = t / 65536 := ⟨_, rfl⟩
  obtain ⟨p, hp⟩ : ∃ p, p = t % 65536 := ⟨_, rfl⟩
  have hgb : 0 ≤ g ∧ g < 16777216 := by omega
  have hpb : 0 ≤ p ∧ p ≤ 1000 := by omega
  obtain ⟨q, hqq⟩ : ∃ q, q = 2 + (p - 1).toNat % room := ⟨_, rfl⟩
  have hq0 : (p - 1).toNat % room < room := Nat.mod_lt _ (by omega)
  have hq2 : q < room + 2 := by omega
  have hpp : IntKind.i64.wrap (p - 1) = p - 1 := IntWalk.i64_in _ (by omega)
  have HPP := Lib.hid hpp; clear hpp
  have C1 := Lib.hid (fun (v : World) (hv : HW w0 v o m a b ⟨kind, base, room, x, e, t, nx, false, result, why, false⟩ D) => hp ▸ w_place hv ht0 (by simp only; omega))
  have C2 := Lib.hid (fun (v : World) (hv : HW w0 v o m a b ⟨kind, base, room, x, e, t, nx, false, result, why, false⟩ D) => hqq ▸ w_slot hv kind base room (p - 1) hbase hroom (by omega) (by omega))
  have C3 := Lib.hid (fun (v : World) (hv : HW w0 v o m a b ⟨kind, base, room, x, e, t, nx, false, result, why, false⟩ D) => w_load hv ((base + q : Nat) : Int) q hq2 rfl)
  rw [← hp, ← hqq]
  clear hbase hroom k3 k4 k5 k6 k7 k8 k9 k10 f4 f5 f6 hg hp hgb hpb hqq hq0 hq2 ht0 ht1 hpl hp1
  have hpp := HPP.out
  go_enter Try.func51, Try.ntmps51
  go_wp2_with fail
  go_region_held3 (fun w' => w'.cell? ⟨o, 0, none⟩ = some (.int .i64 kind) ∧ w'.cell? ⟨o, 1, none⟩ = some (.int .i64 base) ∧ w'.cell? ⟨o, 2, none⟩ = some (.int .i64 room)) (((repeat' apply And.intro) <;> (first | assumption | exact cell_far (by decide) (by assumption))))
    (first
      | (go_at_call 47; refine (C1.out _ H0.out.drew).mono ?_; rintro e0 w1 ⟨rfl, hh⟩; obtain ⟨k0, k1, k2, -, -, -, -, -, -, -, -, klt, f3, -, -, -⟩ := hh.facts; have H1 := Lib.hid hh; clear hh)
      | (go_at_call 58; refine (C2.out _ H1.out).mono ?_; rintro e1 w2 ⟨rfl, hh⟩; obtain ⟨k0, k1, k2, -, -, -, -, -, -, -, -, klt, f3, -, -, -⟩ := hh.facts; have H2 := Lib.hid hh; clear hh)
      | (go_at_call 42; refine (C3.out _ H2.out).mono ?_; rintro e2 w3 ⟨rfl, hh⟩; obtain ⟨k0, k1, k2, k3, -, -, k6, -, -, -, k10, klt, f3, -, -, f6⟩ := hh.facts; have H3 := Lib.hid hh; clear hh))
  go_wp2_with fail
  go_end0
  exact ⟨rfl, (H3.out.setX _).setN 62⟩

theorem m_headSlot_thief (h : HW w0 w o m a b ⟨kind, base, room, x, e, t, nx, false, result, why, false⟩ D) (ht0 : 0 ≤ t) (ht1 : t < 4611686018427387904) :
    Calls Try.prog 64 #[.pointer (some ⟨o, 0, none⟩), .pointer (some ⟨m, 0, none⟩)] w (HPost w0 o m a b (.tuple #[]) ⟨kind, base, room, D (2 + (t).toNat % room), e, t, 75, false, result, why, false⟩ D) := by
  have hh := h
  obtain ⟨k0, k1, k2, k3, k4, k5, k6, k7, k8, k9, k10, klt, f3, f4, f5, f6⟩ := hh.facts
  have hbase := hh.h.hbase; have hroom := hh.h.hroom; simp only at hbase hroom; have H0 := Lib.hid hh; clear hh h
  obtain ⟨q, hqq⟩ : ∃ q, q = 2 + (t).toNat % room := ⟨_, rfl⟩
  have hq0 : (t).toNat % room < room := Nat.mod_lt _ (by omega)
  have hq2 : q < room + 2 := by omega
  have C2 := Lib.hid (fun (v : World) (hv : HW w0 v o m a b ⟨kind, base, room, x, e, t, nx, false, result, why, false⟩ D) => hqq ▸ w_slot hv kind base room t hbase hroom (by omega) (by omega))
  have C3 := Lib.hid (fun (v : World) (hv : HW w0 v o m a b ⟨kind, base, room, x, e, t, nx, false, result, why, false⟩ D) => w_load hv ((base + q : Nat) : Int) q hq2 rfl)
  rw [← hqq]
  clear hbase hroom k3 k4 k6 k7 k8 k9 k10 f4 f5 f6 hqq hq0 hq2 ht0 ht1
  go_enter Try.func64, Try.ntmps64
  go_wp2_with fail
  go_region_held3 (fun w' => w'.cell? ⟨o, 0, none⟩ = some (.int .i64 kind) ∧ w'.cell? ⟨o, 1, none⟩ = some (.int .i64 base) ∧ w'.cell? ⟨o, 2, none⟩ = some (.int .i64 room) ∧ w'.cell? ⟨o, 5, none⟩ = some (.int .i64 t)) (((repeat' apply And.intro) <;> (first | assumption | exact cell_far (by decide) (by assumption))))
    (first
      | (go_at_call 58; refine (C2.out _ H0.out.drew).mono ?_; rintro e0 w2 ⟨rfl, hh⟩; obtain ⟨k0, k1, k2, -, -, k5, -, -, -, -, -, klt, f3, -, -, -⟩ := hh.facts; have H2 := Lib.hid hh; clear hh)
      | (go_at_call 42; refine (C3.out _ H2.out).mono ?_; rintro e1 w3 ⟨rfl, hh⟩; obtain ⟨k0, k1, k2, k3, -, k5, k6, -, -, -, k10, klt, f3, -, -, f6⟩ := hh.facts; have H3 := Lib.hid hh; clear hh))
  go_wp2_with fail
  go_end0
  exact ⟨rfl, (H3.out.setX _).setN 75⟩

end
end Go.Proofs.Ytlogmfpnjpamgaa
