/- Layer 9: the moves of an operation: drawn regions with calls. -/
import Derived.Test.YtlogmfpnjpamgaaDeqE
open Go Go.RowKit
namespace Go.Proofs.Ytlogmfpnjpamgaa

section
variable {w0 w : World} {o m a b : Nat} {D : Dq} {kind : Int} {base room : Nat} {x e t : Int} {nx : Nat} {result why : Int} {owner : Bool}

theorem cell_far {w : World} {o i j : Nat} {v x : Value} (h : i ≠ j) (hc : w.cell? ⟨o, j, none⟩ = some x) : (w.setCell ⟨o, i, none⟩ v).cell? ⟨o, j, none⟩ = some x := by
  rw [World.cell?_setCell_other _ _ _ _ (fun e => h (by injection e))]; exact hc

theorem m_pushOver (h : HW w0 w o m a b ⟨kind, base, room, x, e, t, nx, false, result, why, owner⟩ D) (h0 : 0 ≤ e) (h1 : e < 4611686018427387904) :
    Calls Try.prog 59 #[.pointer (some ⟨o, 0, none⟩), .pointer (some ⟨m, 0, none⟩)] w (HPost w0 o m a b (.tuple #[]) ⟨kind, base, room, x, e, t, nx, true, result, 0, owner⟩ (D.put 0 (e + 1))) := by
  have hh := h
  obtain ⟨k0, k1, k2, k3, k4, k5, k6, k7, k8, k9, k10, klt, f3, f4, f5, f6⟩ := hh.facts
  have hbase := hh.h.hbase; have hroom := hh.h.hroom; simp only at hbase hroom; have H0 := Lib.hid hh; clear hh h
  have C1 := Lib.hid (fun (v : World) (hv : HW w0 v o m a b ⟨kind, base, room, x, e, t, nx, false, result, why, owner⟩ D) => w_end hv kind base room)
  have C2 := Lib.hid (fun (v : World) (hv : HW w0 v o m a b ⟨kind, base, room, x, e, t, nx, false, result, why, owner⟩ D) => w_store hv base (e + 1) 0 (by simp) (by simp))
  have hs : IntKind.i64.wrap (e + 1) = e + 1 := IntWalk.i64_in _ (by omega)
  have HS := Lib.hid hs
  clear hbase hroom h0 h1 hs k3 k5 k6 k7 k8 k9 k10 f3 f4 f5 f6
  have hs := HS.out
  go_enter Try.func59, Try.ntmps59
  go_wp2_with fail
  go_region_held3 (fun w' => w'.cell? ⟨o, 0, none⟩ = some (.int .i64 kind) ∧ w'.cell? ⟨o, 1, none⟩ = some (.int .i64 base) ∧ w'.cell? ⟨o, 2, none⟩ = some (.int .i64 room) ∧ w'.cell? ⟨o, 4, none⟩ = some (.int .i64 e)) (go_keep)
    (first
      | (go_at_call 43; refine (C1.out _ H0.out.drew).mono ?_; rintro e0 w1 ⟨rfl, hh⟩; obtain ⟨k0, k1, k2, -, k4, -, -, -, -, -, -, klt, -, -, -, -⟩ := hh.facts; have H1 := Lib.hid hh; clear hh)
      | (go_at_call 57; refine (C2.out _ H1.out).mono ?_; rintro e1 w2 ⟨rfl, hh⟩; obtain ⟨k0, k1, k2, -, k4, -, -, -, -, -, -, klt, -, -, -, -⟩ := hh.facts; have H2 := Lib.hid hh; clear hh))
  go_wp2_with fail
  refine (w_over H2.out rfl).mono ?_
  rintro e w3 ⟨rfl, hh⟩
  have H3 := Lib.hid hh; clear hh
  go_wp2_with fail
  go_end0
  exact ⟨rfl, H3.out⟩

theorem m_popSlot (h : HW w0 w o m a b ⟨kind, base, room, x, e, t, nx, false, result, why, owner⟩ D) (h0 : 0 ≤ e) (h1 : e < 4611686018427387904) :
    Calls Try.prog 61 #[.pointer (some ⟨o, 0, none⟩), .pointer (some ⟨m, 0, none⟩)] w (HPost w0 o m a b (.tuple #[]) ⟨kind, base, room, D (2 + e.toNat % room), e, t, 71, false, result, why, owner⟩ D) := by
  have hh := h
  obtain ⟨k0, k1, k2, k3, k4, k5, k6, k7, k8, k9, k10, klt, f3, f4, f5, f6⟩ := hh.facts
  have hbase := hh.h.hbase; have hroom := hh.h.hroom; simp only at hbase hroom; have H0 := Lib.hid hh; clear hh h
  have hq : e.toNat % room < room := Nat.mod_lt _ (by omega)
  obtain ⟨q, hqq⟩ : ∃ q, q = 2 + e.toNat % room := ⟨_, rfl⟩
  have hq2 : q < room + 2 := by omega
  have C1 := Lib.hid (fun (v : World) (hv : HW w0 v o m a b ⟨kind, base, room, x, e, t, nx, false, result, why, owner⟩ D) => hqq ▸ w_slot hv kind base room e hbase hroom h0 h1)
  have C2 := Lib.hid (fun (v : World) (hv : HW w0 v o m a b ⟨kind, base, room, x, e, t, nx, false, result, why, owner⟩ D) => w_load hv ((base + q : Nat) : Int) q hq2 rfl)
  rw [← hqq]
  clear hq hqq hq2 hbase hroom h0 h1 k3 k5 k6 k7 k8 k9 k10 f4 f5 f6
  go_enter Try.func61, Try.ntmps61
  go_wp2_with fail
  go_region_held3 (fun w' => w'.cell? ⟨o, 0, none⟩ = some (.int .i64 kind) ∧ w'.cell? ⟨o, 1, none⟩ = some (.int .i64 base) ∧ w'.cell? ⟨o, 2, none⟩ = some (.int .i64 room) ∧ w'.cell? ⟨o, 4, none⟩ = some (.int .i64 e)) (((repeat' apply And.intro) <;> (first | assumption | exact cell_far (by decide) (by assumption))))
    (first
      | (go_at_call 58; refine (C1.out _ H0.out.drew).mono ?_; rintro e0 w1 ⟨rfl, hh⟩; obtain ⟨k0, k1, k2, -, k4, -, -, -, -, -, -, klt, f3, -, -, -⟩ := hh.facts; have H1 := Lib.hid hh; clear hh)
      | (go_at_call 42; refine (C2.out _ H1.out).mono ?_; rintro e1 w2 ⟨rfl, hh⟩; obtain ⟨k0, k1, k2, k3, k4, -, k6, -, -, -, -, klt, f3, -, -, f6⟩ := hh.facts; have H2 := Lib.hid hh; clear hh))
  go_wp2_with fail
  go_end0
  exact ⟨rfl, (H2.out.setX _).setN 71⟩

theorem m_pushLast (h : HW w0 w o m a b ⟨kind, base, room, x, e, t, nx, false, result, why, owner⟩ D) (h0 : 0 ≤ e) (h1 : e < 4611686018427387904) :
    Calls Try.prog 48 #[.pointer (some ⟨o, 0, none⟩), .pointer (some ⟨m, 0, none⟩)] w (HPost w0 o m a b (.tuple #[]) ⟨kind, base, room, x, e, t, 60, false, result, why, owner⟩ (D.put (2 + e.toNat % room) x)) := by
  have hh := h
  obtain ⟨k0, k1, k2, k3, k4, k5, k6, k7, k8, k9, k10, klt, f3, f4, f5, f6⟩ := hh.facts
  have hbase := hh.h.hbase; have hroom := hh.h.hroom; simp only at hbase hroom; have H0 := Lib.hid hh; clear hh h
  have hq : e.toNat % room < room := Nat.mod_lt _ (by omega)
  obtain ⟨q, hqq⟩ : ∃ q, q = 2 + e.toNat % room := ⟨_, rfl⟩
  have hq2 : q < room + 2 := by omega
  have C1 := Lib.hid (fun (v : World) (hv : HW w0 v o m a b ⟨kind, base, room, x, e, t, nx, false, result, why, owner⟩ D) => hqq ▸ w_slot hv kind base room e hbase hroom h0 h1)
  have C2 := Lib.hid (fun (v : World) (hv : HW w0 v o m a b ⟨kind, base, room, x, e, t, nx, false, result, why, owner⟩ D) => w_store hv ((base + q : Nat) : Int) x q hq2 rfl)
  rw [← hqq]
  clear hq hqq hq2 hbase hroom h0 h1 k5 k6 k7 k8 k9 k10 f3 f4 f5 f6
  go_enter Try.func48, Try.ntmps48
  go_wp2_with fail
  go_region_held3 (fun w' => w'.cell? ⟨o, 0, none⟩ = some (.int .i64 kind) ∧ w'.cell? ⟨o, 1, none⟩ = some (.int .i64 base) ∧ w'.cell? ⟨o, 2, none⟩ = some (.int .i64 room) ∧ w'.cell? ⟨o, 3, none⟩ = some (.int .i64 x) ∧ w'.cell? ⟨o, 4, none⟩ = some (.int .i64 e)) (go_keep)
    (first
      | (go_at_call 58; refine (C1.out _ H0.out.drew).mono ?_; rintro e0 w1 ⟨rfl, hh⟩; obtain ⟨k0, k1, k2, k3, k4, -, -, -, -, -, -, klt, -, -, -, -⟩ := hh.facts; have H1 := Lib.hid hh; clear hh)
      | (go_at_call 57; refine (C2.out _ H1.out).mono ?_; rintro e1 w2 ⟨rfl, hh⟩; obtain ⟨k0, k1, k2, k3, k4, -, k6, -, -, -, -, klt, -, -, -, f6⟩ := hh.facts; have H2 := Lib.hid hh; clear hh))
  go_wp2_with fail
  go_end0
  exact ⟨rfl, H2.out.setN 60⟩

theorem m_popDown (h : HW w0 w o m a b ⟨kind, base, room, x, e, t, nx, false, result, why, owner⟩ D) (h0 : 1 ≤ e) (h1 : e < 4611686018427387904) :
    Calls Try.prog 50 #[.pointer (some ⟨o, 0, none⟩), .pointer (some ⟨m, 0, none⟩)] w (HPost w0 o m a b (.tuple #[]) ⟨kind, base, room, x, (e - 1), t, 61, false, result, why, owner⟩ (D.put 0 (e - 1))) := by
  have hh := h
  obtain ⟨k0, k1, k2, k3, k4, k5, k6, k7, k8, k9, k10, klt, f3, f4, f5, f6⟩ := hh.facts
  have hbase := hh.h.hbase; have hroom := hh.h.hroom; simp only at hbase hroom; have H0 := Lib.hid hh; clear hh h
  have C1 := Lib.hid (fun (v : World) (hv : HW w0 v o m a b ⟨kind, base, room, x, e - 1, t, nx, false, result, why, owner⟩ D) => w_end hv kind base room)
  have C2 := Lib.hid (fun (v : World) (hv : HW w0 v o m a b ⟨kind, base, room, x, e - 1, t, nx, false, result, why, owner⟩ D) => w_store hv base (e - 1) 0 (by simp) (by simp))
  have H1 := Lib.hid (H0.out.setE (e - 1))
  have hs : IntKind.i64.wrap (e - 1) = e - 1 := IntWalk.i64_in _ (by omega)
  clear k3 k5 k6 k7 k8 k9 k10 f3 f5 f6 hbase hroom h0 h1 H0
  go_enter Try.func50, Try.ntmps50
  go_wp2_with fail
  clear k0 k1 k2 k4 f4 klt hs
  obtain ⟨k0, k1, k2, -, k4, -, -, -, -, -, -, klt, -, -, -, -⟩ := H1.out.facts
  go_wp2_with fail
  go_region_held3 (fun w' => w'.cell? ⟨o, 0, none⟩ = some (.int .i64 kind) ∧ w'.cell? ⟨o, 1, none⟩ = some (.int .i64 base) ∧ w'.cell? ⟨o, 2, none⟩ = some (.int .i64 room) ∧ w'.cell? ⟨o, 4, none⟩ = some (.int .i64 (e - 1))) (go_keep)
    (first
      | (go_at_call 43; refine (C1.out _ H1.out.drew).mono ?_; rintro e0 w2 ⟨rfl, hh⟩; obtain ⟨k0, k1, k2, -, k4, -, -, -, -, -, -, klt, -, -, -, -⟩ := hh.facts; have H2 := Lib.hid hh; clear hh)
      | (go_at_call 57; refine (C2.out _ H2.out).mono ?_; rintro e1 w3 ⟨rfl, hh⟩; obtain ⟨k0, k1, k2, -, k4, -, k6, -, -, -, -, klt, -, -, -, f6⟩ := hh.facts; have H3 := Lib.hid hh; clear hh))
  go_wp2_with fail
  go_end0
  exact ⟨rfl, H3.out.setN 61⟩

end
end Go.Proofs.Ytlogmfpnjpamgaa
