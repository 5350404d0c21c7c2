/- Layer 9, the document's side: the moves of kind 3. -/
import Derived.Test.YtlogmfpnjpamgaaDocA
import Derived.BigRegion
open Go Go.RowKit
namespace Go.Proofs.Ytlogmfpnjpamgaa
set_option linter.unusedVariables false

section
variable {w0 w : World} {v l q room : Nat} {D : Dq} {x e t : Int}

set_option maxRecDepth 100000 in
set_option maxHeartbeats 1000000 in
theorem d3_0_0 (h : RW w0 w v l q 3 room D ⟨0, 1, x, e, t, false, 0, 0⟩) :
    Calls Try.prog 39 #[.pointer (some ⟨v, 0, none⟩), .pointer (some ⟨q, 0, none⟩)] w (RPost w0 v l q 3 room (.tuple #[]) D ⟨0, 1, x, e, D 1, false, 0, 0⟩) := by
  obtain ⟨c0, c1, c2, c3, c4, c5, c6, c7, d0, d1, d2, d3, d4, f1, f2, f3, f4, g2, g3⟩ := h.facts
  simp only at c0 c1 c2 c3 c4 c5 c6 c7 d0 d1 d2 d3 d4
  have H := Lib.hid h
  clear h c5 c6 c7
  go_enter Try.func39, Try.ntmps39
  go_wp2_with fail
  go_quiet (fail)
  go_wp2_with fail
  go_end0
  exact ⟨rfl, (RW.setO (o' := ⟨0, 1, x, e, D 1, false, 0, 0⟩) (H.out.drewN _) 4 _ rfl)⟩

set_option maxRecDepth 100000 in
set_option maxHeartbeats 1000000 in
theorem d3_1_0 (h : RW w0 w v l q 3 room D ⟨1, 1, x, e, t, false, 0, 0⟩) :
    Calls Try.prog 39 #[.pointer (some ⟨v, 0, none⟩), .pointer (some ⟨q, 0, none⟩)] w (RPost w0 v l q 3 room (.tuple #[]) D ⟨1, 1, x, e, D 1, false, 0, 0⟩) := by
  obtain ⟨c0, c1, c2, c3, c4, c5, c6, c7, d0, d1, d2, d3, d4, f1, f2, f3, f4, g2, g3⟩ := h.facts
  simp only at c0 c1 c2 c3 c4 c5 c6 c7 d0 d1 d2 d3 d4
  have H := Lib.hid h
  clear h c5 c6 c7
  go_enter Try.func39, Try.ntmps39
  go_wp2_with fail
  go_quiet (fail)
  go_wp2_with fail
  go_end0
  exact ⟨rfl, (RW.setO (o' := ⟨1, 1, x, e, D 1, false, 0, 0⟩) (H.out.drewN _) 4 _ rfl)⟩

set_option maxRecDepth 100000 in
set_option maxHeartbeats 1000000 in
theorem d3_2_0 (h : RW w0 w v l q 3 room D ⟨2, 1, x, e, t, false, 0, 0⟩) :
    Calls Try.prog 39 #[.pointer (some ⟨v, 0, none⟩), .pointer (some ⟨q, 0, none⟩)] w (RPost w0 v l q 3 room (.tuple #[]) D ⟨2, 1, x, e, D 1, false, 0, 0⟩) := by
  obtain ⟨c0, c1, c2, c3, c4, c5, c6, c7, d0, d1, d2, d3, d4, f1, f2, f3, f4, g2, g3⟩ := h.facts
  simp only at c0 c1 c2 c3 c4 c5 c6 c7 d0 d1 d2 d3 d4
  have H := Lib.hid h
  clear h c5 c6 c7
  go_enter Try.func39, Try.ntmps39
  go_wp2_with fail
  go_quiet (fail)
  go_wp2_with fail
  go_end0
  exact ⟨rfl, (RW.setO (o' := ⟨2, 1, x, e, D 1, false, 0, 0⟩) (H.out.drewN _) 4 _ rfl)⟩

set_option maxRecDepth 100000 in
set_option maxHeartbeats 1000000 in
theorem d3_0_1f (h : RW w0 w v l q 3 room D ⟨0, 2, x, e, t, false, 0, 0⟩) (ht0 : 0 ≤ t) (ht1 : t < 1099511627776) (hE0 : 0 ≤ D 0) (hE1 : D 0 < 1099511627776) (hE : (room : Int) ≤ D 0 - t) :
    Calls Try.prog 39 #[.pointer (some ⟨v, 0, none⟩), .pointer (some ⟨q, 0, none⟩)] w (RPost w0 v l q 3 room (.tuple #[]) D ⟨0, 2, x, D 0, t, true, 0, 8⟩) := by
  obtain ⟨c0, c1, c2, c3, c4, c5, c6, c7, d0, d1, d2, d3, d4, f1, f2, f3, f4, g2, g3⟩ := h.facts
  simp only at c0 c1 c2 c3 c4 c5 c6 c7 d0 d1 d2 d3 d4
  have hs : IntKind.i64.wrap (D 0 - t) = D 0 - t := IntWalk.i64_in _ (by omega)
  have hEb : (room : Int) ≤ D 0 - t := hE
  have H := Lib.hid h
  clear h c5 c6 c7
  go_enter Try.func39, Try.ntmps39
  go_wp2_with fail
  go_quiet (fail)
  go_wp2_with fail
  go_quiet (fail)
  go_wp2_with fail
  refine (rend_any 8 0 (RW.drewN (RW.setO (o' := ⟨0, 2, x, D 0, t, false, 0, 0⟩) (H.out.drewN _) 3 _ rfl) _)).mono ?_
  rintro e9 w9 ⟨rfl, h9⟩
  have H9 := Lib.hid h9; clear h9
  go_wp2_with fail
  go_end0
  exact ⟨rfl, H9.out⟩

set_option maxRecDepth 100000 in
set_option maxHeartbeats 1000000 in
theorem d3_0_1n (h : RW w0 w v l q 3 room D ⟨0, 2, x, e, t, false, 0, 0⟩) (ht0 : 0 ≤ t) (ht1 : t < 1099511627776) (hE0 : 0 ≤ D 0) (hE1 : D 0 < 1099511627776) (hE : D 0 - t < room) :
    Calls Try.prog 39 #[.pointer (some ⟨v, 0, none⟩), .pointer (some ⟨q, 0, none⟩)] w (RPost w0 v l q 3 room (.tuple #[]) D ⟨0, 2, x, D 0, t, false, 0, 0⟩) := by
  obtain ⟨c0, c1, c2, c3, c4, c5, c6, c7, d0, d1, d2, d3, d4, f1, f2, f3, f4, g2, g3⟩ := h.facts
  simp only at c0 c1 c2 c3 c4 c5 c6 c7 d0 d1 d2 d3 d4
  have hs : IntKind.i64.wrap (D 0 - t) = D 0 - t := IntWalk.i64_in _ (by omega)
  have hEb : decide ((room : Int) ≤ D 0 - t) = false := by simp; omega
  have H := Lib.hid h
  clear h c5 c6 c7
  go_enter Try.func39, Try.ntmps39
  go_wp2_with fail
  go_quiet (fail)
  go_wp2_with fail
  go_quiet (fail)
  go_wp2_with fail
  go_end0
  exact ⟨rfl, RW.drewN (RW.setO (o' := ⟨0, 2, x, D 0, t, false, 0, 0⟩) (H.out.drewN _) 3 _ rfl) _⟩

set_option maxRecDepth 100000 in
set_option maxHeartbeats 1000000 in
theorem d3_0_2 (h : RW w0 w v l q 3 room D ⟨0, 3, x, e, t, false, 0, 0⟩) (h0 : 0 ≤ e) {i : Nat} (hmi : e % (room : Int) = i) (hi : i < room) (hr : room ≤ 1000) :
    Calls Try.prog 39 #[.pointer (some ⟨v, 0, none⟩), .pointer (some ⟨q, 0, none⟩)] w (RPost w0 v l q 3 room (.tuple #[]) (D.put (2 + i) x) ⟨0, 3, x, e, t, false, 0, 0⟩) := by
  obtain ⟨c0, c1, c2, c3, c4, c5, c6, c7, d0, d1, d2, d3, d4, f1, f2, f3, f4, g2, g3⟩ := h.facts
  simp only at c0 c1 c2 c3 c4 c5 c6 c7 d0 d1 d2 d3 d4
  have l0 := h.slot i hi
  have fl := h.sl.free i
  have hrb : ((room : Int) == 0) = false := by simp; omega
  have hr0 : ¬ (room : Int) = 0 := by omega
  have hmt : e.tmod (room : Int) = (i : Int) := by rw [Int.tmod_eq_emod_of_nonneg (by omega), hmi]
  have hwi : IntKind.i64.wrap (i : Int) = i := IntWalk.i64_in _ (by omega)
  have HMI := Lib.hid hmi; clear hmi
  have H := Lib.hid h
  clear h c5 c6 c7
  go_enter Try.func39, Try.ntmps39
  go_wp2_with fail
  go_quiet (fail)
  go_wp2_with fail
  go_region
  all_goals go_wp2_with fail
  go_end0
  exact ⟨rfl, (RW.setS (H.out.drewN _) i hi x)⟩

set_option maxRecDepth 100000 in
set_option maxHeartbeats 1000000 in
theorem d3_0_3 (h : RW w0 w v l q 3 room D ⟨0, 4, x, e, t, false, 0, 0⟩) (h0 : 0 ≤ e) (h1 : e < 4611686018427387904) :
    Calls Try.prog 39 #[.pointer (some ⟨v, 0, none⟩), .pointer (some ⟨q, 0, none⟩)] w (RPost w0 v l q 3 room (.tuple #[]) (D.put 0 (e + 1)) ⟨0, 4, x, e, t, true, 0, 0⟩) := by
  obtain ⟨c0, c1, c2, c3, c4, c5, c6, c7, d0, d1, d2, d3, d4, f1, f2, f3, f4, g2, g3⟩ := h.facts
  simp only at c0 c1 c2 c3 c4 c5 c6 c7 d0 d1 d2 d3 d4
  have hs : IntKind.i64.wrap (e + 1) = e + 1 := IntWalk.i64_in _ (by omega)
  have H := Lib.hid h
  clear h c5 c6 c7
  go_enter Try.func39, Try.ntmps39
  go_wp2_with fail
  go_quiet (fail)
  go_wp2_with fail
  refine (rend_any 0 0 (RW.setE (H.out.drewN _) (e + 1))).mono ?_
  rintro e9 w9 ⟨rfl, h9⟩
  have H9 := Lib.hid h9; clear h9
  go_wp2_with fail
  go_end0
  exact ⟨rfl, H9.out⟩

set_option maxRecDepth 100000 in
set_option maxHeartbeats 1000000 in
theorem d3_1_1f (h : RW w0 w v l q 3 room D ⟨1, 2, x, e, t, false, 0, 0⟩) (hE : D 0 ≤ t) :
    Calls Try.prog 39 #[.pointer (some ⟨v, 0, none⟩), .pointer (some ⟨q, 0, none⟩)] w (RPost w0 v l q 3 room (.tuple #[]) D ⟨1, 2, x, D 0, t, true, 0, 9⟩) := by
  obtain ⟨c0, c1, c2, c3, c4, c5, c6, c7, d0, d1, d2, d3, d4, f1, f2, f3, f4, g2, g3⟩ := h.facts
  simp only at c0 c1 c2 c3 c4 c5 c6 c7 d0 d1 d2 d3 d4
  have hEb : D 0 ≤ t := hE
  have H := Lib.hid h
  clear h c5 c6 c7
  go_enter Try.func39, Try.ntmps39
  go_wp2_with fail
  go_quiet (fail)
  go_wp2_with fail
  go_quiet (fail)
  go_wp2_with fail
  refine (rend_any 9 0 (RW.drewN (RW.setO (o' := ⟨1, 2, x, D 0, t, false, 0, 0⟩) (H.out.drewN _) 3 _ rfl) _)).mono ?_
  rintro e9 w9 ⟨rfl, h9⟩
  have H9 := Lib.hid h9; clear h9
  go_wp2_with fail
  go_end0
  exact ⟨rfl, H9.out⟩

set_option maxRecDepth 100000 in
set_option maxHeartbeats 1000000 in
theorem d3_1_1n (h : RW w0 w v l q 3 room D ⟨1, 2, x, e, t, false, 0, 0⟩) (hE : t < D 0) :
    Calls Try.prog 39 #[.pointer (some ⟨v, 0, none⟩), .pointer (some ⟨q, 0, none⟩)] w (RPost w0 v l q 3 room (.tuple #[]) D ⟨1, 2, x, D 0, t, false, 0, 0⟩) := by
  obtain ⟨c0, c1, c2, c3, c4, c5, c6, c7, d0, d1, d2, d3, d4, f1, f2, f3, f4, g2, g3⟩ := h.facts
  simp only at c0 c1 c2 c3 c4 c5 c6 c7 d0 d1 d2 d3 d4
  have hEb : decide (D 0 ≤ t) = false := by simp; omega
  have H := Lib.hid h
  clear h c5 c6 c7
  go_enter Try.func39, Try.ntmps39
  go_wp2_with fail
  go_quiet (fail)
  go_wp2_with fail
  go_quiet (fail)
  go_wp2_with fail
  go_end0
  exact ⟨rfl, RW.drewN (RW.setO (o' := ⟨1, 2, x, D 0, t, false, 0, 0⟩) (H.out.drewN _) 3 _ rfl) _⟩

set_option maxRecDepth 100000 in
set_option maxHeartbeats 1000000 in
theorem d3_1_2 (h : RW w0 w v l q 3 room D ⟨1, 3, x, e, t, false, 0, 0⟩) (h0 : 0 ≤ t) {i : Nat} (hmi : t % (room : Int) = i) (hi : i < room) (hr : room ≤ 1000) :
    Calls Try.prog 39 #[.pointer (some ⟨v, 0, none⟩), .pointer (some ⟨q, 0, none⟩)] w (RPost w0 v l q 3 room (.tuple #[]) D ⟨1, 3, (D (2 + i)), e, t, false, 0, 0⟩) := by
  obtain ⟨c0, c1, c2, c3, c4, c5, c6, c7, d0, d1, d2, d3, d4, f1, f2, f3, f4, g2, g3⟩ := h.facts
  simp only at c0 c1 c2 c3 c4 c5 c6 c7 d0 d1 d2 d3 d4
  have l0 := h.slot i hi
  have fl := h.sl.free i
  have hrb : ((room : Int) == 0) = false := by simp; omega
  have hr0 : ¬ (room : Int) = 0 := by omega
  have hmt : t.tmod (room : Int) = (i : Int) := by rw [Int.tmod_eq_emod_of_nonneg (by omega), hmi]
  have hwi : IntKind.i64.wrap (i : Int) = i := IntWalk.i64_in _ (by omega)
  have HMI := Lib.hid hmi; clear hmi
  have H := Lib.hid h
  clear h c5 c6 c7
  go_enter Try.func39, Try.ntmps39
  go_wp2_with fail
  go_quiet (fail)
  go_wp2_with fail
  go_region
  all_goals go_wp2_with fail
  go_end0
  exact ⟨rfl, (RW.setO (o' := ⟨1, 3, (D (2 + i)), e, t, false, 0, 0⟩) (H.out.drewN _) 2 _ rfl)⟩

set_option maxRecDepth 100000 in
set_option maxHeartbeats 1000000 in
theorem d3_2_1f (h : RW w0 w v l q 3 room D ⟨2, 2, x, e, t, false, 0, 0⟩) (hE : D 0 ≤ t) :
    Calls Try.prog 39 #[.pointer (some ⟨v, 0, none⟩), .pointer (some ⟨q, 0, none⟩)] w (RPost w0 v l q 3 room (.tuple #[]) D ⟨2, 2, x, D 0, t, true, 0, 9⟩) := by
  obtain ⟨c0, c1, c2, c3, c4, c5, c6, c7, d0, d1, d2, d3, d4, f1, f2, f3, f4, g2, g3⟩ := h.facts
  simp only at c0 c1 c2 c3 c4 c5 c6 c7 d0 d1 d2 d3 d4
  have hEb : D 0 ≤ t := hE
  have H := Lib.hid h
  clear h c5 c6 c7
  go_enter Try.func39, Try.ntmps39
  go_wp2_with fail
  go_quiet (fail)
  go_wp2_with fail
  go_quiet (fail)
  go_wp2_with fail
  refine (rend_any 9 0 (RW.drewN (RW.setO (o' := ⟨2, 2, x, D 0, t, false, 0, 0⟩) (H.out.drewN _) 3 _ rfl) _)).mono ?_
  rintro e9 w9 ⟨rfl, h9⟩
  have H9 := Lib.hid h9; clear h9
  go_wp2_with fail
  go_end0
  exact ⟨rfl, H9.out⟩

set_option maxRecDepth 100000 in
set_option maxHeartbeats 1000000 in
theorem d3_2_1n (h : RW w0 w v l q 3 room D ⟨2, 2, x, e, t, false, 0, 0⟩) (hE : t < D 0) :
    Calls Try.prog 39 #[.pointer (some ⟨v, 0, none⟩), .pointer (some ⟨q, 0, none⟩)] w (RPost w0 v l q 3 room (.tuple #[]) D ⟨2, 2, x, D 0, t, false, 0, 0⟩) := by
  obtain ⟨c0, c1, c2, c3, c4, c5, c6, c7, d0, d1, d2, d3, d4, f1, f2, f3, f4, g2, g3⟩ := h.facts
  simp only at c0 c1 c2 c3 c4 c5 c6 c7 d0 d1 d2 d3 d4
  have hEb : decide (D 0 ≤ t) = false := by simp; omega
  have H := Lib.hid h
  clear h c5 c6 c7
  go_enter Try.func39, Try.ntmps39
  go_wp2_with fail
  go_quiet (fail)
  go_wp2_with fail
  go_quiet (fail)
  go_wp2_with fail
  go_end0
  exact ⟨rfl, RW.drewN (RW.setO (o' := ⟨2, 2, x, D 0, t, false, 0, 0⟩) (H.out.drewN _) 3 _ rfl) _⟩

set_option maxRecDepth 100000 in
set_option maxHeartbeats 1000000 in
theorem d3_2_2 (h : RW w0 w v l q 3 room D ⟨2, 3, x, e, t, false, 0, 0⟩) (h0 : 0 ≤ t) {i : Nat} (hmi : t % (room : Int) = i) (hi : i < room) (hr : room ≤ 1000) :
    Calls Try.prog 39 #[.pointer (some ⟨v, 0, none⟩), .pointer (some ⟨q, 0, none⟩)] w (RPost w0 v l q 3 room (.tuple #[]) D ⟨2, 3, (D (2 + i)), e, t, false, 0, 0⟩) := by
  obtain ⟨c0, c1, c2, c3, c4, c5, c6, c7, d0, d1, d2, d3, d4, f1, f2, f3, f4, g2, g3⟩ := h.facts
  simp only at c0 c1 c2 c3 c4 c5 c6 c7 d0 d1 d2 d3 d4
  have l0 := h.slot i hi
  have fl := h.sl.free i
  have hrb : ((room : Int) == 0) = false := by simp; omega
  have hr0 : ¬ (room : Int) = 0 := by omega
  have hmt : t.tmod (room : Int) = (i : Int) := by rw [Int.tmod_eq_emod_of_nonneg (by omega), hmi]
  have hwi : IntKind.i64.wrap (i : Int) = i := IntWalk.i64_in _ (by omega)
  have HMI := Lib.hid hmi; clear hmi
  have H := Lib.hid h
  clear h c5 c6 c7
  go_enter Try.func39, Try.ntmps39
  go_wp2_with fail
  go_quiet (fail)
  go_wp2_with fail
  go_region
  all_goals go_wp2_with fail
  go_end0
  exact ⟨rfl, (RW.setO (o' := ⟨2, 3, (D (2 + i)), e, t, false, 0, 0⟩) (H.out.drewN _) 2 _ rfl)⟩

set_option maxRecDepth 100000 in
set_option maxHeartbeats 1000000 in
theorem d3_1_3 (h : RW w0 w v l q 3 room D ⟨1, 4, x, e, t, false, 0, 0⟩) (ht0 : 0 ≤ t) (ht1 : t < 1099511627776) :
    Calls Try.prog 39 #[.pointer (some ⟨v, 0, none⟩), .pointer (some ⟨q, 0, none⟩)] w (RPost w0 v l q 3 room (.tuple #[]) (D.put 1 (t + 1)) ⟨1, 4, x, e, t, true, x, 0⟩) := by
  obtain ⟨c0, c1, c2, c3, c4, c5, c6, c7, d0, d1, d2, d3, d4, f1, f2, f3, f4, g2, g3⟩ := h.facts
  simp only at c0 c1 c2 c3 c4 c5 c6 c7 d0 d1 d2 d3 d4
  have hs : IntKind.i64.wrap (t + 1) = t + 1 := IntWalk.i64_in _ (by omega)
  have H := Lib.hid h
  clear h c5 c6 c7
  go_enter Try.func39, Try.ntmps39
  go_wp2_with fail
  go_quiet (fail)
  go_wp2_with fail
  refine (rend_any 0 x (RW.setT (H.out.drewN _) (t + 1))).mono ?_
  rintro e9 w9 ⟨rfl, h9⟩
  have H9 := Lib.hid h9; clear h9
  go_wp2_with fail
  go_end0
  exact ⟨rfl, H9.out⟩

set_option maxRecDepth 100000 in
set_option maxHeartbeats 1000000 in
theorem d3_2_3f (h : RW w0 w v l q 3 room D ⟨2, 4, x, e, t, false, 0, 0⟩) (ht0 : 0 ≤ t) (ht1 : t < 1099511627776) (hE : D 1 = t) :
    Calls Try.prog 39 #[.pointer (some ⟨v, 0, none⟩), .pointer (some ⟨q, 0, none⟩)] w (RPost w0 v l q 3 room (.tuple #[]) (D.put 1 (t + 1)) ⟨2, 4, x, e, t, true, x, 0⟩) := by
  obtain ⟨c0, c1, c2, c3, c4, c5, c6, c7, d0, d1, d2, d3, d4, f1, f2, f3, f4, g2, g3⟩ := h.facts
  simp only at c0 c1 c2 c3 c4 c5 c6 c7 d0 d1 d2 d3 d4
  have hs1 : IntKind.i64.wrap (t + 1) = t + 1 := IntWalk.i64_in _ (by omega)
  have H := Lib.hid h
  clear h c5 c6 c7
  go_enter Try.func39, Try.ntmps39
  go_wp2_with fail
  go_quiet (fail)
  go_wp2_with fail
  refine (rswap_hit (t + 1) (H.out.drewN _) hE).mono ?_
  rintro e8 w8 ⟨rfl, h8⟩
  have c2 := h8.op.cell 2
  simp [DOp.cells] at c2
  have H8 := Lib.hid h8; clear h8
  go_wp2_with fail
  refine (rend_any 0 x (H8.out)).mono ?_
  rintro e9 w9 ⟨rfl, h9⟩
  have H9 := Lib.hid h9; clear h9
  go_wp2_with fail
  go_end0
  exact ⟨rfl, H9.out⟩

set_option maxRecDepth 100000 in
set_option maxHeartbeats 1000000 in
theorem d3_2_3n (h : RW w0 w v l q 3 room D ⟨2, 4, x, e, t, false, 0, 0⟩) (ht0 : 0 ≤ t) (ht1 : t < 1099511627776) (hE : D 1 ≠ t) :
    Calls Try.prog 39 #[.pointer (some ⟨v, 0, none⟩), .pointer (some ⟨q, 0, none⟩)] w (RPost w0 v l q 3 room (.tuple #[]) D ⟨2, 4, x, e, t, true, 0, 10⟩) := by
  obtain ⟨c0, c1, c2, c3, c4, c5, c6, c7, d0, d1, d2, d3, d4, f1, f2, f3, f4, g2, g3⟩ := h.facts
  simp only at c0 c1 c2 c3 c4 c5 c6 c7 d0 d1 d2 d3 d4
  have hs1 : IntKind.i64.wrap (t + 1) = t + 1 := IntWalk.i64_in _ (by omega)
  have HE := Lib.hid hE; clear hE
  have H := Lib.hid h
  clear h c5 c6 c7
  go_enter Try.func39, Try.ntmps39
  go_wp2_with fail
  go_quiet (fail)
  go_wp2_with fail
  refine (rswap_miss (t + 1) (H.out.drewN _) HE.out).mono ?_
  rintro e8 w8 ⟨rfl, h8⟩
  have H8 := Lib.hid h8; clear h8
  go_wp2_with fail
  refine (rend_any 10 0 (H8.out)).mono ?_
  rintro e9 w9 ⟨rfl, h9⟩
  have H9 := Lib.hid h9; clear h9
  go_wp2_with fail
  go_end0
  exact ⟨rfl, H9.out⟩

end
end Go.Proofs.Ytlogmfpnjpamgaa
