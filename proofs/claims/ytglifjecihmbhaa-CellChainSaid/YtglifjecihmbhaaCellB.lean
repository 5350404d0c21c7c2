/- Layer 13: the moves of an operation, the other methods. -/
import Derived.Test.YtglifjecihmbhaaCellA
open Go Go.RowKit
namespace Go.Proofs.Ytglifjecihmbhaa

theorem ctold_any (o m a b : Nat) (s : OpS) (t : MemS) (w : World) (h : HasOp w o m a b s t) (hb : 0 ≤ s.base) (hb2 : s.base ≤ 1000000) :
    Calls Try.prog 27 #[.pointer (some ⟨o, 0, none⟩), .pointer (some ⟨m, 0, none⟩)] w (CPost w o m a b (t.code (s.base + 1)) (s.told t) (t.load (s.base + 1))) := by
  obtain ⟨c0, c1, c2, c3, c4, c5, c6, c7, c8, c9, c10⟩ := h.cells
  have H := Lib.hid h
  clear h c1 c2 c3 c4 c5 c6 c7 c8 c9 c10
  go_enter Try.func27, Try.ntmps27
  go_wp2_with fail
  refine (load_any m a b t _ _ H.out.mem).mono ?_
  rintro e w1 ⟨rfl, h1, h2⟩
  have h3 := H.out.mem' h1 h2
  have d5 := h3.op.cell 5
  have f5 := h3.op.free 5
  have d8 := h3.op.cell 8
  have f8 := h3.op.free 8
  simp [OpS.cells] at d5 d8
  have H1 := Lib.hid h3; have HO := Lib.hid (only_op (o := o) h2); clear h1 h2 h3
  go_wp2_with fail
  go_ret
  exact ⟨rfl, (H1.out.set (s' := { s with value := t.word (s.base + 1) }) 5 _ rfl).set 8 _ rfl, (HO.out.setCell (by simp) _).setCell (by simp) _⟩

theorem cwhy_any (o m a b : Nat) (s : OpS) (t : MemS) (w : World) (h : HasOp w o m a b s t) (hb : 0 ≤ s.base) (hb2 : s.base ≤ 1000000) :
    Calls Try.prog 32 #[.pointer (some ⟨o, 0, none⟩), .pointer (some ⟨m, 0, none⟩)] w (CPost w o m a b (t.code (s.base + 2)) (s.whyS t) (t.load (s.base + 2))) := by
  obtain ⟨c0, c1, c2, c3, c4, c5, c6, c7, c8, c9, c10⟩ := h.cells
  have H := Lib.hid h
  clear h c1 c2 c3 c4 c5 c6 c7 c8 c9 c10
  go_enter Try.func32, Try.ntmps32
  go_wp2_with fail
  refine (load_any m a b t _ _ H.out.mem).mono ?_
  rintro e w1 ⟨rfl, h1, h2⟩
  have h3 := H.out.mem' h1 h2
  have d6 := h3.op.cell 6
  have f6 := h3.op.free 6
  have d9 := h3.op.cell 9
  have f9 := h3.op.free 9
  simp [OpS.cells] at d6 d9
  have H1 := Lib.hid h3; have HO := Lib.hid (only_op (o := o) h2); clear h1 h2 h3
  go_wp2_with fail
  go_ret
  exact ⟨rfl, (H1.out.set (s' := { s with why := t.word (s.base + 2) }) 6 _ rfl).set 9 _ rfl, (HO.out.setCell (by simp) _).setCell (by simp) _⟩

theorem cvalue_any (o m a b : Nat) (s : OpS) (t : MemS) (w : World) (h : HasOp w o m a b s t) (hb : 0 ≤ s.base) (hb2 : s.base ≤ 1000000) :
    Calls Try.prog 23 #[.pointer (some ⟨o, 0, none⟩), .pointer (some ⟨m, 0, none⟩)] w (CPost w o m a b (t.code (s.base + 1)) s.val (t.store (s.base + 1) s.value)) := by
  obtain ⟨c0, c1, c2, c3, c4, c5, c6, c7, c8, c9, c10⟩ := h.cells
  have f8 := h.op.free 8
  have hs := h.set (s' := s.val) 8 _ rfl
  have k0 := hs.op.cell 0
  have k5 := hs.op.cell 5
  simp [OpS.cells, OpS.val] at k0 k5
  have H := Lib.hid hs
  clear h hs c1 c2 c3 c4 c6 c7 c9 c10
  have hwr : IntKind.i64.wrap (s.base + 1) = s.base + 1 := by rw [IntKind.wrap_i64]; omega
  go_enter Try.func23, Try.ntmps23
  go_wp2_with fail
  go_region_held3 (fun w' => w'.cell? ⟨o, 0, none⟩ = some (.int .i64 s.base) ∧ w'.cell? ⟨o, 5, none⟩ = some (.int .i64 s.value)) (go_keep)
    (first | (go_at_call 29; refine (store_any m a b t _ _ _ H.out.drew.mem).mono ?_; rintro e w1 ⟨rfl, h1, h2⟩; have h3 := H.out.drew.mem' h1 h2; have e0 := h3.op.cell 0; have e5 := h3.op.cell 5; simp [OpS.cells, OpS.val] at e0 e5; have H1 := Lib.hid h3; have HO := Lib.hid (only_op (o := o) h2); clear h1 h2 h3))
  all_goals go_wp2_with fail
  all_goals go_ret
  all_goals exact ⟨rfl, H1.out, (((Only.refl _ _).setCell (by simp) _).drew).trans HO.out⟩

theorem creason_any (o m a b : Nat) (s : OpS) (t : MemS) (w : World) (h : HasOp w o m a b s t) (hb : 0 ≤ s.base) (hb2 : s.base ≤ 1000000) :
    Calls Try.prog 28 #[.pointer (some ⟨o, 0, none⟩), .pointer (some ⟨m, 0, none⟩)] w (CPost w o m a b (t.code (s.base + 2)) s.reason (t.store (s.base + 2) s.why)) := by
  obtain ⟨c0, c1, c2, c3, c4, c5, c6, c7, c8, c9, c10⟩ := h.cells
  have f8 := h.op.free 8
  have hs := h.set (s' := s.reason) 8 _ rfl
  have k0 := hs.op.cell 0
  have k6 := hs.op.cell 6
  simp [OpS.cells, OpS.reason] at k0 k6
  have H := Lib.hid hs
  clear h hs c1 c2 c3 c4 c5 c7 c9 c10
  have hwr : IntKind.i64.wrap (s.base + 2) = s.base + 2 := by rw [IntKind.wrap_i64]; omega
  go_enter Try.func28, Try.ntmps28
  go_wp2_with fail
  go_region_held3 (fun w' => w'.cell? ⟨o, 0, none⟩ = some (.int .i64 s.base) ∧ w'.cell? ⟨o, 6, none⟩ = some (.int .i64 s.why)) (go_keep)
    (first | (go_at_call 29; refine (store_any m a b t _ _ _ H.out.drew.mem).mono ?_; rintro e w1 ⟨rfl, h1, h2⟩; have h3 := H.out.drew.mem' h1 h2; have e0 := h3.op.cell 0; have e6 := h3.op.cell 6; simp [OpS.cells, OpS.reason] at e0 e6; have H1 := Lib.hid h3; have HO := Lib.hid (only_op (o := o) h2); clear h1 h2 h3))
  all_goals go_wp2_with fail
  all_goals go_ret
  all_goals exact ⟨rfl, H1.out, (((Only.refl _ _).setCell (by simp) _).drew).trans HO.out⟩

theorem chead_any (o m a b : Nat) (s : OpS) (t : MemS) (w : World) (h : HasOp w o m a b s t) :
    Calls Try.prog 33 #[.pointer (some ⟨o, 0, none⟩), .pointer (some ⟨m, 0, none⟩)] w (CPost w o m a b (t.code s.base) (s.head t) (t.load s.base)) := by
  obtain ⟨c0, c1, c2, c3, c4, c5, c6, c7, c8, c9, c10⟩ := h.cells
  have f8 := h.op.free 8
  have H := Lib.hid (h.set (s' := { s with next := 37 }) 8 _ rfl)
  clear h c0 c1 c2 c3 c4 c5 c6 c7 c9 c10
  go_enter Try.func33, Try.ntmps33
  go_wp2_with fail
  refine (cload_any o m a b { s with next := 37 } t _ H.out).mono ?_
  rintro e w1 ⟨rfl, h1, h2⟩
  have H1 := Lib.hid h1; have HO := Lib.hid h2
  clear h1 h2
  go_wp2_with fail
  go_ret
  exact ⟨rfl, H1.out, ((Only.refl _ _).setCell (by simp) _).trans HO.out⟩

theorem cclose_any (o m a b : Nat) (s : OpS) (t : MemS) (w : World) (h : HasOp w o m a b s t) :
    Calls Try.prog 37 #[.pointer (some ⟨o, 0, none⟩), .pointer (some ⟨m, 0, none⟩)] w (CPost w o m a b (t.code s.base) (s.close t) (t.swap s.base s.h (-1))) := by
  obtain ⟨c0, c1, c2, c3, c4, c5, c6, c7, c8, c9, c10⟩ := h.cells
  have H := Lib.hid h
  clear h c1 c2 c4 c5 c6 c7 c8 c9 c10
  by_cases hh : t.hit s.base s.h = true
  · go_enter Try.func37, Try.ntmps37
    go_wp2_with fail
    go_region_held3 (fun w' => w'.cell? ⟨o, 0, none⟩ = some (.int .i64 s.base) ∧ w'.cell? ⟨o, 3, none⟩ = some (.int .i64 s.h)) (go_keep)
      (first | (go_at_call 36; refine (swap_any m a b t _ _ _ _ H.out.drew.mem).mono ?_; rintro e w1 ⟨rfl, h1, h2⟩; have h3 := H.out.drew.mem' h1 h2; have e0 := h3.op.cell 0; have e3 := h3.op.cell 3; have d4 := h3.op.cell 4; have f4 := h3.op.free 4; have d5 := h3.op.cell 5; have f5 := h3.op.free 5; have d6 := h3.op.cell 6; have f6 := h3.op.free 6; have d7 := h3.op.cell 7; have f7 := h3.op.free 7; have d8 := h3.op.cell 8; have f8 := h3.op.free 8; have d9 := h3.op.cell 9; have f9 := h3.op.free 9; simp [OpS.cells] at e0 e3 d4 d5 d6 d7 d8 d9; have H1 := Lib.hid h3; have HO := Lib.hid (only_op (o := o) h2); clear h1 h2 h3))
    all_goals go_wp2_with fail
    all_goals go_ret
    all_goals
      refine ⟨rfl, ?_, ?_⟩
      · rw [OpS.close, if_pos hh]
        exact (((((H1.out.set (s' := { s with next := 33 }) 8 _ rfl).set (s' := { s with next := 33, waits := false }) 4 _ rfl).set (s' := { s with next := 33, waits := false, value := 0 }) 5 _ rfl).set (s' := { s with next := 33, waits := false, value := 0, why := 0 }) 6 _ rfl).set (s' := { s with next := 33, waits := false, value := 0, why := 0, first := s.h }) 7 _ rfl).set 9 _ rfl
      · exact ((((((((Only.refl _ _).drew.trans HO.out).setCell (by simp) _).setCell (by simp) _).setCell (by simp) _).setCell (by simp) _).setCell (by simp) _).setCell (by simp) _)
  · have hh' : t.hit s.base s.h = false := eq_false_of_ne_true hh
    have HH := Lib.hid hh
    clear hh
    go_enter Try.func37, Try.ntmps37
    go_wp2_with fail
    go_region_held3 (fun w' => w'.cell? ⟨o, 0, none⟩ = some (.int .i64 s.base) ∧ w'.cell? ⟨o, 3, none⟩ = some (.int .i64 s.h)) (go_keep)
      (first | (go_at_call 36; refine (swap_any m a b t _ _ _ _ H.out.drew.mem).mono ?_; rintro e w1 ⟨rfl, h1, h2⟩; have h3 := H.out.drew.mem' h1 h2; have e0 := h3.op.cell 0; have e3 := h3.op.cell 3; have d8 := h3.op.cell 8; have f8 := h3.op.free 8; simp [OpS.cells] at e0 e3 d8; have H1 := Lib.hid h3; have HO := Lib.hid (only_op (o := o) h2); clear h1 h2 h3))
    all_goals go_wp2_with fail
    all_goals go_ret
    all_goals
      refine ⟨rfl, ?_, ((Only.refl _ _).drew.trans HO.out).setCell (by simp) _⟩
      rw [OpS.close, if_neg HH.out]
      exact H1.out.set 8 _ rfl

end Go.Proofs.Ytglifjecihmbhaa
