/- Layer 13: the document's move, walked case by case. -/
import Derived.Test.YtglifjecihmbhaaCellF
open Go Go.RowKit
namespace Go.Proofs.Ytglifjecihmbhaa

theorem rmove_w0a (L : Lay) (o : Nat) (C : ACell) (k : Nat) (hk : 1 ≤ k) (_hk5 : k ≤ 5) (h0 value why first : Int) (w : World) (hE : C.H = -1) (h : HasRef w L o C { x := (k : Int), pc := 0, h := h0, value, why, ended := false, waits := false, first }) :
    Calls Try.prog 19 #[.pointer (some ⟨L.v, 2, none⟩), .pointer (some ⟨o, 0, none⟩)] w (RPost w L o C { x := k, pc := 3, h := C.H, value := value, why := why, ended := false, waits := false, first := first }) := by
  obtain ⟨CH, CV, CY, CL⟩ := C
  have c0 := h.op.cell 0
  have c1 := h.op.cell 1
  have c2 := h.op.cell 2
  have c3 := h.op.cell 3
  have c4 := h.op.cell 4
  have c5 := h.op.cell 5
  have c6 := h.op.cell 6
  have c7 := h.op.cell 7
  have d2 := h.top.cell 2
  have d3 := h.top.cell 3
  have d4 := h.top.cell 4
  have d5 := h.top.cell 5
  have f1 := h.op.free 1
  have f2 := h.op.free 2
  have f3 := h.op.free 3
  have f4 := h.op.free 4
  have f5 := h.op.free 5
  have f6 := h.op.free 6
  have f7 := h.op.free 7
  have g2 := h.top.free 2
  have g3 := h.top.free 3
  have g4 := h.top.free 4
  have nvo := h.vo
  have nvl := h.vl
  have nlo := h.lo
  simp [AOp.cells, Lay.cells] at c0 c1 c2 c3 c4 c5 c6 c7 d2 d3 d4 d5
  simp only at hE
  subst hE
  have HH := Lib.hid h
  clear h
  go_enter Try.func19, Try.ntmps19
  go_wp2_with fail
  go_end0
  exact ⟨rfl, ((HH.out.setO (s' := { x := k, pc := 1, h := h0, value := value, why := why, ended := false, waits := false, first := first }) 1 _ rfl).setO (s' := { x := k, pc := 1, h := -1, value := value, why := why, ended := false, waits := false, first := first }) 2 _ rfl).setO 1 _ rfl, ((((Only.refl _ _).setCell (by simp) _).setCell (by simp) _).setCell (by simp) _)⟩

theorem rmove_w0b (L : Lay) (o : Nat) (C : ACell) (k : Nat) (hk : 1 ≤ k) (_hk5 : k ≤ 5) (h0 value why first : Int) (w : World) (hE : C.H ≠ -1) (h : HasRef w L o C { x := (k : Int), pc := 0, h := h0, value, why, ended := false, waits := false, first }) :
    Calls Try.prog 19 #[.pointer (some ⟨L.v, 2, none⟩), .pointer (some ⟨o, 0, none⟩)] w (RPost w L o C { x := k, pc := 1, h := C.H, value := value, why := why, ended := false, waits := false, first := first }) := by
  obtain ⟨CH, CV, CY, CL⟩ := C
  have c0 := h.op.cell 0
  have c1 := h.op.cell 1
  have c2 := h.op.cell 2
  have c3 := h.op.cell 3
  have c4 := h.op.cell 4
  have c5 := h.op.cell 5
  have c6 := h.op.cell 6
  have c7 := h.op.cell 7
  have d2 := h.top.cell 2
  have d3 := h.top.cell 3
  have d4 := h.top.cell 4
  have d5 := h.top.cell 5
  have f1 := h.op.free 1
  have f2 := h.op.free 2
  have f3 := h.op.free 3
  have f4 := h.op.free 4
  have f5 := h.op.free 5
  have f6 := h.op.free 6
  have f7 := h.op.free 7
  have g2 := h.top.free 2
  have g3 := h.top.free 3
  have g4 := h.top.free 4
  have nvo := h.vo
  have nvl := h.vl
  have nlo := h.lo
  simp [AOp.cells, Lay.cells] at c0 c1 c2 c3 c4 c5 c6 c7 d2 d3 d4 d5
  simp only at hE
  have hE2 : (CH == -1) = false := by simpa using hE
  have HE := Lib.hid hE
  clear hE
  have HH := Lib.hid h
  clear h
  go_enter Try.func19, Try.ntmps19
  go_wp2_with fail
  go_end0
  exact ⟨rfl, (HH.out.setO (s' := { x := k, pc := 1, h := h0, value := value, why := why, ended := false, waits := false, first := first }) 1 _ rfl).setO 2 _ rfl, (((Only.refl _ _).setCell (by simp) _).setCell (by simp) _)⟩

theorem rmove_w1 (L : Lay) (o : Nat) (C : ACell) (k : Nat) (hk : 1 ≤ k) (_hk5 : k ≤ 5) (h0 value why first : Int) (w : World) (h : HasRef w L o C { x := (k : Int), pc := 1, h := h0, value, why, ended := false, waits := false, first }) :
    Calls Try.prog 19 #[.pointer (some ⟨L.v, 2, none⟩), .pointer (some ⟨o, 0, none⟩)] w (RPost w L o { C with L := C.L.set k h0 } { x := k, pc := 2, h := h0, value := value, why := why, ended := false, waits := false, first := first }) := by
  obtain ⟨CH, CV, CY, CL⟩ := C
  have c0 := h.op.cell 0
  have c1 := h.op.cell 1
  have c2 := h.op.cell 2
  have c3 := h.op.cell 3
  have c4 := h.op.cell 4
  have c5 := h.op.cell 5
  have c6 := h.op.cell 6
  have c7 := h.op.cell 7
  have d2 := h.top.cell 2
  have d3 := h.top.cell 3
  have d4 := h.top.cell 4
  have d5 := h.top.cell 5
  have f1 := h.op.free 1
  have f2 := h.op.free 2
  have f3 := h.op.free 3
  have f4 := h.op.free 4
  have f5 := h.op.free 5
  have f6 := h.op.free 6
  have f7 := h.op.free 7
  have g2 := h.top.free 2
  have g3 := h.top.free 3
  have g4 := h.top.free 4
  have nvo := h.vo
  have nvl := h.vl
  have nlo := h.lo
  simp [AOp.cells, Lay.cells] at c0 c1 c2 c3 c4 c5 c6 c7 d2 d3 d4 d5
  have hlen := h.len
  simp only at hlen
  have l0 := h.lk.cell k
  rw [getElem?_map_int _ _ (by simp only; omega)] at l0
  have fl := h.lk.free k
  have HH := Lib.hid h
  clear h
  go_enter Try.func19, Try.ntmps19
  go_wp2_with fail
  go_region
  all_goals go_wp2_with fail
  go_end0
  exact ⟨rfl, ((HH.out.setO (s' := { x := k, pc := 2, h := h0, value := value, why := why, ended := false, waits := false, first := first }) 1 _ rfl).setL k _).drew, (((Only.refl _ _).setCell (by simp) _).setCell (by simp) _).drew⟩

theorem rmove_w2a (L : Lay) (o : Nat) (C : ACell) (k : Nat) (hk : 1 ≤ k) (_hk5 : k ≤ 5) (h0 value why first : Int) (w : World) (hE : C.H = h0) (h : HasRef w L o C { x := (k : Int), pc := 2, h := h0, value, why, ended := false, waits := false, first }) :
    Calls Try.prog 19 #[.pointer (some ⟨L.v, 2, none⟩), .pointer (some ⟨o, 0, none⟩)] w (RPost w L o { C with H := k } { x := k, pc := 3, h := h0, value := value, why := why, ended := true, waits := true, first := first }) := by
  obtain ⟨CH, CV, CY, CL⟩ := C
  have c0 := h.op.cell 0
  have c1 := h.op.cell 1
  have c2 := h.op.cell 2
  have c3 := h.op.cell 3
  have c4 := h.op.cell 4
  have c5 := h.op.cell 5
  have c6 := h.op.cell 6
  have c7 := h.op.cell 7
  have d2 := h.top.cell 2
  have d3 := h.top.cell 3
  have d4 := h.top.cell 4
  have d5 := h.top.cell 5
  have f1 := h.op.free 1
  have f2 := h.op.free 2
  have f3 := h.op.free 3
  have f4 := h.op.free 4
  have f5 := h.op.free 5
  have f6 := h.op.free 6
  have f7 := h.op.free 7
  have g2 := h.top.free 2
  have g3 := h.top.free 3
  have g4 := h.top.free 4
  have nvo := h.vo
  have nvl := h.vl
  have nlo := h.lo
  simp [AOp.cells, Lay.cells] at c0 c1 c2 c3 c4 c5 c6 c7 d2 d3 d4 d5
  simp only at hE
  subst hE
  have HH := Lib.hid h
  clear h
  go_enter Try.func19, Try.ntmps19
  go_wp2_with fail
  go_region
  all_goals go_wp2_with fail
  go_end0
  exact ⟨rfl, ((((HH.out.setO (s' := { x := k, pc := 3, h := CH, value := value, why := why, ended := false, waits := false, first := first }) 1 _ rfl).setV (C' := ⟨k, CV, CY, CL⟩) 2 _ rfl rfl).setO (s' := { x := k, pc := 3, h := CH, value := value, why := why, ended := true, waits := false, first := first }) 5 _ rfl).setO (s' := { x := k, pc := 3, h := CH, value := value, why := why, ended := true, waits := true, first := first }) 6 _ rfl).drew, (((((Only.refl _ _).setCell (by simp) _).setCell (by simp) _).setCell (by simp) _).setCell (by simp) _).drew⟩

theorem rmove_w2b (L : Lay) (o : Nat) (C : ACell) (k : Nat) (hk : 1 ≤ k) (_hk5 : k ≤ 5) (h0 value why first : Int) (w : World) (hE : C.H ≠ h0) (h : HasRef w L o C { x := (k : Int), pc := 2, h := h0, value, why, ended := false, waits := false, first }) :
    Calls Try.prog 19 #[.pointer (some ⟨L.v, 2, none⟩), .pointer (some ⟨o, 0, none⟩)] w (RPost w L o C { x := k, pc := 0, h := h0, value := value, why := why, ended := false, waits := false, first := first }) := by
  obtain ⟨CH, CV, CY, CL⟩ := C
  have c0 := h.op.cell 0
  have c1 := h.op.cell 1
  have c2 := h.op.cell 2
  have c3 := h.op.cell 3
  have c4 := h.op.cell 4
  have c5 := h.op.cell 5
  have c6 := h.op.cell 6
  have c7 := h.op.cell 7
  have d2 := h.top.cell 2
  have d3 := h.top.cell 3
  have d4 := h.top.cell 4
  have d5 := h.top.cell 5
  have f1 := h.op.free 1
  have f2 := h.op.free 2
  have f3 := h.op.free 3
  have f4 := h.op.free 4
  have f5 := h.op.free 5
  have f6 := h.op.free 6
  have f7 := h.op.free 7
  have g2 := h.top.free 2
  have g3 := h.top.free 3
  have g4 := h.top.free 4
  have nvo := h.vo
  have nvl := h.vl
  have nlo := h.lo
  simp [AOp.cells, Lay.cells] at c0 c1 c2 c3 c4 c5 c6 c7 d2 d3 d4 d5
  simp only at hE
  have hE2 : (CH == h0) = false := by simpa using hE
  have HE := Lib.hid hE
  clear hE
  have HH := Lib.hid h
  clear h
  go_enter Try.func19, Try.ntmps19
  go_wp2_with fail
  go_region
  all_goals go_wp2_with fail
  go_end0
  exact ⟨rfl, ((HH.out.setO (s' := { x := k, pc := 3, h := h0, value := value, why := why, ended := false, waits := false, first := first }) 1 _ rfl).setO (s' := { x := k, pc := 0, h := h0, value := value, why := why, ended := false, waits := false, first := first }) 1 _ rfl).drew, (((Only.refl _ _).setCell (by simp) _).setCell (by simp) _).drew⟩

theorem rmove_w3 (L : Lay) (o : Nat) (C : ACell) (k : Nat) (hk : 1 ≤ k) (_hk5 : k ≤ 5) (h0 value why first : Int) (w : World) (h : HasRef w L o C { x := (k : Int), pc := 3, h := h0, value, why, ended := false, waits := false, first }) :
    Calls Try.prog 19 #[.pointer (some ⟨L.v, 2, none⟩), .pointer (some ⟨o, 0, none⟩)] w (RPost w L o C { x := k, pc := 4, h := h0, value := C.V, why := why, ended := false, waits := false, first := first }) := by
  obtain ⟨CH, CV, CY, CL⟩ := C
  have c0 := h.op.cell 0
  have c1 := h.op.cell 1
  have c2 := h.op.cell 2
  have c3 := h.op.cell 3
  have c4 := h.op.cell 4
  have c5 := h.op.cell 5
  have c6 := h.op.cell 6
  have c7 := h.op.cell 7
  have d2 := h.top.cell 2
  have d3 := h.top.cell 3
  have d4 := h.top.cell 4
  have d5 := h.top.cell 5
  have f1 := h.op.free 1
  have f2 := h.op.free 2
  have f3 := h.op.free 3
  have f4 := h.op.free 4
  have f5 := h.op.free 5
  have f6 := h.op.free 6
  have f7 := h.op.free 7
  have g2 := h.top.free 2
  have g3 := h.top.free 3
  have g4 := h.top.free 4
  have nvo := h.vo
  have nvl := h.vl
  have nlo := h.lo
  simp [AOp.cells, Lay.cells] at c0 c1 c2 c3 c4 c5 c6 c7 d2 d3 d4 d5
  have HH := Lib.hid h
  clear h
  go_enter Try.func19, Try.ntmps19
  go_wp2_with fail
  go_end0
  exact ⟨rfl, (HH.out.setO (s' := { x := k, pc := 4, h := h0, value := value, why := why, ended := false, waits := false, first := first }) 1 _ rfl).setO 3 _ rfl, (((Only.refl _ _).setCell (by simp) _).setCell (by simp) _)⟩

theorem rmove_w4 (L : Lay) (o : Nat) (C : ACell) (k : Nat) (hk : 1 ≤ k) (_hk5 : k ≤ 5) (h0 value why first : Int) (w : World) (h : HasRef w L o C { x := (k : Int), pc := 4, h := h0, value, why, ended := false, waits := false, first }) :
    Calls Try.prog 19 #[.pointer (some ⟨L.v, 2, none⟩), .pointer (some ⟨o, 0, none⟩)] w (RPost w L o C { x := k, pc := 5, h := h0, value := value, why := C.Y, ended := true, waits := false, first := first }) := by
  obtain ⟨CH, CV, CY, CL⟩ := C
  have c0 := h.op.cell 0
  have c1 := h.op.cell 1
  have c2 := h.op.cell 2
  have c3 := h.op.cell 3
  have c4 := h.op.cell 4
  have c5 := h.op.cell 5
  have c6 := h.op.cell 6
  have c7 := h.op.cell 7
  have d2 := h.top.cell 2
  have d3 := h.top.cell 3
  have d4 := h.top.cell 4
  have d5 := h.top.cell 5
  have f1 := h.op.free 1
  have f2 := h.op.free 2
  have f3 := h.op.free 3
  have f4 := h.op.free 4
  have f5 := h.op.free 5
  have f6 := h.op.free 6
  have f7 := h.op.free 7
  have g2 := h.top.free 2
  have g3 := h.top.free 3
  have g4 := h.top.free 4
  have nvo := h.vo
  have nvl := h.vl
  have nlo := h.lo
  simp [AOp.cells, Lay.cells] at c0 c1 c2 c3 c4 c5 c6 c7 d2 d3 d4 d5
  have HH := Lib.hid h
  clear h
  go_enter Try.func19, Try.ntmps19
  go_wp2_with fail
  go_end0
  exact ⟨rfl, ((HH.out.setO (s' := { x := k, pc := 5, h := h0, value := value, why := why, ended := false, waits := false, first := first }) 1 _ rfl).setO (s' := { x := k, pc := 5, h := h0, value := value, why := CY, ended := false, waits := false, first := first }) 4 _ rfl).setO 5 _ rfl, ((((Only.refl _ _).setCell (by simp) _).setCell (by simp) _).setCell (by simp) _)⟩

theorem rmove_f0 (L : Lay) (o : Nat) (C : ACell) (h0 value why first : Int) (w : World) (h : HasRef w L o C { x := 0, pc := 0, h := h0, value, why, ended := false, waits := false, first }) :
    Calls Try.prog 19 #[.pointer (some ⟨L.v, 2, none⟩), .pointer (some ⟨o, 0, none⟩)] w (RPost w L o { C with V := value } { x := 0, pc := 1, h := h0, value := value, why := why, ended := false, waits := false, first := first }) := by
  obtain ⟨CH, CV, CY, CL⟩ := C
  have c0 := h.op.cell 0
  have c1 := h.op.cell 1
  have c2 := h.op.cell 2
  have c3 := h.op.cell 3
  have c4 := h.op.cell 4
  have c5 := h.op.cell 5
  have c6 := h.op.cell 6
  have c7 := h.op.cell 7
  have d2 := h.top.cell 2
  have d3 := h.top.cell 3
  have d4 := h.top.cell 4
  have d5 := h.top.cell 5
  have f1 := h.op.free 1
  have f2 := h.op.free 2
  have f3 := h.op.free 3
  have f4 := h.op.free 4
  have f5 := h.op.free 5
  have f6 := h.op.free 6
  have f7 := h.op.free 7
  have g2 := h.top.free 2
  have g3 := h.top.free 3
  have g4 := h.top.free 4
  have nvo := h.vo
  have nvl := h.vl
  have nlo := h.lo
  simp [AOp.cells, Lay.cells] at c0 c1 c2 c3 c4 c5 c6 c7 d2 d3 d4 d5
  have HH := Lib.hid h
  clear h
  go_enter Try.func19, Try.ntmps19
  go_wp2_with fail
  go_end0
  exact ⟨rfl, (HH.out.setO (s' := { x := 0, pc := 1, h := h0, value := value, why := why, ended := false, waits := false, first := first }) 1 _ rfl).setV 3 _ rfl rfl, (((Only.refl _ _).setCell (by simp) _).setCell (by simp) _)⟩

theorem rmove_f1 (L : Lay) (o : Nat) (C : ACell) (h0 value why first : Int) (w : World) (h : HasRef w L o C { x := 0, pc := 1, h := h0, value, why, ended := false, waits := false, first }) :
    Calls Try.prog 19 #[.pointer (some ⟨L.v, 2, none⟩), .pointer (some ⟨o, 0, none⟩)] w (RPost w L o { C with Y := why } { x := 0, pc := 2, h := h0, value := value, why := why, ended := false, waits := false, first := first }) := by
  obtain ⟨CH, CV, CY, CL⟩ := C
  have c0 := h.op.cell 0
  have c1 := h.op.cell 1
  have c2 := h.op.cell 2
  have c3 := h.op.cell 3
  have c4 := h.op.cell 4
  have c5 := h.op.cell 5
  have c6 := h.op.cell 6
  have c7 := h.op.cell 7
  have d2 := h.top.cell 2
  have d3 := h.top.cell 3
  have d4 := h.top.cell 4
  have d5 := h.top.cell 5
  have f1 := h.op.free 1
  have f2 := h.op.free 2
  have f3 := h.op.free 3
  have f4 := h.op.free 4
  have f5 := h.op.free 5
  have f6 := h.op.free 6
  have f7 := h.op.free 7
  have g2 := h.top.free 2
  have g3 := h.top.free 3
  have g4 := h.top.free 4
  have nvo := h.vo
  have nvl := h.vl
  have nlo := h.lo
  simp [AOp.cells, Lay.cells] at c0 c1 c2 c3 c4 c5 c6 c7 d2 d3 d4 d5
  have HH := Lib.hid h
  clear h
  go_enter Try.func19, Try.ntmps19
  go_wp2_with fail
  go_end0
  exact ⟨rfl, (HH.out.setO (s' := { x := 0, pc := 2, h := h0, value := value, why := why, ended := false, waits := false, first := first }) 1 _ rfl).setV 4 _ rfl rfl, (((Only.refl _ _).setCell (by simp) _).setCell (by simp) _)⟩

theorem rmove_f2 (L : Lay) (o : Nat) (C : ACell) (h0 value why first : Int) (w : World) (h : HasRef w L o C { x := 0, pc := 2, h := h0, value, why, ended := false, waits := false, first }) :
    Calls Try.prog 19 #[.pointer (some ⟨L.v, 2, none⟩), .pointer (some ⟨o, 0, none⟩)] w (RPost w L o C { x := 0, pc := 3, h := C.H, value := value, why := why, ended := false, waits := false, first := first }) := by
  obtain ⟨CH, CV, CY, CL⟩ := C
  have c0 := h.op.cell 0
  have c1 := h.op.cell 1
  have c2 := h.op.cell 2
  have c3 := h.op.cell 3
  have c4 := h.op.cell 4
  have c5 := h.op.cell 5
  have c6 := h.op.cell 6
  have c7 := h.op.cell 7
  have d2 := h.top.cell 2
  have d3 := h.top.cell 3
  have d4 := h.top.cell 4
  have d5 := h.top.cell 5
  have f1 := h.op.free 1
  have f2 := h.op.free 2
  have f3 := h.op.free 3
  have f4 := h.op.free 4
  have f5 := h.op.free 5
  have f6 := h.op.free 6
  have f7 := h.op.free 7
  have g2 := h.top.free 2
  have g3 := h.top.free 3
  have g4 := h.top.free 4
  have nvo := h.vo
  have nvl := h.vl
  have nlo := h.lo
  simp [AOp.cells, Lay.cells] at c0 c1 c2 c3 c4 c5 c6 c7 d2 d3 d4 d5
  have HH := Lib.hid h
  clear h
  go_enter Try.func19, Try.ntmps19
  go_wp2_with fail
  go_end0
  exact ⟨rfl, (HH.out.setO (s' := { x := 0, pc := 3, h := h0, value := value, why := why, ended := false, waits := false, first := first }) 1 _ rfl).setO 2 _ rfl, (((Only.refl _ _).setCell (by simp) _).setCell (by simp) _)⟩

theorem rmove_f3a (L : Lay) (o : Nat) (C : ACell) (h0 value why first : Int) (w : World) (hE : C.H = h0) (h : HasRef w L o C { x := 0, pc := 3, h := h0, value, why, ended := false, waits := false, first }) :
    Calls Try.prog 19 #[.pointer (some ⟨L.v, 2, none⟩), .pointer (some ⟨o, 0, none⟩)] w (RPost w L o { C with H := -1 } { x := 0, pc := 4, h := h0, value := value, why := why, ended := true, waits := false, first := h0 }) := by
  obtain ⟨CH, CV, CY, CL⟩ := C
  have c0 := h.op.cell 0
  have c1 := h.op.cell 1
  have c2 := h.op.cell 2
  have c3 := h.op.cell 3
  have c4 := h.op.cell 4
  have c5 := h.op.cell 5
  have c6 := h.op.cell 6
  have c7 := h.op.cell 7
  have d2 := h.top.cell 2
  have d3 := h.top.cell 3
  have d4 := h.top.cell 4
  have d5 := h.top.cell 5
  have f1 := h.op.free 1
  have f2 := h.op.free 2
  have f3 := h.op.free 3
  have f4 := h.op.free 4
  have f5 := h.op.free 5
  have f6 := h.op.free 6
  have f7 := h.op.free 7
  have g2 := h.top.free 2
  have g3 := h.top.free 3
  have g4 := h.top.free 4
  have nvo := h.vo
  have nvl := h.vl
  have nlo := h.lo
  simp [AOp.cells, Lay.cells] at c0 c1 c2 c3 c4 c5 c6 c7 d2 d3 d4 d5
  simp only at hE
  subst hE
  have HH := Lib.hid h
  clear h
  go_enter Try.func19, Try.ntmps19
  go_wp2_with fail
  go_region
  all_goals go_wp2_with fail
  go_end0
  exact ⟨rfl, ((((HH.out.setO (s' := { x := 0, pc := 4, h := CH, value := value, why := why, ended := false, waits := false, first := first }) 1 _ rfl).setV (C' := ⟨-1, CV, CY, CL⟩) 2 _ rfl rfl).setO (s' := { x := 0, pc := 4, h := CH, value := value, why := why, ended := true, waits := false, first := first }) 5 _ rfl).setO (s' := { x := 0, pc := 4, h := CH, value := value, why := why, ended := true, waits := false, first := CH }) 7 _ rfl).drew, (((((Only.refl _ _).setCell (by simp) _).setCell (by simp) _).setCell (by simp) _).setCell (by simp) _).drew⟩

theorem rmove_f3b (L : Lay) (o : Nat) (C : ACell) (h0 value why first : Int) (w : World) (hE : C.H ≠ h0) (h : HasRef w L o C { x := 0, pc := 3, h := h0, value, why, ended := false, waits := false, first }) :
    Calls Try.prog 19 #[.pointer (some ⟨L.v, 2, none⟩), .pointer (some ⟨o, 0, none⟩)] w (RPost w L o C { x := 0, pc := 2, h := h0, value := value, why := why, ended := false, waits := false, first := first }) := by
  obtain ⟨CH, CV, CY, CL⟩ := C
  have c0 := h.op.cell 0
  have c1 := h.op.cell 1
  have c2 := h.op.cell 2
  have c3 := h.op.cell 3
  have c4 := h.op.cell 4
  have c5 := h.op.cell 5
  have c6 := h.op.cell 6
  have c7 := h.op.cell 7
  have d2 := h.top.cell 2
  have d3 := h.top.cell 3
  have d4 := h.top.cell 4
  have d5 := h.top.cell 5
  have f1 := h.op.free 1
  have f2 := h.op.free 2
  have f3 := h.op.free 3
  have f4 := h.op.free 4
  have f5 := h.op.free 5
  have f6 := h.op.free 6
  have f7 := h.op.free 7
  have g2 := h.top.free 2
  have g3 := h.top.free 3
  have g4 := h.top.free 4
  have nvo := h.vo
  have nvl := h.vl
  have nlo := h.lo
  simp [AOp.cells, Lay.cells] at c0 c1 c2 c3 c4 c5 c6 c7 d2 d3 d4 d5
  simp only at hE
  have hE2 : (CH == h0) = false := by simpa using hE
  have HE := Lib.hid hE
  clear hE
  have HH := Lib.hid h
  clear h
  go_enter Try.func19, Try.ntmps19
  go_wp2_with fail
  go_region
  all_goals go_wp2_with fail
  go_end0
  exact ⟨rfl, ((HH.out.setO (s' := { x := 0, pc := 4, h := h0, value := value, why := why, ended := false, waits := false, first := first }) 1 _ rfl).setO (s' := { x := 0, pc := 2, h := h0, value := value, why := why, ended := false, waits := false, first := first }) 1 _ rfl).drew, (((Only.refl _ _).setCell (by simp) _).setCell (by simp) _).drew⟩

end Go.Proofs.Ytglifjecihmbhaa
