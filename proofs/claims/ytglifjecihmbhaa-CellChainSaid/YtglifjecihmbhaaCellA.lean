/- Layer 13: the moves of an operation, one method at a time, over a memory that reads as a given one. -/
import Derived.Test.YtglifjecihmbhaaMemG
import Derived.Laws.EntriesVeiled
import Derived.Deep.RegionHeld3
open Go Go.RowKit
namespace Go.Proofs.Ytglifjecihmbhaa

/-- What an operation of the program reads as; next: the number of the method that is its next move. -/
structure OpS where
  base : Int
  x : Int
  link : Int
  h : Int
  waits : Bool
  value : Int
  why : Int
  first : Int
  next : Nat
  ended : Bool
  fault : Int

/-- An operation's cells, at block o. -/
def OpS.cells (s : OpS) (o : Nat) : List Value :=
  [.int .i64 s.base, .int .i64 s.x, .int .i64 s.link, .int .i64 s.h, .bool s.waits, .int .i64 s.value, .int .i64 s.why, .int .i64 s.first, .func (.func s.next) #[.pointer (some ⟨o, 0, none⟩)] #[], .bool s.ended, .int .i64 s.fault]

/-- Block o is an operation that reads as s; the memory (m, a, b) reads as t. -/
structure HasOp (w : World) (o m a b : Nat) (s : OpS) (t : MemS) : Prop where
  op : Blk w o (s.cells o) 66
  mem : IsMem w m a b t
  om : o ≠ m
  oa : o ≠ a
  ob : o ≠ b

theorem HasOp.mem' {w w' : World} {o m a b : Nat} {s : OpS} {t t' : MemS} (h : HasOp w o m a b s t) (hm : IsMem w' m a b t') (ho : Only [m, a, b] w w') : HasOp w' o m a b s t' :=
  ⟨h.op.only ho (by have := h.om; have := h.oa; have := h.ob; simp; omega), hm, h.om, h.oa, h.ob⟩
theorem HasOp.set {w : World} {o m a b : Nat} {s s' : OpS} {t : MemS} (h : HasOp w o m a b s t) (i : Nat) (v : Value) (e : (s.cells o).set i v = s'.cells o) : HasOp (w.setCell ⟨o, i, none⟩ v) o m a b s' t :=
  ⟨by have := h.op.set i v; rw [e] at this; exact this, h.mem.other (Ne.symm h.om) (Ne.symm h.oa) (Ne.symm h.ob) _, h.om, h.oa, h.ob⟩
theorem HasOp.drew {w : World} {o m a b : Nat} {s : OpS} {t : MemS} (h : HasOp w o m a b s t) : HasOp w.drew o m a b s t := ⟨h.op.drew, h.mem.drew, h.om, h.oa, h.ob⟩

/-- What each cell of an operation holds, and that it may be written: laid ahead of a walk. -/
theorem HasOp.cells {w : World} {o m a b : Nat} {s : OpS} {t : MemS} (h : HasOp w o m a b s t) :
    w.cell? ⟨o, 0, none⟩ = some (.int .i64 s.base) ∧ w.cell? ⟨o, 1, none⟩ = some (.int .i64 s.x) ∧ w.cell? ⟨o, 2, none⟩ = some (.int .i64 s.link) ∧ w.cell? ⟨o, 3, none⟩ = some (.int .i64 s.h) ∧
    w.cell? ⟨o, 4, none⟩ = some (.bool s.waits) ∧ w.cell? ⟨o, 5, none⟩ = some (.int .i64 s.value) ∧ w.cell? ⟨o, 6, none⟩ = some (.int .i64 s.why) ∧ w.cell? ⟨o, 7, none⟩ = some (.int .i64 s.first) ∧
    w.cell? ⟨o, 8, none⟩ = some (.func (.func s.next) #[.pointer (some ⟨o, 0, none⟩)] #[]) ∧ w.cell? ⟨o, 9, none⟩ = some (.bool s.ended) ∧ w.cell? ⟨o, 10, none⟩ = some (.int .i64 s.fault) :=
  ⟨h.op.cell 0, h.op.cell 1, h.op.cell 2, h.op.cell 3, h.op.cell 4, h.op.cell 5, h.op.cell 6, h.op.cell 7, h.op.cell 8, h.op.cell 9, h.op.cell 10⟩

def CPost (w : World) (o m a b : Nat) (c : Int) (s : OpS) (t : MemS) (e : Ending) (w' : World) : Prop :=
  e = .returned (.int .i64 c) ∧ HasOp w' o m a b s t ∧ Only [o, m, a, b] w w'

theorem only_op {w w1 : World} {o m a b : Nat} (h : Only [m, a, b] w w1) : Only [o, m, a, b] w w1 := h.mono (fun k hk => by simp at hk ⊢; omega)

theorem cload_any (o m a b : Nat) (s : OpS) (t : MemS) (w : World) (h : HasOp w o m a b s t) :
    Calls Try.prog 25 #[.pointer (some ⟨o, 0, none⟩), .pointer (some ⟨m, 0, none⟩)] w (CPost w o m a b (t.code s.base) { s with h := t.word s.base } (t.load s.base)) := by
  obtain ⟨c0, c1, c2, c3, c4, c5, c6, c7, c8, c9, c10⟩ := h.cells
  have H := Lib.hid h
  clear h c1 c2 c3 c4 c5 c6 c7 c8 c9 c10
  go_enter Try.func25, Try.ntmps25
  go_wp2_with fail
  refine (load_any m a b t _ _ H.out.mem).mono ?_
  rintro e w1 ⟨rfl, h1, h2⟩
  have H1 := Lib.hid (H.out.mem' h1 h2)
  have HO := Lib.hid (only_op (o := o) h2)
  have d3 := H1.out.op.cell 3
  have f3 := H1.out.op.free 3
  simp [OpS.cells] at d3
  clear h1 h2
  go_wp2_with fail
  go_ret
  exact ⟨rfl, H1.out.set 3 _ rfl, HO.out.setCell (by simp) _⟩

def OpS.look (s : OpS) (t : MemS) : OpS := { s with h := t.word s.base, next := if t.word s.base = -1 then 27 else 26 }
def OpS.tie (s : OpS) : OpS := { s with next := 31 }
def OpS.queue (s : OpS) (t : MemS) : OpS := if t.hit s.base s.h = true then { s with next := 22, waits := true, ended := true } else { s with next := 22 }
def OpS.told (s : OpS) (t : MemS) : OpS := { s with value := t.word (s.base + 1), next := 32 }
def OpS.whyS (s : OpS) (t : MemS) : OpS := { s with why := t.word (s.base + 2), ended := true }
def OpS.val (s : OpS) : OpS := { s with next := 28 }
def OpS.reason (s : OpS) : OpS := { s with next := 33 }
def OpS.head (s : OpS) (t : MemS) : OpS := { s with h := t.word s.base, next := 37 }
def OpS.close (s : OpS) (t : MemS) : OpS := if t.hit s.base s.h = true then { s with next := 33, waits := false, value := 0, why := 0, first := s.h, ended := true } else { s with next := 33 }

theorem clook_any (o m a b : Nat) (s : OpS) (t : MemS) (w : World) (h : HasOp w o m a b s t) :
    Calls Try.prog 22 #[.pointer (some ⟨o, 0, none⟩), .pointer (some ⟨m, 0, none⟩)] w (CPost w o m a b (t.code s.base) (s.look t) (t.load s.base)) := by
  have H := Lib.hid h
  clear h
  by_cases hw : t.word s.base = -1
  · have hw' : (t.word s.base == -1) = true := by rw [hw]; rfl
    have HW := Lib.hid hw; clear hw
    go_enter Try.func22, Try.ntmps22
    go_wp2_with fail
    refine (cload_any o m a b s t _ H.out).mono ?_
    rintro e w1 ⟨rfl, h1, h2⟩
    have H1 := Lib.hid h1; have HO := Lib.hid h2
    have d3 := h1.op.cell 3
    have d8 := h1.op.cell 8
    have f8 := h1.op.free 8
    simp [OpS.cells] at d3 d8
    clear h1 h2
    go_wp2_with fail
    go_ret
    refine ⟨rfl, ?_, (HO.out.setCell (by simp) _).setCell (by simp) _⟩
    rw [OpS.look, if_pos HW.out]
    exact (H1.out.set (s' := { s with h := t.word s.base, next := 26 }) 8 _ rfl).set 8 _ rfl
  · have hw' : (t.word s.base == -1) = false := by simpa using hw
    have HW := Lib.hid hw; clear hw
    go_enter Try.func22, Try.ntmps22
    go_wp2_with fail
    refine (cload_any o m a b s t _ H.out).mono ?_
    rintro e w1 ⟨rfl, h1, h2⟩
    have H1 := Lib.hid h1; have HO := Lib.hid h2
    have d3 := h1.op.cell 3
    have d8 := h1.op.cell 8
    have f8 := h1.op.free 8
    simp [OpS.cells] at d3 d8
    clear h1 h2
    go_wp2_with fail
    go_ret
    refine ⟨rfl, ?_, HO.out.setCell (by simp) _⟩
    rw [OpS.look, if_neg HW.out]
    exact H1.out.set 8 _ rfl

theorem ctie_any (o m a b : Nat) (s : OpS) (t : MemS) (w : World) (h : HasOp w o m a b s t) :
    Calls Try.prog 26 #[.pointer (some ⟨o, 0, none⟩), .pointer (some ⟨m, 0, none⟩)] w (CPost w o m a b (t.code s.link) s.tie (t.store s.link s.h)) := by
  obtain ⟨c0, c1, c2, c3, c4, c5, c6, c7, c8, c9, c10⟩ := h.cells
  have f8 := h.op.free 8
  have hs := h.set (s' := s.tie) 8 _ rfl
  have k2 := hs.op.cell 2
  have k3 := hs.op.cell 3
  simp [OpS.cells, OpS.tie] at k2 k3
  have H := Lib.hid hs
  clear h hs c0 c1 c4 c5 c6 c7 c9 c10
  go_enter Try.func26, Try.ntmps26
  go_wp2_with fail
  go_region_held3 (fun w' => w'.cell? ⟨o, 2, none⟩ = some (.int .i64 s.link) ∧ w'.cell? ⟨o, 3, none⟩ = some (.int .i64 s.h)) (go_keep)
    (first | (go_at_call 29; refine (store_any m a b t _ _ _ H.out.drew.mem).mono ?_; rintro e w1 ⟨rfl, h1, h2⟩; have h3 := H.out.drew.mem' h1 h2; have e2 := h3.op.cell 2; have e3 := h3.op.cell 3; simp [OpS.cells, OpS.tie] at e2 e3; have H1 := Lib.hid h3; have HO := Lib.hid (only_op (o := o) h2); clear h1 h2 h3))
  all_goals go_wp2_with fail
  all_goals go_ret
  all_goals exact ⟨rfl, H1.out, (((Only.refl _ _).setCell (by simp) _).drew).trans HO.out⟩

theorem cqueue_any (o m a b : Nat) (s : OpS) (t : MemS) (w : World) (h : HasOp w o m a b s t) :
    Calls Try.prog 31 #[.pointer (some ⟨o, 0, none⟩), .pointer (some ⟨m, 0, none⟩)] w (CPost w o m a b (t.code s.base) (s.queue t) (t.swap s.base s.h s.x)) := by
  obtain ⟨c0, c1, c2, c3, c4, c5, c6, c7, c8, c9, c10⟩ := h.cells
  have H := Lib.hid h
  clear h c2 c4 c5 c6 c7 c8 c9 c10
  by_cases hh : t.hit s.base s.h = true
  · go_enter Try.func31, Try.ntmps31
    go_wp2_with fail
    go_region_held3 (fun w' => w'.cell? ⟨o, 0, none⟩ = some (.int .i64 s.base) ∧ w'.cell? ⟨o, 1, none⟩ = some (.int .i64 s.x) ∧ w'.cell? ⟨o, 3, none⟩ = some (.int .i64 s.h)) (go_keep)
      (first | (go_at_call 36; refine (swap_any m a b t _ _ _ _ H.out.drew.mem).mono ?_; rintro e w1 ⟨rfl, h1, h2⟩; have h3 := H.out.drew.mem' h1 h2; have e0 := h3.op.cell 0; have e1 := h3.op.cell 1; have e3 := h3.op.cell 3; simp [OpS.cells] at e0 e1 e3; have d4 := h3.op.cell 4; have f4 := h3.op.free 4; have d8 := h3.op.cell 8; have f8 := h3.op.free 8; have d9 := h3.op.cell 9; have f9 := h3.op.free 9; simp [OpS.cells] at d4 d8 d9; have H1 := Lib.hid h3; have HO := Lib.hid (only_op (o := o) h2); clear h1 h2 h3))
    all_goals go_wp2_with fail
    all_goals go_ret
    all_goals
      refine ⟨rfl, ?_, (((((Only.refl _ _).drew.trans HO.out).setCell (by simp) _).setCell (by simp) _).setCell (by simp) _)⟩
      rw [OpS.queue, if_pos hh]
      exact ((H1.out.set (s' := { s with next := 22 }) 8 _ rfl).set (s' := { s with next := 22, waits := true }) 4 _ rfl).set 9 _ rfl
  · have hh' : t.hit s.base s.h = false := eq_false_of_ne_true hh
    have HH := Lib.hid hh
    clear hh
    go_enter Try.func31, Try.ntmps31
    go_wp2_with fail
    go_region_held3 (fun w' => w'.cell? ⟨o, 0, none⟩ = some (.int .i64 s.base) ∧ w'.cell? ⟨o, 1, none⟩ = some (.int .i64 s.x) ∧ w'.cell? ⟨o, 3, none⟩ = some (.int .i64 s.h)) (go_keep)
      (first | (go_at_call 36; refine (swap_any m a b t _ _ _ _ H.out.drew.mem).mono ?_; rintro e w1 ⟨rfl, h1, h2⟩; have h3 := H.out.drew.mem' h1 h2; have e0 := h3.op.cell 0; have e1 := h3.op.cell 1; have e3 := h3.op.cell 3; simp [OpS.cells] at e0 e1 e3; have d8 := h3.op.cell 8; have f8 := h3.op.free 8; simp [OpS.cells] at d8; have H1 := Lib.hid h3; have HO := Lib.hid (only_op (o := o) h2); clear h1 h2 h3))
    all_goals go_wp2_with fail
    all_goals go_ret
    all_goals
      refine ⟨rfl, ?_, ((Only.refl _ _).drew.trans HO.out).setCell (by simp) _⟩
      rw [OpS.queue, if_neg HH.out]
      exact H1.out.set 8 _ rfl

end Go.Proofs.Ytglifjecihmbhaa
