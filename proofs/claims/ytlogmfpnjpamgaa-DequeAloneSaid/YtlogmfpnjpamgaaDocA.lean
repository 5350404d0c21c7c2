/- Layer 9, the document's side: a deque and an operation of the reference; what end and swap do. -/
import Derived.Test.YtlogmfpnjpamgaaDeqN
open Go Go.RowKit
namespace Go.Proofs.Ytlogmfpnjpamgaa

def DOp.cells (o : DOp) : List Value := [.int .i64 o.what, .int .i64 o.next, .int .i64 o.x, .int .i64 o.e, .int .i64 o.t, .bool o.ended, .int .i64 o.result, .int .i64 o.why]
def slotsL (room : Nat) (D : Dq) : List Value := (List.range room).map fun i => .int .i64 (D (2 + i))

theorem slotsL_get {room i : Nat} {D : Dq} (h : i < room) : (slotsL room D)[i]? = some (.int .i64 (D (2 + i))) := by simp [slotsL, h]
theorem slotsL_put0 (room : Nat) (D : Dq) (n : Int) : slotsL room (D.put 0 n) = slotsL room D := by
  unfold slotsL; refine List.map_congr_left fun i _ => ?_; rw [Dq.put_ne _ _ _ (by omega)]
theorem slotsL_put1 (room : Nat) (D : Dq) (n : Int) : slotsL room (D.put 1 n) = slotsL room D := by
  unfold slotsL; refine List.map_congr_left fun i _ => ?_; rw [Dq.put_ne _ _ _ (by omega)]
theorem slotsL_set (room i : Nat) (D : Dq) (n : Int) (h : i < room) : (slotsL room D).set i (.int .i64 n) = slotsL room (D.put (2 + i) n) := by
  apply List.ext_getElem?
  intro j
  by_cases hj : j < room
  · rw [slotsL_get hj, List.getElem?_set]
    by_cases e : i = j
    · subst e; simp [slotsL, h, Dq.put]
    · rw [if_neg e, slotsL_get hj, Dq.put_ne _ _ _ (by omega)]
  · rw [List.getElem?_eq_none (by simp [slotsL]; omega), List.getElem?_eq_none (by simp [slotsL]; omega)]

/-- The document's deque (v; its slots: l) and one of its operations (q). -/
structure RW (w0 w : World) (v l q kind room : Nat) (D : Dq) (o : DOp) : Prop where
  top : Blk w v [.int .i64 kind, .int .i64 room, .int .i64 (D 0), .int .i64 (D 1), .slice (some ⟨l, 0, none⟩) room room] 73
  sl : Blk w l (slotsL room D) 2
  op : Blk w q o.cells 70
  vl : v ≠ l
  vq : v ≠ q
  lq : l ≠ q
  f : Only [v, l, q] w0 w

section
variable {w0 w : World} {v l q kind room : Nat} {D : Dq} {o : DOp}

theorem RW.setO (h : RW w0 w v l q kind room D o) (i : Nat) (u : Value) {o' : DOp} (e : o.cells.set i u = o'.cells) : RW w0 (w.setCell ⟨q, i, none⟩ u) v l q kind room D o' :=
  ⟨h.top.other h.vq _, h.sl.other h.lq _, h.op.setAs i u e, h.vl, h.vq, h.lq, h.f.setCell (by simp) _⟩
theorem RW.setE (h : RW w0 w v l q kind room D o) (n : Int) : RW w0 (w.setCell ⟨v, 2, none⟩ (.int .i64 n)) v l q kind room (D.put 0 n) o :=
  ⟨h.top.setAs 2 _ rfl, by rw [slotsL_put0]; exact h.sl.other (Ne.symm h.vl) _, h.op.other (Ne.symm h.vq) _, h.vl, h.vq, h.lq, h.f.setCell (by simp) _⟩
theorem RW.setT (h : RW w0 w v l q kind room D o) (n : Int) : RW w0 (w.setCell ⟨v, 3, none⟩ (.int .i64 n)) v l q kind room (D.put 1 n) o :=
  ⟨h.top.setAs 3 _ rfl, by rw [slotsL_put1]; exact h.sl.other (Ne.symm h.vl) _, h.op.other (Ne.symm h.vq) _, h.vl, h.vq, h.lq, h.f.setCell (by simp) _⟩
theorem RW.setS (h : RW w0 w v l q kind room D o) (i : Nat) (hi : i < room) (n : Int) : RW w0 (w.setCell ⟨l, i, none⟩ (.int .i64 n)) v l q kind room (D.put (2 + i) n) o := by
  refine ⟨?_, h.sl.setAs i _ (slotsL_set room i D n hi), h.op.other (Ne.symm h.lq) _, h.vl, h.vq, h.lq, h.f.setCell (by simp) _⟩
  rw [Dq.put_ne _ _ _ (by omega), Dq.put_ne _ _ _ (by omega)]
  exact h.top.other h.vl _
theorem RW.drewN (h : RW w0 w v l q kind room D o) (n : Nat) : RW w0 (w.drewN n) v l q kind room D o := ⟨h.top.drewN n, h.sl.drewN n, h.op.drewN n, h.vl, h.vq, h.lq, h.f.drewN n⟩
theorem RW.drew (h : RW w0 w v l q kind room D o) : RW w0 w.drew v l q kind room D o := ⟨h.top.drew, h.sl.drew, h.op.drew, h.vl, h.vq, h.lq, h.f.drew⟩

theorem RW.facts (h : RW w0 w v l q kind room D o) :
    w.cell? ⟨q, 0, none⟩ = some (.int .i64 o.what) ∧ w.cell? ⟨q, 1, none⟩ = some (.int .i64 o.next) ∧ w.cell? ⟨q, 2, none⟩ = some (.int .i64 o.x) ∧ w.cell? ⟨q, 3, none⟩ = some (.int .i64 o.e) ∧ w.cell? ⟨q, 4, none⟩ = some (.int .i64 o.t) ∧
    w.cell? ⟨q, 5, none⟩ = some (.bool o.ended) ∧ w.cell? ⟨q, 6, none⟩ = some (.int .i64 o.result) ∧ w.cell? ⟨q, 7, none⟩ = some (.int .i64 o.why) ∧
    w.cell? ⟨v, 0, none⟩ = some (.int .i64 kind) ∧ w.cell? ⟨v, 1, none⟩ = some (.int .i64 room) ∧ w.cell? ⟨v, 2, none⟩ = some (.int .i64 (D 0)) ∧ w.cell? ⟨v, 3, none⟩ = some (.int .i64 (D 1)) ∧ w.cell? ⟨v, 4, none⟩ = some (.slice (some ⟨l, 0, none⟩) room room) ∧
    w.frozen? ⟨q, 1, none⟩ = false ∧ w.frozen? ⟨q, 2, none⟩ = false ∧ w.frozen? ⟨q, 3, none⟩ = false ∧ w.frozen? ⟨q, 4, none⟩ = false ∧ w.frozen? ⟨v, 2, none⟩ = false ∧ w.frozen? ⟨v, 3, none⟩ = false :=
  ⟨h.op.cell 0, h.op.cell 1, h.op.cell 2, h.op.cell 3, h.op.cell 4, h.op.cell 5, h.op.cell 6, h.op.cell 7, h.top.cell 0, h.top.cell 1, h.top.cell 2, h.top.cell 3, h.top.cell 4, h.op.free 1, h.op.free 2, h.op.free 3, h.op.free 4, h.top.free 2, h.top.free 3⟩
theorem RW.slot (h : RW w0 w v l q kind room D o) (i : Nat) (hi : i < room) : w.cell? ⟨l, i, none⟩ = some (.int .i64 (D (2 + i))) := by rw [h.sl.cell, slotsL_get hi]

def RPost (w0 : World) (v l q kind room : Nat) (r : Value) (D : Dq) (o : DOp) (e : Ending) (w' : World) : Prop := e = .returned r ∧ RW w0 w' v l q kind room D o

theorem rend_any (why result : Int) (h : RW w0 w v l q kind room D o) :
    Calls Try.prog 55 #[.pointer (some ⟨q, 0, none⟩), .int .i64 why, .int .i64 result] w (RPost w0 v l q kind room (.tuple #[]) D { o with ended := true, why, result }) := by
  have c5 := h.op.cell 5; have c6 := h.op.cell 6; have c7 := h.op.cell 7; have f5 := h.op.free 5; have f6 := h.op.free 6; have f7 := h.op.free 7
  simp [DOp.cells] at c5 c6 c7
  have H := Lib.hid h
  clear h
  go_enter Try.func55, Try.ntmps55
  go_wp2_with fail
  all_goals go_end0
  all_goals exact ⟨rfl, ((H.out.setO (o' := { o with ended := true }) 5 _ rfl).setO (o' := { o with ended := true, why := why }) 7 _ rfl).setO 6 _ rfl⟩

theorem rswap_hit (n : Int) (h : RW w0 w v l q kind room D o) (hE : D 1 = o.t) :
    Calls Try.prog 56 #[.pointer (some ⟨v, 0, none⟩), .pointer (some ⟨q, 0, none⟩), .int .i64 n] w (RPost w0 v l q kind room (.bool true) (D.put 1 n) o) := by
  have c4 := h.op.cell 4; have d3 := h.top.cell 3; have f3 := h.top.free 3
  simp [DOp.cells] at c4 d3
  have hE2 : (D 1 != o.t) = false := by simpa using hE
  have H := Lib.hid h
  clear h hE
  go_enter Try.func56, Try.ntmps56
  go_wp2_with fail
  go_quiet (fail)
  go_wp2_with fail
  go_ret
  exact ⟨rfl, (H.out.setT n).drewN nq⟩

theorem rswap_miss (n : Int) (h : RW w0 w v l q kind room D o) (hE : D 1 ≠ o.t) :
    Calls Try.prog 56 #[.pointer (some ⟨v, 0, none⟩), .pointer (some ⟨q, 0, none⟩), .int .i64 n] w (RPost w0 v l q kind room (.bool false) D o) := by
  have c4 := h.op.cell 4; have d3 := h.top.cell 3
  simp [DOp.cells] at c4 d3
  have hE2 : (D 1 != o.t) = true := by simpa using hE
  have H := Lib.hid h
  clear h hE
  go_enter Try.func56, Try.ntmps56
  go_wp2_with fail
  go_quiet (fail)
  go_wp2_with fail
  go_ret
  exact ⟨rfl, H.out.drewN nq⟩
end

end Go.Proofs.Ytlogmfpnjpamgaa
