/- Layer 13: End, At, Wait, Fill. -/
import Derived.Test.YtglifjecihmbhaaCellC
open Go Go.RowKit
namespace Go.Proofs.Ytglifjecihmbhaa

theorem newBlk (w : World) (n : Nat) (c : List Value) (t : TypeId) (h : n = w.heap.size) : Blk (w.alloc (.cells c.toArray t)) n c t := h ▸ Blk.new w c t

/-- What End tells of an operation. -/
def OpS.told4 (s : OpS) : Value := .agg #[.bool s.waits, .int .i64 s.value, .int .i64 s.why, .int .i64 s.first]
def end0 : Value := .agg #[.bool false, .int .i64 0, .int .i64 0, .int .i64 0]

theorem cend_ended (o m a b : Nat) (s : OpS) (t : MemS) (w : World) (h : HasOp w o m a b s t) (he : s.ended = true) :
    Calls Try.prog 11 #[.pointer (some ⟨o, 0, none⟩)] w fun e w' => e = .returned (.tuple #[s.told4, .int .i64 s.fault]) ∧ Only [] w w' := by
  obtain ⟨c0, c1, c2, c3, c4, c5, c6, c7, c8, c9, c10⟩ := h.cells
  rw [he] at c9
  have hlt := h.op.lt
  clear h he c0 c1 c2 c3 c8
  go_enter Try.func11, Try.ntmps11
  go_wp2_with fail
  go_region
  all_goals go_wp2_with fail
  exact bodyPost_ret (v := .tuple #[s.told4, .int .i64 s.fault]) (by simp [results, Try.results11, go_sem, OpS.told4]) rfl ⟨rfl, ((Only.refl _ _).alloc _).drew⟩

theorem cend_not (o m a b : Nat) (s : OpS) (t : MemS) (w : World) (h : HasOp w o m a b s t) (he : s.ended = false) :
    Calls Try.prog 11 #[.pointer (some ⟨o, 0, none⟩)] w fun e w' => e = .returned (.tuple #[end0, .int .i64 11]) ∧ Only [] w w' := by
  obtain ⟨c0, c1, c2, c3, c4, c5, c6, c7, c8, c9, c10⟩ := h.cells
  rw [he] at c9
  have hlt := h.op.lt
  clear h he c0 c1 c2 c3 c8
  go_enter Try.func11, Try.ntmps11
  go_wp2_with fail
  exact bodyPost_ret (v := .tuple #[end0, .int .i64 11]) (by simp [results, Try.results11, go_sem, end0]) rfl ⟨rfl, (Only.refl _ _).alloc _⟩

theorem cend_nil (w : World) : Calls Try.prog 11 #[.pointer none] w fun e w' => e = .returned (.tuple #[end0, .int .i64 11]) ∧ Only [] w w' := by
  go_enter Try.func11, Try.ntmps11
  go_wp2_with fail
  exact bodyPost_ret (v := .tuple #[end0, .int .i64 11]) (by simp [results, Try.results11, go_sem, end0]) rfl ⟨rfl, (Only.refl _ _).alloc _⟩

/-- What End tells, ended or not. -/
def OpS.endV (s : OpS) : Value := .tuple #[if s.ended = true then s.told4 else end0, .int .i64 (if s.ended = true then s.fault else 11)]

theorem cend_any (o m a b : Nat) (s : OpS) (t : MemS) (w : World) (h : HasOp w o m a b s t) :
    Calls Try.prog 11 #[.pointer (some ⟨o, 0, none⟩)] w fun e w' => e = .returned s.endV ∧ Only [] w w' := by
  unfold OpS.endV
  by_cases he : s.ended = true
  · rw [if_pos he, if_pos he]; exact cend_ended o m a b s t w h he
  · rw [if_neg he, if_neg he]; exact cend_not o m a b s t w h (eq_false_of_ne_true he)

theorem cat_any (n : Int) (w : World) : Calls Try.prog 14 #[.int .i64 n] w fun e w' => e = .returned (.agg #[.int .i64 n]) ∧ Only [] w w' := by
  go_enter Try.func14, Try.ntmps14
  go_wp2_with fail
  exact bodyPost_ret (v := .agg #[.int .i64 n]) (by simp [results, Try.results14, go_sem]) rfl ⟨rfl, (Only.refl _ _).alloc _⟩

def OpS.wait (base x link : Int) : OpS := { base, x, link, h := 0, waits := false, value := 0, why := 0, first := 0, next := 22, ended := false, fault := 0 }
def OpS.fill (base value why : Int) : OpS := { base, x := 0, link := 0, h := 0, waits := false, value, why, first := 0, next := 23, ended := false, fault := 0 }

/-- A new operation. -/
def NewOp (s : OpS) (w : World) (e : Ending) (w' : World) : Prop := ∃ o, e = .returned (.pointer (some ⟨o, 0, none⟩)) ∧ Blk w' o (s.cells o) 66 ∧ w.heap.size ≤ o ∧ Only [] w w'

theorem cwait_any (base x link : Int) (w : World) : Calls Try.prog 15 #[.agg #[.int .i64 base], .int .i64 x, .int .i64 link] w (NewOp (.wait base x link) w) := by
  go_enter Try.func15, Try.ntmps15
  go_wp2_with fail
  go_ret
  refine ⟨w.heap.size + 1, rfl, ?_, by omega, ((Only.refl _ _).alloc _).alloc _⟩
  exact newBlk _ _ ((OpS.wait base x link).cells (w.heap.size + 1)) 66 (by simp)

theorem cfill_any (base value why : Int) (w : World) : Calls Try.prog 16 #[.agg #[.int .i64 base], .int .i64 value, .int .i64 why] w (NewOp (.fill base value why) w) := by
  go_enter Try.func16, Try.ntmps16
  go_wp2_with fail
  go_ret
  refine ⟨w.heap.size + 1, rfl, ?_, by omega, ((Only.refl _ _).alloc _).alloc _⟩
  exact newBlk _ _ ((OpS.fill base value why).cells (w.heap.size + 1)) 66 (by simp)

end Go.Proofs.Ytglifjecihmbhaa
