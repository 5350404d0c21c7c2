/- Layer 1: New, Live, Free: how a memory begins, what is made live or free. -/
import Derived.Test.YtccadafajocbgaaMemC
import Derived.BigRegion
open Go Go.RowKit
namespace Go.Proofs.Ytccadafajocbgaa

theorem info_i64 : (Try.prog.info? 2).map (fun i => (i.zero, i.size, i.bytes)) = some (some (.int .i64 0), 1, 8) := by kernel_rfl
theorem info_bool : (Try.prog.info? 4).map (fun i => (i.zero, i.size, i.bytes)) = some (some (.bool false), 1, 1) := by kernel_rfl

theorem madeCells_one (z : Value) (n : Nat) : madeCells #[z] n = (List.replicate n z).toArray := by
  unfold madeCells
  apply Array.ext
  · simp
  · intro i h1 h2
    simp [Nat.mod_one]

theorem make_i64 (n : Nat) (hn : n ≤ 65536) (w : World) : (Instr.makeSlice 64 (.int .i64 n) (.int .i64 n)).run Try.prog w = .ok (.slice (some ⟨w.heap.size, 0, none⟩) n n) (w.alloc (.cells (List.replicate n (Value.int .i64 0)).toArray 2)) := by
  obtain ⟨i0, hi, hz0, hz1, hz2⟩ := info_parts info_i64
  have h := run_make (P := Try.prog) w 64 2 i0 (.int .i64 0) Try.underlying64 hi hz0 .i64 .i64 n n (by omega) (by omega) (by rw [hz2]; omega) (by omega)
  simpa [Value.cells, hz1, madeCells_one] using h
theorem make_bool (n : Nat) (hn : n ≤ 65536) (w : World) : (Instr.makeSlice 52 (.int .i64 n) (.int .i64 n)).run Try.prog w = .ok (.slice (some ⟨w.heap.size, 0, none⟩) n n) (w.alloc (.cells (List.replicate n (Value.bool false)).toArray 4)) := by
  obtain ⟨i0, hi, hz0, hz1, hz2⟩ := info_parts info_bool
  have h := run_make (P := Try.prog) w 52 4 i0 (.bool false) Try.underlying52 hi hz0 .i64 .i64 n n (by omega) (by omega) (by rw [hz2]; omega) (by omega)
  simpa [Value.cells, hz1, madeCells_one] using h

/-- A memory as it begins. -/
def MemS.fresh (n : Nat) : MemS := { words := List.replicate n 0, live := List.replicate n false, steps := 0 }

/-- New memory, in blocks that were not there. -/
def NewMem (n : Nat) (w : World) (e : Ending) (w' : World) : Prop :=
  ∃ m a b, e = .returned (.tuple #[.pointer (some ⟨m, 0, none⟩), .int .i64 0]) ∧ IsMem w' m a b (MemS.fresh n) ∧ w.heap.size ≤ m ∧ w.heap.size ≤ a ∧ w.heap.size ≤ b ∧ Only [] w w'

theorem new_ab (n : Nat) (w : World) (hn : n ≤ 65536) : NewMem n w (.returned (.tuple #[.pointer (some ⟨w.heap.size + 1 + 1, 0, none⟩), .int .i64 0]))
    (((w.alloc (Obj.cells (Array.replicate n (Value.int IntKind.i64 0)) 2)).alloc (Obj.cells (Array.replicate n (Value.bool false)) 4)).alloc
        (Obj.cells #[Value.slice (some ⟨w.heap.size, 0, none⟩) n n, Value.slice (some ⟨w.heap.size + 1, 0, none⟩) n n, Value.int IntKind.i64 0] 66)).drew := by
  have e1 : Array.replicate n (Value.int IntKind.i64 0) = (List.replicate n (Value.int .i64 0)).toArray := by simp
  have e2 : Array.replicate n (Value.bool false) = (List.replicate n (Value.bool false)).toArray := by simp
  rw [e1, e2]
  refine ⟨_, w.heap.size, w.heap.size + 1, rfl, ⟨Blk.drew ?_, Blk.drew ?_, Blk.drew ?_, by omega, by omega, by omega, by simp [MemS.fresh], by simpa [MemS.fresh] using hn⟩, by omega, by omega, by omega, (((Only.refl _ _).alloc _).alloc _).alloc _ |>.drew⟩
  · simpa [MemS.fresh] using Blk.new ((w.alloc _).alloc _) _ _
  · simpa [MemS.fresh] using ((Blk.new w (List.replicate n (Value.int .i64 0)) 2).alloc _).alloc _
  · simpa [MemS.fresh] using (Blk.new (w.alloc _) (List.replicate n (Value.bool false)) 4).alloc _

theorem new_ba (n : Nat) (w : World) (hn : n ≤ 65536) : NewMem n w (.returned (.tuple #[.pointer (some ⟨w.heap.size + 1 + 1, 0, none⟩), .int .i64 0]))
    (((w.alloc (Obj.cells (Array.replicate n (Value.bool false)) 4)).alloc (Obj.cells (Array.replicate n (Value.int IntKind.i64 0)) 2)).alloc
        (Obj.cells #[Value.slice (some ⟨w.heap.size + 1, 0, none⟩) n n, Value.slice (some ⟨w.heap.size, 0, none⟩) n n, Value.int IntKind.i64 0] 66)).drew := by
  have e1 : Array.replicate n (Value.int IntKind.i64 0) = (List.replicate n (Value.int .i64 0)).toArray := by simp
  have e2 : Array.replicate n (Value.bool false) = (List.replicate n (Value.bool false)).toArray := by simp
  rw [e1, e2]
  refine ⟨_, w.heap.size + 1, w.heap.size, rfl, ⟨Blk.drew ?_, Blk.drew ?_, Blk.drew ?_, by omega, by omega, by omega, by simp [MemS.fresh], by simpa [MemS.fresh] using hn⟩, by omega, by omega, by omega, (((Only.refl _ _).alloc _).alloc _).alloc _ |>.drew⟩
  · simpa [MemS.fresh] using Blk.new ((w.alloc _).alloc _) _ _
  · simpa [MemS.fresh] using (Blk.new (w.alloc _) (List.replicate n (Value.int .i64 0)) 2).alloc _
  · simpa [MemS.fresh] using ((Blk.new w (List.replicate n (Value.bool false)) 4).alloc _).alloc _

theorem new_ok (n : Nat) (w : World) (hn : n ≤ 65536) : Calls Try.prog 10 #[.int .i64 n] w (NewMem n w) := by
  have h1 := fun w => make_i64 n hn w
  have h2 := fun w => make_bool n hn w
  go_enter Try.func10, Try.ntmps10
  go_wp2
  go_region
  all_goals go_wp2
  all_goals go_ret2
  · exact new_ab n w hn
  · exact new_ba n w hn

theorem new_bad (n : Int) (w : World) (hn : n < 0 ∨ 65536 < n) : Calls Try.prog 10 #[.int .i64 n] w fun e w' => e = .returned (.tuple #[.pointer none, .int .i64 1]) ∧ w = w' := by
  rcases hn with hn | hn
  · go_enter Try.func10, Try.ntmps10
    go_wp2
    go_ret2
    exact ⟨rfl, rfl⟩
  · have h0 : ¬ n < 0 := by omega
    go_enter Try.func10, Try.ntmps10
    go_wp2
    go_ret2
    exact ⟨rfl, rfl⟩

end Go.Proofs.Ytccadafajocbgaa
