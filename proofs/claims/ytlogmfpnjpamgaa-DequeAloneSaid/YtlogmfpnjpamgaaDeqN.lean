/- Layer 9: Move, End, Push, Pop, Steal, and an operation that is run to its end. -/
import Derived.Test.YtlogmfpnjpamgaaDeqM
open Go Go.RowKit
namespace Go.Proofs.Ytlogmfpnjpamgaa

theorem ent_dpushEnd (args : Array Value) (w : World) : Sem.run Try.prog (callFunc 29 args) w = .ok (.enter 29 args) w := by kernel_rfl
theorem ent_dpushSlot (args : Array Value) (w : World) : Sem.run Try.prog (callFunc 44 args) w = .ok (.enter 44 args) w := by kernel_rfl
theorem ent_dpushOver (args : Array Value) (w : World) : Sem.run Try.prog (callFunc 59 args) w = .ok (.enter 59 args) w := by kernel_rfl
theorem ent_dpushTop (args : Array Value) (w : World) : Sem.run Try.prog (callFunc 30 args) w = .ok (.enter 30 args) w := by kernel_rfl
theorem ent_dpushLast (args : Array Value) (w : World) : Sem.run Try.prog (callFunc 48 args) w = .ok (.enter 48 args) w := by kernel_rfl
theorem ent_dpushTag (args : Array Value) (w : World) : Sem.run Try.prog (callFunc 60 args) w = .ok (.enter 60 args) w := by kernel_rfl
theorem ent_dpushHead (args : Array Value) (w : World) : Sem.run Try.prog (callFunc 31 args) w = .ok (.enter 31 args) w := by kernel_rfl
theorem ent_dpushTail (args : Array Value) (w : World) : Sem.run Try.prog (callFunc 49 args) w = .ok (.enter 49 args) w := by kernel_rfl
theorem ent_dpopEnd (args : Array Value) (w : World) : Sem.run Try.prog (callFunc 32 args) w = .ok (.enter 32 args) w := by kernel_rfl
theorem ent_dpopDown (args : Array Value) (w : World) : Sem.run Try.prog (callFunc 50 args) w = .ok (.enter 50 args) w := by kernel_rfl
theorem ent_dpopSlot (args : Array Value) (w : World) : Sem.run Try.prog (callFunc 61 args) w = .ok (.enter 61 args) w := by kernel_rfl
theorem ent_dpopAge (args : Array Value) (w : World) : Sem.run Try.prog (callFunc 71 args) w = .ok (.enter 71 args) w := by kernel_rfl
theorem ent_dpopClear (args : Array Value) (w : World) : Sem.run Try.prog (callFunc 79 args) w = .ok (.enter 79 args) w := by kernel_rfl
theorem ent_dpopLast (args : Array Value) (w : World) : Sem.run Try.prog (callFunc 83 args) w = .ok (.enter 83 args) w := by kernel_rfl
theorem ent_dpopReset (args : Array Value) (w : World) : Sem.run Try.prog (callFunc 82 args) w = .ok (.enter 82 args) w := by kernel_rfl
theorem ent_dstealTop (args : Array Value) (w : World) : Sem.run Try.prog (callFunc 35 args) w = .ok (.enter 35 args) w := by kernel_rfl
theorem ent_dstealEnd (args : Array Value) (w : World) : Sem.run Try.prog (callFunc 53 args) w = .ok (.enter 53 args) w := by kernel_rfl
theorem ent_dstealSlot (args : Array Value) (w : World) : Sem.run Try.prog (callFunc 65 args) w = .ok (.enter 65 args) w := by kernel_rfl
theorem ent_dstealSwap (args : Array Value) (w : World) : Sem.run Try.prog (callFunc 77 args) w = .ok (.enter 77 args) w := by kernel_rfl
theorem ent_dlastTop (args : Array Value) (w : World) : Sem.run Try.prog (callFunc 33 args) w = .ok (.enter 33 args) w := by kernel_rfl
theorem ent_dlastSlot (args : Array Value) (w : World) : Sem.run Try.prog (callFunc 51 args) w = .ok (.enter 51 args) w := by kernel_rfl
theorem ent_dlastStore (args : Array Value) (w : World) : Sem.run Try.prog (callFunc 63 args) w = .ok (.enter 63 args) w := by kernel_rfl
theorem ent_dlastSwap (args : Array Value) (w : World) : Sem.run Try.prog (callFunc 62 args) w = .ok (.enter 62 args) w := by kernel_rfl
theorem ent_dheadTop (args : Array Value) (w : World) : Sem.run Try.prog (callFunc 34 args) w = .ok (.enter 34 args) w := by kernel_rfl
theorem ent_dheadEnd (args : Array Value) (w : World) : Sem.run Try.prog (callFunc 52 args) w = .ok (.enter 52 args) w := by kernel_rfl
theorem ent_dheadSlot (args : Array Value) (w : World) : Sem.run Try.prog (callFunc 64 args) w = .ok (.enter 64 args) w := by kernel_rfl
theorem ent_dheadStore (args : Array Value) (w : World) : Sem.run Try.prog (callFunc 76 args) w = .ok (.enter 76 args) w := by kernel_rfl
theorem ent_dheadSwap (args : Array Value) (w : World) : Sem.run Try.prog (callFunc 75 args) w = .ok (.enter 75 args) w := by kernel_rfl

theorem nx_enters (kind : Nat) (s : DOp) (args : Array Value) (w : World) : Sem.run Try.prog (callFunc (s.nx kind) args) w = .ok (.enter (s.nx kind) args) w := by
  unfold DOp.nx
  split
  · split
    · split <;> first | exact ent_dpushEnd _ _ | exact ent_dpushSlot _ _ | exact ent_dpushOver _ _
    · split <;> first | exact ent_dpopEnd _ _ | exact ent_dpopDown _ _ | exact ent_dpopSlot _ _ | exact ent_dpopAge _ _ | exact ent_dpopClear _ _ | exact ent_dpopLast _ _ | exact ent_dpopReset _ _
    · split <;> first | exact ent_dstealTop _ _ | exact ent_dstealEnd _ _ | exact ent_dstealSlot _ _ | exact ent_dstealSwap _ _
  · split
    · split
      · split <;> first | exact ent_dpushTop _ _ | exact ent_dpushLast _ _ | exact ent_dpushTag _ _
      · split <;> first | exact ent_dlastTop _ _ | exact ent_dlastSlot _ _ | exact ent_dlastStore _ _
      · split <;> first | exact ent_dlastTop _ _ | exact ent_dlastSlot _ _ | exact ent_dlastSwap _ _
    · split
      · split <;> first | exact ent_dpushHead _ _ | exact ent_dpushTail _ _ | exact ent_dpushSlot _ _ | exact ent_dpushOver _ _
      · split <;> first | exact ent_dheadTop _ _ | exact ent_dheadEnd _ _ | exact ent_dheadSlot _ _ | exact ent_dheadStore _ _
      · split <;> first | exact ent_dheadTop _ _ | exact ent_dheadEnd _ _ | exact ent_dheadSlot _ _ | exact ent_dheadSwap _ _

section
variable {w0 w : World} {o m a b : Nat} {D : Dq} {kind base room N : Nat}

theorem dmove_gen {S S' : OpD} {D' : Dq} (h : HW w0 w o m a b S D) (he : S.ended = false)
    (hcf : ∀ args w, Sem.run Try.prog (callFunc S.next args) w = .ok (.enter S.next args) w) (hc : Calls Try.prog S.next #[.pointer (some ⟨o, 0, none⟩), .pointer (some ⟨m, 0, none⟩)] w (HPost w0 o m a b (.tuple #[]) S' D')) :
    Calls Try.prog 22 #[.pointer (some ⟨o, 0, none⟩), .pointer (some ⟨m, 0, none⟩)] w (HPost w0 o m a b (.bool S'.ended) S' D') := by
  obtain ⟨k0, k1, k2, k3, k4, k5, k6, k7, k8, k9, k10, klt, f3, f4, f5, f6⟩ := h.facts
  rw [he] at k7
  have HC := Lib.hid hc
  clear h hc he k0 k1 k2 k3 k4 k5 k8 k9 k10 f3 f4 f5 f6
  go_enter Try.func22, Try.ntmps22
  go_wp2_with (refine HC.out.mono ?_; rintro e w1 ⟨rfl, h1⟩; have d7 := h1.h.op.cell 7; simp [OpD.cells] at d7; have H1 := Lib.hid h1; clear h1)
  go_ret
  exact ⟨rfl, H1.out⟩

theorem dmove_ended {S : OpD} (h : HW w0 w o m a b S D) (he : S.ended = true) :
    Calls Try.prog 22 #[.pointer (some ⟨o, 0, none⟩), .pointer (some ⟨m, 0, none⟩)] w (HPost w0 o m a b (.bool true) S D) := by
  obtain ⟨k0, k1, k2, k3, k4, k5, k6, k7, k8, k9, k10, klt, f3, f4, f5, f6⟩ := h.facts
  rw [he] at k7
  have H := Lib.hid h
  clear h he k0 k1 k2 k3 k4 k5 k6 k8 k9 k10 f3 f4 f5 f6
  go_enter Try.func22, Try.ntmps22
  go_wp2_with fail
  go_ret
  exact ⟨rfl, H.out⟩

theorem dmove_any (s : DOp) (h : HW w0 w o m a b (s.prog kind base room) D) (hk : kind = 1 ∨ kind = 2 ∨ kind = 3) (hD : DqOk kind room N D) (ho : s.Ok kind room N) (hN : N ≤ 1000000) :
    Calls Try.prog 22 #[.pointer (some ⟨o, 0, none⟩), .pointer (some ⟨m, 0, none⟩)] w (HPost w0 o m a b (.bool (s.step kind room D).1.ended) ((s.step kind room D).1.prog kind base room) (s.step kind room D).2) := by
  by_cases he : s.ended = true
  · have e : s.step kind room D = (s, D) := by rw [DOp.step, if_pos he]
    rw [e]
    simp only [he]
    exact dmove_ended h he
  · have he := eq_false_of_ne_true he
    refine dmove_gen (S' := (s.step kind room D).1.prog kind base room) h he (nx_enters kind s) ?_
    rcases hk with rfl | rfl | rfl
    · exact mv_1 s h hD ho hN he
    · exact mv_2 s h hD ho hN he
    · exact mv_3 s h hD ho hN he

/-- What End tells. -/
def OpD.tn (S : OpD) : Int := if S.ended = true then S.result else 0
def OpD.tw (S : OpD) : Int := if S.ended = true then S.why else 11
def OpD.tells (S : OpD) : Value := .tuple #[.int .i64 S.tn, .int .i64 S.tw]

theorem dend_not {S : OpD} (h : HW w0 w o m a b S D) (he : S.ended = false) : Calls Try.prog 23 #[.pointer (some ⟨o, 0, none⟩)] w (HPost w0 o m a b (.tuple #[.int .i64 0, .int .i64 11]) S D) := by
  obtain ⟨k0, k1, k2, k3, k4, k5, k6, k7, k8, k9, k10, klt, f3, f4, f5, f6⟩ := h.facts
  rw [he] at k7
  have H := Lib.hid h
  clear h he k0 k1 k2 k3 k4 k5 k6 k8 k9 k10 f3 f4 f5 f6
  go_enter Try.func23, Try.ntmps23
  go_wp2_with fail
  go_ret2
  exact ⟨rfl, H.out⟩

theorem dend_ended {S : OpD} (h : HW w0 w o m a b S D) (he : S.ended = true) : Calls Try.prog 23 #[.pointer (some ⟨o, 0, none⟩)] w (HPost w0 o m a b (.tuple #[.int .i64 S.result, .int .i64 S.why]) S D) := by
  obtain ⟨k0, k1, k2, k3, k4, k5, k6, k7, k8, k9, k10, klt, f3, f4, f5, f6⟩ := h.facts
  rw [he] at k7
  have H := Lib.hid h
  clear h he k0 k1 k2 k3 k4 k5 k6 k10 f3 f4 f5 f6
  go_enter Try.func23, Try.ntmps23
  go_wp2_with fail
  go_quiet (fail)
  go_wp2_with fail
  go_ret2
  exact ⟨rfl, H.out.drewN nq⟩

theorem dend_op {S : OpD} (h : HW w0 w o m a b S D) : Calls Try.prog 23 #[.pointer (some ⟨o, 0, none⟩)] w (HPost w0 o m a b S.tells S D) := by
  unfold OpD.tells OpD.tn OpD.tw
  by_cases he : S.ended = true
  · rw [if_pos he, if_pos he]; exact dend_ended h he
  · rw [if_neg he, if_neg he]; exact dend_not h (eq_false_of_ne_true he)

/-- A new operation. -/
def NewD (S : OpD) (w : World) (e : Ending) (w' : World) : Prop := ∃ o, e = .returned (.pointer (some ⟨o, 0, none⟩)) ∧ Blk w' o (S.cells o) 76 ∧ w.heap.size ≤ o ∧ Only [] w w'
theorem newBlk (w : World) (n : Nat) (c : List Value) (t : TypeId) (h : n = w.heap.size) : Blk (w.alloc (.cells c.toArray t)) n c t := h ▸ Blk.new w c t
theorem Blk.setAs {w : World} {b : Nat} {c c' : List Value} {t : TypeId} (h : Blk w b c t) (i : Nat) (v : Value) (e : c.set i v = c') : Blk (w.setCell ⟨b, i, none⟩ v) b c' t := e ▸ h.set i v
theorem dpush_any (x : Int) (w : World) (hk : kind = 1 ∨ kind = 2 ∨ kind = 3) : Calls Try.prog 19 #[.agg #[.int .i64 kind, .int .i64 base, .int .i64 room], .int .i64 x] w (NewD ((DOp.new 0 x).prog kind base room) w) := by
  rcases hk with rfl | rfl | rfl
  · go_enter Try.func19, Try.ntmps19
    go_wp2_with fail
    go_ret
    exact ⟨w.heap.size + 1, rfl, newBlk _ _ (((DOp.new 0 x).prog 1 base room).cells (w.heap.size + 1)) 76 (by simp), by omega, ((Only.refl _ _).alloc _).alloc _⟩
  · go_enter Try.func19, Try.ntmps19
    go_wp2_with fail
    go_ret
    exact ⟨w.heap.size + 1, rfl, newBlk _ _ (((DOp.new 0 x).prog 2 base room).cells (w.heap.size + 1)) 76 (by simp), by omega, ((Only.refl _ _).alloc _).alloc _⟩
  · go_enter Try.func19, Try.ntmps19
    go_wp2_with fail
    go_ret
    exact ⟨w.heap.size + 1, rfl, newBlk _ _ (((DOp.new 0 x).prog 3 base room).cells (w.heap.size + 1)) 76 (by simp), by omega, ((Only.refl _ _).alloc _).alloc _⟩

theorem dpop_any (w : World) (hk : kind = 1 ∨ kind = 2 ∨ kind = 3) : Calls Try.prog 20 #[.agg #[.int .i64 kind, .int .i64 base, .int .i64 room]] w (NewD ((DOp.new 1 0).prog kind base room) w) := by
  rcases hk with rfl | rfl | rfl
  · go_enter Try.func20, Try.ntmps20
    go_wp2_with fail
    go_ret
    exact ⟨w.heap.size + 1, rfl, newBlk _ _ (((DOp.new 1 0).prog 1 base room).cells (w.heap.size + 1)) 76 (by simp), by omega, ((Only.refl _ _).alloc _).alloc _⟩
  · go_enter Try.func20, Try.ntmps20
    go_wp2_with fail
    go_ret
    exact ⟨w.heap.size + 1, rfl, newBlk _ _ (((DOp.new 1 0).prog 2 base room).cells (w.heap.size + 1)) 76 (by simp), by omega, ((Only.refl _ _).alloc _).alloc _⟩
  · go_enter Try.func20, Try.ntmps20
    go_wp2_with fail
    go_ret
    exact ⟨w.heap.size + 1, rfl, newBlk _ _ (((DOp.new 1 0).prog 3 base room).cells (w.heap.size + 1)) 76 (by simp), by omega, ((Only.refl _ _).alloc _).alloc _⟩

theorem dsteal_any (w : World) (hk : kind = 1 ∨ kind = 2 ∨ kind = 3) : Calls Try.prog 21 #[.agg #[.int .i64 kind, .int .i64 base, .int .i64 room]] w (NewD ((DOp.new 2 0).prog kind base room) w) := by
  rcases hk with rfl | rfl | rfl
  · go_enter Try.func21, Try.ntmps21
    go_wp2_with fail
    go_ret
    exact ⟨w.heap.size + 1, rfl, newBlk _ _ (((DOp.new 2 0).prog 1 base room).cells (w.heap.size + 1)) 76 (by simp), by omega, ((Only.refl _ _).alloc _).alloc _⟩
  · go_enter Try.func21, Try.ntmps21
    go_wp2_with fail
    go_ret
    exact ⟨w.heap.size + 1, rfl, newBlk _ _ (((DOp.new 2 0).prog 2 base room).cells (w.heap.size + 1)) 76 (by simp), by omega, ((Only.refl _ _).alloc _).alloc _⟩
  · go_enter Try.func21, Try.ntmps21
    go_wp2_with fail
    go_ret
    exact ⟨w.heap.size + 1, rfl, newBlk _ _ (((DOp.new 2 0).prog 3 base room).cells (w.heap.size + 1)) 76 (by simp), by omega, ((Only.refl _ _).alloc _).alloc _⟩

end
end Go.Proofs.Ytlogmfpnjpamgaa
