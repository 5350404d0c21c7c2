/- Layer 13: Move, End, At, Wait, Fill. -/
import Derived.Test.YtglifjecihmbhaaCellB
open Go Go.RowKit
namespace Go.Proofs.Ytglifjecihmbhaa

/-- What a move's error does to an operation. -/
def OpS.fin (c : Int) (s : OpS) : OpS := if c = 0 then s else { s with waits := false, value := 0, why := 0, first := 0, ended := true, fault := c }

/-- A move that is done: its error's number, the operation and the memory behind it. -/
def OpS.run (s : OpS) (t : MemS) : Int × OpS × MemS :=
  if s.next = 22 then (t.code s.base, s.look t, t.load s.base)
  else if s.next = 26 then (t.code s.link, s.tie, t.store s.link s.h)
  else if s.next = 31 then (t.code s.base, s.queue t, t.swap s.base s.h s.x)
  else if s.next = 27 then (t.code (s.base + 1), s.told t, t.load (s.base + 1))
  else if s.next = 32 then (t.code (s.base + 2), s.whyS t, t.load (s.base + 2))
  else if s.next = 23 then (t.code (s.base + 1), s.val, t.store (s.base + 1) s.value)
  else if s.next = 28 then (t.code (s.base + 2), s.reason, t.store (s.base + 2) s.why)
  else if s.next = 33 then (t.code s.base, s.head t, t.load s.base)
  else (t.code s.base, s.close t, t.swap s.base s.h (-1))

def OpS.move (s : OpS) (t : MemS) : OpS × MemS := if s.ended = true then (s, t) else (OpS.fin (s.run t).1 (s.run t).2.1, (s.run t).2.2)

/-- Is it an operation's method? -/
def OpS.right (s : OpS) : Prop := (s.next = 22 ∨ s.next = 26 ∨ s.next = 31 ∨ s.next = 27 ∨ s.next = 32 ∨ s.next = 23 ∨ s.next = 28 ∨ s.next = 33 ∨ s.next = 37) ∧ 0 ≤ s.base ∧ s.base ≤ 1000000

theorem cmove_gen (o m a b : Nat) (s s' : OpS) (t t' : MemS) (c : Int) (w : World) (h : HasOp w o m a b s t) (he : s.ended = false)
    (hcf : ∀ args w, Sem.run Try.prog (callFunc s.next args) w = .ok (.enter s.next args) w) (hc : Calls Try.prog s.next #[.pointer (some ⟨o, 0, none⟩), .pointer (some ⟨m, 0, none⟩)] w (CPost w o m a b c s' t')) :
    Calls Try.prog 17 #[.pointer (some ⟨o, 0, none⟩), .pointer (some ⟨m, 0, none⟩)] w fun e w' => e = .returned (.bool (OpS.fin c s').ended) ∧ HasOp w' o m a b (OpS.fin c s') t' ∧ Only [o, m, a, b] w w' := by
  obtain ⟨c0, c1, c2, c3, c4, c5, c6, c7, c8, c9, c10⟩ := h.cells
  rw [he] at c9
  have HC := Lib.hid hc
  have HE := Lib.hid he
  clear h hc he c0 c1 c2 c3 c4 c5 c6 c7 c10
  by_cases h0 : c = 0
  · subst h0
    go_enter Try.func17, Try.ntmps17
    go_wp2_with (refine HC.out.mono ?_; rintro e w1 ⟨rfl, h1, h2⟩; have d9 := h1.op.cell 9; simp [OpS.cells] at d9; have H1 := Lib.hid h1; have HO := Lib.hid h2; clear h1 h2)
    go_ret
    exact ⟨rfl, H1.out, HO.out⟩
  · have h0' : (c == 0) = false := by simpa using h0
    have H0 := Lib.hid h0
    clear h0
    go_enter Try.func17, Try.ntmps17
    go_wp2_with (refine HC.out.mono ?_; rintro e w1 ⟨rfl, h1, h2⟩; have d4 := h1.op.cell 4; have f4 := h1.op.free 4; have d5 := h1.op.cell 5; have f5 := h1.op.free 5; have d6 := h1.op.cell 6; have f6 := h1.op.free 6; have d7 := h1.op.cell 7; have f7 := h1.op.free 7; have d9 := h1.op.cell 9; have f9 := h1.op.free 9; have d10 := h1.op.cell 10; have f10 := h1.op.free 10; simp [OpS.cells] at d4 d5 d6 d7 d9 d10; have H1 := Lib.hid h1; have HO := Lib.hid h2; clear h1 h2)
    go_ret
    have e1 : OpS.fin c s' = { s' with waits := false, value := 0, why := 0, first := 0, ended := true, fault := c } := by rw [OpS.fin, if_neg H0.out]
    rw [e1]
    exact ⟨rfl, (((((H1.out.set (s' := { s' with waits := false }) 4 _ rfl).set (s' := { s' with waits := false, value := 0 }) 5 _ rfl).set (s' := { s' with waits := false, value := 0, why := 0 }) 6 _ rfl).set (s' := { s' with waits := false, value := 0, why := 0, first := 0 }) 7 _ rfl).set (s' := { s' with waits := false, value := 0, why := 0, first := 0, ended := true }) 9 _ rfl).set 10 _ rfl,
      (((((HO.out.setCell (by simp) _).setCell (by simp) _).setCell (by simp) _).setCell (by simp) _).setCell (by simp) _).setCell (by simp) _⟩

theorem cmove_ended (o m a b : Nat) (s : OpS) (t : MemS) (w : World) (h : HasOp w o m a b s t) (he : s.ended = true) :
    Calls Try.prog 17 #[.pointer (some ⟨o, 0, none⟩), .pointer (some ⟨m, 0, none⟩)] w fun e w' => e = .returned (.bool true) ∧ w = w' := by
  obtain ⟨c0, c1, c2, c3, c4, c5, c6, c7, c8, c9, c10⟩ := h.cells
  rw [he] at c9
  clear h he c0 c1 c2 c3 c4 c5 c6 c7 c8 c10
  go_enter Try.func17, Try.ntmps17
  go_wp2_with fail
  go_ret
  exact ⟨rfl, rfl⟩

theorem enters_clook (args : Array Value) (w : World) : Sem.run Try.prog (callFunc 22 args) w = .ok (.enter 22 args) w := by kernel_rfl
theorem enters_ctie (args : Array Value) (w : World) : Sem.run Try.prog (callFunc 26 args) w = .ok (.enter 26 args) w := by kernel_rfl
theorem enters_cqueue (args : Array Value) (w : World) : Sem.run Try.prog (callFunc 31 args) w = .ok (.enter 31 args) w := by kernel_rfl
theorem enters_ctold (args : Array Value) (w : World) : Sem.run Try.prog (callFunc 27 args) w = .ok (.enter 27 args) w := by kernel_rfl
theorem enters_cwhy (args : Array Value) (w : World) : Sem.run Try.prog (callFunc 32 args) w = .ok (.enter 32 args) w := by kernel_rfl
theorem enters_cvalue (args : Array Value) (w : World) : Sem.run Try.prog (callFunc 23 args) w = .ok (.enter 23 args) w := by kernel_rfl
theorem enters_creason (args : Array Value) (w : World) : Sem.run Try.prog (callFunc 28 args) w = .ok (.enter 28 args) w := by kernel_rfl
theorem enters_chead (args : Array Value) (w : World) : Sem.run Try.prog (callFunc 33 args) w = .ok (.enter 33 args) w := by kernel_rfl
theorem enters_cclose (args : Array Value) (w : World) : Sem.run Try.prog (callFunc 37 args) w = .ok (.enter 37 args) w := by kernel_rfl

theorem cmove_any (o m a b : Nat) (s : OpS) (t : MemS) (w : World) (h : HasOp w o m a b s t) (hr : s.right) :
    Calls Try.prog 17 #[.pointer (some ⟨o, 0, none⟩), .pointer (some ⟨m, 0, none⟩)] w fun e w' => e = .returned (.bool (s.move t).1.ended) ∧ HasOp w' o m a b (s.move t).1 (s.move t).2 ∧ Only [o, m, a, b] w w' := by
  by_cases he : s.ended = true
  · refine (cmove_ended o m a b s t w h he).mono ?_
    rintro e w' ⟨rfl, rfl⟩
    rw [OpS.move, if_pos he]
    exact ⟨by rw [he], h, Only.refl _ _⟩
  · have hf : s.ended = false := eq_false_of_ne_true he
    rw [OpS.move, if_neg he]
    obtain ⟨base, x, link, hd, waits, value, why, first, next, ended, fault⟩ := s
    obtain ⟨hn, hb, hb2⟩ := hr
    rcases hn with hn | hn | hn | hn | hn | hn | hn | hn | hn
    all_goals (simp only at hn; subst hn)
    · exact cmove_gen o m a b _ _ t _ _ w h hf enters_clook (clook_any o m a b _ t w h)
    · exact cmove_gen o m a b _ _ t _ _ w h hf enters_ctie (ctie_any o m a b _ t w h)
    · exact cmove_gen o m a b _ _ t _ _ w h hf enters_cqueue (cqueue_any o m a b _ t w h)
    · exact cmove_gen o m a b _ _ t _ _ w h hf enters_ctold (ctold_any o m a b _ t w h hb hb2)
    · exact cmove_gen o m a b _ _ t _ _ w h hf enters_cwhy (cwhy_any o m a b _ t w h hb hb2)
    · exact cmove_gen o m a b _ _ t _ _ w h hf enters_cvalue (cvalue_any o m a b _ t w h hb hb2)
    · exact cmove_gen o m a b _ _ t _ _ w h hf enters_creason (creason_any o m a b _ t w h hb hb2)
    · exact cmove_gen o m a b _ _ t _ _ w h hf enters_chead (chead_any o m a b _ t w h)
    · exact cmove_gen o m a b _ _ t _ _ w h hf enters_cclose (cclose_any o m a b _ t w h)

theorem cmove_nil (v : Value) (w : World) : Calls Try.prog 17 #[.pointer none, v] w fun e w' => e = .returned (.bool true) ∧ w = w' := by
  go_enter Try.func17, Try.ntmps17
  go_wp2_with fail
  go_ret
  exact ⟨rfl, rfl⟩

end Go.Proofs.Ytglifjecihmbhaa
