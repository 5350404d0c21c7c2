/- Layer 9: an operation that is run to its end; New. -/
import Derived.Test.YtlogmfpnjpamgaaDeqN
open Go Go.RowKit
namespace Go.Proofs.Ytlogmfpnjpamgaa

/-- At most k moves, till it has ended. -/
def DOp.runN (kind room : Nat) : Nat → Dq → DOp → DOp × Dq
  | 0, D, o => (o, D)
  | k + 1, D, o => if (o.step kind room D).1.ended = true then o.step kind room D else DOp.runN kind room k (o.step kind room D).2 (o.step kind room D).1

theorem runN_ended {kind room k : Nat} {D : Dq} {o : DOp} (h : (o.step kind room D).1.ended = true) : DOp.runN kind room (k + 1) D o = o.step kind room D := by rw [DOp.runN, if_pos h]
theorem runN_goes {kind room k : Nat} {D : Dq} {o : DOp} (h : (o.step kind room D).1.ended = false) : DOp.runN kind room (k + 1) D o = DOp.runN kind room k (o.step kind room D).2 (o.step kind room D).1 := by rw [DOp.runN, if_neg (by rw [h]; simp)]

theorem runN_ok (kind room : Nat) (hk : kind = 1 ∨ kind = 2 ∨ kind = 3) (hr : room ≤ 1000) : ∀ (k N : Nat) (D : Dq) (o : DOp), DqOk kind room N D → o.Ok kind room N → (o.runN kind room k D).1.Ok kind room (N + k) ∧ DqOk kind room (N + k) (o.runN kind room k D).2 := by
  intro k
  induction k with
  | zero => intro N D o hD ho; exact ⟨ho, hD⟩
  | succ k ih =>
    intro N D o hD ho
    obtain ⟨h1, h2⟩ := step_ok kind room N D o hk hr hD ho
    rw [DOp.runN]
    split
    · exact ⟨h1.mono (by omega), h2.mono (by omega)⟩
    · have := ih (N + 1) _ _ h2 h1
      rw [show N + (k + 1) = N + 1 + k by omega]
      exact this

section
variable {w0 w : World} {o m a b : Nat} {D : Dq} {kind base room N : Nat}

structure RunRel (L : Nat) (w0 wr : World) (o m a b kind base room N : Nat) (D : Dq) (s : DOp) (k : Nat) : Prop where
  ex : ∃ (s' : DOp) (D' : Dq), HW w0 wr o m a b (s'.prog kind base room) D' ∧ DqOk kind room (N + k) D' ∧ s'.Ok kind room (N + k) ∧ s'.runN kind room (L - k) D' = s.runN kind room L D

theorem run_any (s : DOp) (h : HW w0 w o m a b (s.prog kind base room) D) (hk : kind = 1 ∨ kind = 2 ∨ kind = 3) (hD : DqOk kind room N D) (ho : s.Ok kind room N) (hN : N ≤ 900000) :
    Calls Try.prog 18 #[.pointer (some ⟨m, 0, none⟩), .pointer (some ⟨o, 0, none⟩)] w (HPost w0 o m a b (((s.runN kind room 20 D).1.prog kind base room).tells) ((s.runN kind room 20 D).1.prog kind base room) (s.runN kind room 20 D).2) := by
  have hroom : room ≤ 1000 := h.h.hroom.2
  have R0 : RunRel 20 w0 w o m a b kind base room N D s 0 := ⟨s, D, h, hD, ho, rfl⟩
  have HK := Lib.hid hk
  clear h hD ho hk
  go_enter Try.func18, Try.ntmps18
  go_wp2_with fail
  go_loopw [6] (fun i wr => ∃ k : Nat, k ≤ 20 ∧ i = .int .i64 k ∧ RunRel 20 w0 wr o m a b kind base room N D s k) (fun i _ => 20 - (intOf i).toNat)
  case atStart => exact ⟨0, by omega, rfl, R0⟩
  case round =>
    obtain ⟨k, hk, rfl, ⟨s', D', hh, hD', ho', he'⟩⟩ := hrel
    clear R0
    by_cases hlt : k < 20
    · have C := dmove_any s' hh HK.out hD' ho' (by omega)
      obtain ⟨n, hn⟩ : ∃ n, 20 - k = n + 1 := ⟨19 - k, by omega⟩
      have hok := step_ok kind room (N + k) D' s' HK.out hroom hD' ho'
      rw [hn] at he'
      by_cases hend : (s'.step kind room D').1.ended = true
      · rw [hend] at C
        rw [runN_ended hend] at he'
        have HR := Lib.hid he'
        have HC := Lib.hid C; have HE := Lib.hid hend; clear C hend he' hh hD' ho' hok hn
        go_wp2_with (go_at_call 22; refine HC.out.mono ?_; rintro e w1 ⟨rfl, h1⟩; have H1 := Lib.hid h1; clear h1)
        refine (dend_op H1.out).mono ?_
        rintro e w2 ⟨rfl, h2⟩
        have H2 := Lib.hid h2; clear h2
        unfold OpD.tells
        go_wp2_with fail
        go_ret2
        exact ⟨by rw [← HR.out]; rfl, by rw [← HR.out]; exact H2.out⟩
      · have hend := eq_false_of_ne_true hend
        rw [hend] at C
        rw [runN_goes hend] at he'
        have HC := Lib.hid C; have HR := Lib.hid he'; have HO := Lib.hid hok; clear C hend he' hh hD' ho' hok
        go_wp2_with (go_at_call 22; refine HC.out.mono ?_; rintro e w1 ⟨rfl, h1⟩; have H1 := Lib.hid h1; clear h1)
        go_roundw
        case rel =>
          refine ⟨k + 1, by omega, by go_num, ⟨_, _, H1.out, HO.out.2, HO.out.1, ?_⟩⟩
          rw [show 20 - (k + 1) = n by omega]
          exact HR.out
        case measure => simp [intOf]; omega
    · obtain rfl : k = 20 := by omega
      rw [show 20 - 20 = 0 from rfl, DOp.runN] at he'
      have HR := Lib.hid he'
      have H1 := Lib.hid hh; clear he' hh hD' ho'
      go_wp2_with fail
      refine (dend_op H1.out).mono ?_
      rintro e w2 ⟨rfl, h2⟩
      have H2 := Lib.hid h2; clear h2
      unfold OpD.tells
      go_wp2_with fail
      go_ret2
      exact ⟨by rw [← HR.out]; rfl, by rw [← HR.out]; exact H2.out⟩

theorem words_in (room : Nat) (w : World) (h1 : 1 ≤ room) (h2 : room ≤ 1000) : Calls Try.prog 12 #[.int .i64 room] w fun e w' => e = .returned (.int .i64 ((2 + room : Nat) : Int)) ∧ w = w' := by
  go_enter Try.func12, Try.ntmps12
  go_wp2_with fail
  go_ret
  exact ⟨rfl, rfl⟩

theorem words_out (room : Int) (w : World) (h : room < 1 ∨ 1000 < room) : Calls Try.prog 12 #[.int .i64 room] w fun e w' => e = .returned (.int .i64 0) ∧ w = w' := by
  rcases h with h | h
  · go_enter Try.func12, Try.ntmps12
    go_wp2_with fail
    go_ret
    exact ⟨rfl, rfl⟩
  · have h' : ¬ room < 1 := by omega
    go_enter Try.func12, Try.ntmps12
    go_wp2_with fail
    go_ret
    exact ⟨rfl, rfl⟩

end
end Go.Proofs.Ytlogmfpnjpamgaa
