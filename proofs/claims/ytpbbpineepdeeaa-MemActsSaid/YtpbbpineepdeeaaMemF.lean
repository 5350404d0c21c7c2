/- Layer 1's laws: what the chapter's example says (awake). -/
import Derived.Test.YtpbbpineepdeeaaMemE
open Go Go.RowKit
namespace Go.Proofs.Ytpbbpineepdeeaa

theorem awake_any (w : World) : Calls Try.prog 14 #[] w fun e w' => e = .returned (.bool true) ∧ Below w.heap.size w w' := by
  have H0 := Lib.hid (new_ok 4 w (by omega))
  have E1 : (MemS.fresh 4).tcode 1 2 true = 0 := by decide
  have F1 : (MemS.fresh 4).turn 1 2 true = ⟨[0, 0, 0, 0], [false, true, true, false], 0⟩ := by kernel_rfl
  have E2 : MemS.code ⟨[0, 0, 0, 0], [false, true, true, false], 0⟩ 1 = 0 := by decide
  have F2 : MemS.store ⟨[0, 0, 0, 0], [false, true, true, false], 0⟩ 1 5 = ⟨[0, 5, 0, 0], [false, true, true, false], 1⟩ := by kernel_rfl
  have E3 : MemS.code ⟨[0, 5, 0, 0], [false, true, true, false], 1⟩ 1 = 0 := by decide
  have E3' : MemS.sum ⟨[0, 5, 0, 0], [false, true, true, false], 1⟩ 1 2 = 7 := by kernel_rfl
  have F3 : MemS.add ⟨[0, 5, 0, 0], [false, true, true, false], 1⟩ 1 2 = ⟨[0, 7, 0, 0], [false, true, true, false], 2⟩ := by kernel_rfl
  have E4 : MemS.code ⟨[0, 7, 0, 0], [false, true, true, false], 2⟩ 0 = 7 := by decide
  go_enter Try.func14, Try.ntmps14
  go_wp2_with fail
  refine H0.out.mono ?_
  rintro e w1 ⟨m, a, b, rfl, hm, h1, h2, h3, ho⟩
  have HM := Lib.hid hm; have HB := Lib.hid ho.nil_below; clear hm ho
  go_wp2_with fail
  refine (live_any m a b _ 1 2 _ HM.out).mono ?_
  rintro e w2 ⟨rfl, hm, ho⟩
  rw [F1] at hm
  have HM2 := Lib.hid hm; have HB2 := Lib.hid (below_only3 HB.out (Nat.le_refl _) ho h1 h2 h3); clear hm ho
  go_wp2_with fail
  refine (store_any m a b _ 1 5 _ HM2.out).mono ?_
  rintro e w3 ⟨rfl, hm, ho⟩
  rw [F2] at hm
  have HM3 := Lib.hid hm; have HB3 := Lib.hid (below_only3 HB2.out (Nat.le_refl _) ho h1 h2 h3); clear hm ho
  go_wp2_with fail
  refine (add_any m a b _ 1 2 _ HM3.out).mono ?_
  rintro e w4 ⟨rfl, hm, ho⟩
  rw [F3] at hm
  have HM4 := Lib.hid hm; have HB4 := Lib.hid (below_only3 HB3.out (Nat.le_refl _) ho h1 h2 h3); clear hm ho
  go_wp2_with fail
  refine (load_any m a b _ 0 _ HM4.out).mono ?_
  rintro e w5 ⟨rfl, hm, ho⟩
  have HB5 := Lib.hid (below_only3 HB4.out (Nat.le_refl _) ho h1 h2 h3); clear hm ho
  go_wp2_with fail
  go_ret
  exact ⟨rfl, HB5.out⟩

end Go.Proofs.Ytpbbpineepdeeaa
