/- MemSwaps returns true, whatever the three numbers are: the walk of the law over the contracts of New, Live, Store, Swap, Load, Steps. -/
import Derived.Test.YtpbbpineepdeeaaMemF
open Go Go.RowKit
namespace Go.Proofs.Ytpbbpineepdeeaa

theorem memSwaps_walk (was x y : Int) (w : World) : Calls Try.prog 7 #[.int .i64 was, .int .i64 x, .int .i64 y] w fun e w' => e = .returned (.bool true) ∧ Below w.heap.size w w' := by
  have H0 := Lib.hid (new_ok 1 w (by omega))
  have E1 : (MemS.fresh 1).tcode 0 1 true = 0 := by decide
  have F1 : (MemS.fresh 1).turn 0 1 true = ⟨[0], [true], 0⟩ := by kernel_rfl
  have E2 : ∀ n k, MemS.code ⟨[n], [true], k⟩ 0 = 0 := by intro n k; simp [MemS.code]
  have F2 : MemS.store ⟨[0], [true], 0⟩ 0 was = ⟨[was], [true], 1⟩ := by simp [MemS.store, E2, MemS.put, MemS.tick]; kernel_rfl
  have E3 : MemS.hit ⟨[was], [true], 1⟩ 0 was = true := by simp [MemS.hit, E2]
  have F3 : MemS.swap ⟨[was], [true], 1⟩ 0 was x = ⟨[x], [true], 2⟩ := by simp [MemS.swap, E2, MemS.put, MemS.tick]; kernel_rfl
  by_cases h : x = was
  · subst h
    have E4 : MemS.hit ⟨[x], [true], 2⟩ 0 x = true := by simp [MemS.hit, E2]
    have F4 : MemS.swap ⟨[x], [true], 2⟩ 0 x y = ⟨[y], [true], 3⟩ := by simp [MemS.swap, E2, MemS.put, MemS.tick]; kernel_rfl
    have E5 : MemS.word ⟨[y], [true], 3⟩ 0 = y := by simp [MemS.word, E2]
    have F5 : MemS.load ⟨[y], [true], 3⟩ 0 = ⟨[y], [true], 4⟩ := by simp [MemS.load, E2, MemS.tick]; kernel_rfl
    go_enter Try.func7, Try.ntmps7
    go_wp2_with fail
    refine H0.out.mono ?_
    rintro e w1 ⟨m, a, b, rfl, hm, h1, h2, h3, ho⟩
    have HM := Lib.hid hm; have HB := Lib.hid ho.nil_below; clear hm ho
    go_wp2_with fail
    refine (live_any m a b _ 0 1 _ HM.out).mono ?_
    rintro e w2 ⟨rfl, hm, ho⟩
    rw [F1] at hm
    have HM2 := Lib.hid hm; have HB2 := Lib.hid (below_only3 HB.out (Nat.le_refl _) ho h1 h2 h3); clear hm ho
    go_wp2_with fail
    refine (store_any m a b _ 0 x _ HM2.out).mono ?_
    rintro e w3 ⟨rfl, hm, ho⟩
    rw [F2] at hm
    have HM3 := Lib.hid hm; have HB3 := Lib.hid (below_only3 HB2.out (Nat.le_refl _) ho h1 h2 h3); clear hm ho
    go_wp2_with fail
    refine (swap_any m a b _ 0 x x _ HM3.out).mono ?_
    rintro e w4 ⟨rfl, hm, ho⟩
    rw [F3] at hm
    have HM4 := Lib.hid hm; have HB4 := Lib.hid (below_only3 HB3.out (Nat.le_refl _) ho h1 h2 h3); clear hm ho
    go_wp2_with fail
    refine (swap_any m a b _ 0 x y _ HM4.out).mono ?_
    rintro e w5 ⟨rfl, hm, ho⟩
    rw [F4] at hm
    have HM5 := Lib.hid hm; have HB5 := Lib.hid (below_only3 HB4.out (Nat.le_refl _) ho h1 h2 h3); clear hm ho
    go_wp2_with fail
    refine (load_any m a b _ 0 _ HM5.out).mono ?_
    rintro e w6 ⟨rfl, hm, ho⟩
    rw [F5] at hm
    have HM6 := Lib.hid hm; have HB6 := Lib.hid (below_only3 HB5.out (Nat.le_refl _) ho h1 h2 h3); clear hm ho
    go_wp2_with fail
    refine (steps_any m a b _ _ HM6.out).mono ?_
    rintro e w7 ⟨rfl, rfl⟩
    go_wp2_with fail
    refine (awake_any _).mono ?_
    rintro e w8 ⟨rfl, hb⟩
    have HB8 := Lib.hid (below_below HB6.out (Nat.le_refl _) hb); clear hb
    go_wp2_with fail
    go_ret
    exact ⟨rfl, HB8.out⟩
  · have hxw : (x == was) = false := by simpa using h
    have E4 : MemS.hit ⟨[x], [true], 2⟩ 0 was = false := by simp [MemS.hit, E2, hxw]
    have F4 : MemS.swap ⟨[x], [true], 2⟩ 0 was y = ⟨[x], [true], 3⟩ := by simp [MemS.swap, E2, MemS.put, MemS.tick, hxw]; kernel_rfl
    have E5 : MemS.word ⟨[x], [true], 3⟩ 0 = x := by simp [MemS.word, E2]
    have F5 : MemS.load ⟨[x], [true], 3⟩ 0 = ⟨[x], [true], 4⟩ := by simp [MemS.load, E2, MemS.tick]; kernel_rfl
    clear h
    go_enter Try.func7, Try.ntmps7
    go_wp2_with fail
    refine H0.out.mono ?_
    rintro e w1 ⟨m, a, b, rfl, hm, h1, h2, h3, ho⟩
    have HM := Lib.hid hm; have HB := Lib.hid ho.nil_below; clear hm ho
    go_wp2_with fail
    refine (live_any m a b _ 0 1 _ HM.out).mono ?_
    rintro e w2 ⟨rfl, hm, ho⟩
    rw [F1] at hm
    have HM2 := Lib.hid hm; have HB2 := Lib.hid (below_only3 HB.out (Nat.le_refl _) ho h1 h2 h3); clear hm ho
    go_wp2_with fail
    refine (store_any m a b _ 0 was _ HM2.out).mono ?_
    rintro e w3 ⟨rfl, hm, ho⟩
    rw [F2] at hm
    have HM3 := Lib.hid hm; have HB3 := Lib.hid (below_only3 HB2.out (Nat.le_refl _) ho h1 h2 h3); clear hm ho
    go_wp2_with fail
    refine (swap_any m a b _ 0 was x _ HM3.out).mono ?_
    rintro e w4 ⟨rfl, hm, ho⟩
    rw [F3] at hm
    have HM4 := Lib.hid hm; have HB4 := Lib.hid (below_only3 HB3.out (Nat.le_refl _) ho h1 h2 h3); clear hm ho
    go_wp2_with fail
    refine (swap_any m a b _ 0 was y _ HM4.out).mono ?_
    rintro e w5 ⟨rfl, hm, ho⟩
    rw [F4] at hm
    have HM5 := Lib.hid hm; have HB5 := Lib.hid (below_only3 HB4.out (Nat.le_refl _) ho h1 h2 h3); clear hm ho
    go_wp2_with fail
    refine (load_any m a b _ 0 _ HM5.out).mono ?_
    rintro e w6 ⟨rfl, hm, ho⟩
    rw [F5] at hm
    have HM6 := Lib.hid hm; have HB6 := Lib.hid (below_only3 HB5.out (Nat.le_refl _) ho h1 h2 h3); clear hm ho
    go_wp2_with fail
    refine (steps_any m a b _ _ HM6.out).mono ?_
    rintro e w7 ⟨rfl, rfl⟩
    go_wp2_with fail
    refine (awake_any _).mono ?_
    rintro e w8 ⟨rfl, hb⟩
    have HB8 := Lib.hid (below_below HB6.out (Nat.le_refl _) hb); clear hb
    go_wp2_with fail
    go_ret
    exact ⟨rfl, HB8.out⟩

end Go.Proofs.Ytpbbpineepdeeaa
