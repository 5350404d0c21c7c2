/- MemNew returns true, whatever the number of words asked for and the place are. -/
import Derived.Test.YtpbbpineepdeeaaMemG
open Go Go.RowKit
namespace Go.Proofs.Ytpbbpineepdeeaa

theorem load_nil (at_ : Int) (w : World) : Calls Try.prog 13 #[.pointer none, .int .i64 at_] w fun e w' => e = .returned (.tuple #[.int .i64 0, .int .i64 11]) ∧ Below w.heap.size w w' := by
  have H : Hid (∀ f w3, Calls Try.prog 23 #[.pointer none, .int .i64 at_, f] w3 fun e w' => e = .returned (.int .i64 11) ∧ w3 = w') := fun f w3 => step_nil _ f w3
  go_enter Try.func13, Try.ntmps13
  go_wp2_with (go_at_call 23; refine (H.out _ _).mono ?_; rintro e w1 ⟨rfl, rfl⟩)
  exact bodyPost_ret (v := .tuple #[.int .i64 0, .int .i64 11]) (by simp [results, Try.results13, go_sem]) rfl ⟨rfl, (Below.refl _ _).alloc (Nat.le_refl _) _⟩

theorem store_nil (at_ n : Int) (w : World) : Calls Try.prog 12 #[.pointer none, .int .i64 at_, .int .i64 n] w fun e w' => e = .returned (.int .i64 11) ∧ Below w.heap.size w w' := by
  have H : Hid (∀ f w3, Calls Try.prog 23 #[.pointer none, .int .i64 at_, f] w3 fun e w' => e = .returned (.int .i64 11) ∧ w3 = w') := fun f w3 => step_nil _ f w3
  go_enter Try.func12, Try.ntmps12
  go_wp2_with (go_at_call 23; refine (H.out _ _).mono ?_; rintro e w1 ⟨rfl, rfl⟩)
  go_ret
  exact ⟨rfl, (Below.refl _ _).alloc (Nat.le_refl _) _⟩

theorem swap_nil (at_ was n : Int) (w : World) : Calls Try.prog 18 #[.pointer none, .int .i64 at_, .int .i64 was, .int .i64 n] w fun e w' => e = .returned (.tuple #[.bool false, .int .i64 11]) ∧ Below w.heap.size w w' := by
  have H : Hid (∀ f w3, Calls Try.prog 23 #[.pointer none, .int .i64 at_, f] w3 fun e w' => e = .returned (.int .i64 11) ∧ w3 = w') := fun f w3 => step_nil _ f w3
  go_enter Try.func18, Try.ntmps18
  go_wp2_with (go_at_call 23; refine (H.out _ _).mono ?_; rintro e w1 ⟨rfl, rfl⟩)
  exact bodyPost_ret (v := .tuple #[.bool false, .int .i64 11]) (by simp [results, Try.results18, go_sem]) rfl ⟨rfl, (((Below.refl _ _).alloc (Nat.le_refl _) _).alloc (by simp) _).alloc (by simp; omega) _⟩

theorem add_nil (at_ n : Int) (w : World) : Calls Try.prog 16 #[.pointer none, .int .i64 at_, .int .i64 n] w fun e w' => e = .returned (.tuple #[.int .i64 0, .int .i64 11]) ∧ Below w.heap.size w w' := by
  have H : Hid (∀ f w3, Calls Try.prog 23 #[.pointer none, .int .i64 at_, f] w3 fun e w' => e = .returned (.int .i64 11) ∧ w3 = w') := fun f w3 => step_nil _ f w3
  go_enter Try.func16, Try.ntmps16
  go_wp2_with (go_at_call 23; refine (H.out _ _).mono ?_; rintro e w1 ⟨rfl, rfl⟩)
  exact bodyPost_ret (v := .tuple #[.int .i64 0, .int .i64 11]) (by simp [results, Try.results16, go_sem]) rfl ⟨rfl, ((Below.refl _ _).alloc (Nat.le_refl _) _).alloc (by simp) _⟩

theorem live_nil (at_ n : Int) (w : World) : Calls Try.prog 11 #[.pointer none, .int .i64 at_, .int .i64 n] w fun e w' => e = .returned (.int .i64 11) ∧ w = w' := by
  have H := Lib.hid (turn_nil at_ n true w)
  go_enter Try.func11, Try.ntmps11
  go_wp2_with (go_at_call 22; refine H.out.mono ?_; rintro e w1 ⟨rfl, rfl⟩)
  go_ret
  exact ⟨rfl, rfl⟩

theorem free_nil (at_ n : Int) (w : World) : Calls Try.prog 15 #[.pointer none, .int .i64 at_, .int .i64 n] w fun e w' => e = .returned (.int .i64 11) ∧ w = w' := by
  have H := Lib.hid (turn_nil at_ n false w)
  go_enter Try.func15, Try.ntmps15
  go_wp2_with (go_at_call 22; refine H.out.mono ?_; rintro e w1 ⟨rfl, rfl⟩)
  go_ret
  exact ⟨rfl, rfl⟩

theorem steps_nil (w : World) : Calls Try.prog 17 #[.pointer none] w fun e w' => e = .returned (.int .i64 0) ∧ w = w' := by
  go_enter Try.func17, Try.ntmps17
  go_wp2
  go_ret
  exact ⟨rfl, rfl⟩

theorem words_nil (w : World) : Calls Try.prog 20 #[.pointer none] w fun e w' => e = .returned (.int .i64 0) ∧ w = w' := by
  go_enter Try.func20, Try.ntmps20
  go_wp2
  go_ret
  exact ⟨rfl, rfl⟩

theorem memNew_skip (n x : Int) (w : World) (h : 64536 < n ∧ n < 65536 ∨ 10000 < n ∧ n ≤ 65536) : Calls Try.prog 9 #[.int .i64 n, .int .i64 x] w fun e w' => e = .returned (.bool true) ∧ Below w.heap.size w w' := by
  rcases h with ⟨h1, h2⟩ | ⟨h1, h2⟩
  · go_enter Try.func9, Try.ntmps9
    go_wp2_with fail
    go_ret
    exact ⟨rfl, Below.refl _ _⟩
  · by_cases h3 : 64536 < n
    · by_cases h4 : n < 65536
      all_goals
        go_enter Try.func9, Try.ntmps9
        go_wp2_with fail
        go_ret
        exact ⟨rfl, Below.refl _ _⟩
    · go_enter Try.func9, Try.ntmps9
      go_wp2_with fail
      go_ret
      exact ⟨rfl, Below.refl _ _⟩

theorem memNew_good (n : Nat) (x : Int) (w : World) (h : n ≤ 10000) : Calls Try.prog 9 #[.int .i64 n, .int .i64 x] w fun e w' => e = .returned (.bool true) ∧ Below w.heap.size w w' := by
  have H0 := Lib.hid (new_ok n w (by omega))
  go_enter Try.func9, Try.ntmps9
  go_wp2_with fail
  refine H0.out.mono ?_
  rintro e w1 ⟨m, a, b, rfl, hm, h1, h2, h3, ho⟩
  have HM1 := Lib.hid hm; have HB1 := Lib.hid ho.nil_below; clear hm ho
  go_wp2_with fail
  refine (load_nil _ _).mono ?_
  rintro e w2 ⟨rfl, hb⟩
  have HB2 := Lib.hid (below_below HB1.out (Nat.le_refl _) hb); clear hb
  go_wp2_with fail
  refine (swap_nil _ _ _ _).mono ?_
  rintro e w3 ⟨rfl, hb⟩
  have HB3 := Lib.hid (below_below HB2.out (Nat.le_refl _) hb); clear hb
  go_wp2_with fail
  refine (add_nil _ _ _).mono ?_
  rintro e w4 ⟨rfl, hb⟩
  have HB4 := Lib.hid (below_below HB3.out (Nat.le_refl _) hb); clear hb
  go_wp2_with fail
  refine (words_nil _).mono ?_
  rintro e wy ⟨rfl, rfl⟩
  go_wp2_with fail
  refine (steps_nil _).mono ?_
  rintro e wy ⟨rfl, rfl⟩
  go_wp2_with fail
  refine (store_nil _ _ _).mono ?_
  rintro e w5 ⟨rfl, hb⟩
  have HB5 := Lib.hid (below_below HB4.out (Nat.le_refl _) hb); clear hb
  go_wp2_with fail
  refine (live_nil _ _ _).mono ?_
  rintro e wy ⟨rfl, rfl⟩
  go_wp2_with fail
  refine (free_nil _ _ _).mono ?_
  rintro e wy ⟨rfl, rfl⟩
  go_wp2_with fail
  refine (awake_any _).mono ?_
  rintro e wz ⟨rfl, hb⟩
  have HBz := Lib.hid (below_below HB5.out (Nat.le_refl _) hb); clear hb
  go_wp2_with fail
  go_ret
  exact ⟨rfl, HBz.out⟩

theorem memNew_bad (n x : Int) (w : World) (h : n < 0 ∨ 65536 < n) : Calls Try.prog 9 #[.int .i64 n, .int .i64 x] w fun e w' => e = .returned (.bool true) ∧ Below w.heap.size w w' := by
  have H0 := Lib.hid (new_bad n w h)
  have HB1 := Lib.hid (Below.refl w.heap.size w)
  rcases h with h | h
  · go_enter Try.func9, Try.ntmps9
    go_wp2_with fail
    refine (H0.out).mono ?_
    rintro e wy ⟨rfl, rfl⟩
    go_wp2_with fail
    refine (load_nil _ _).mono ?_
    rintro e w2 ⟨rfl, hb⟩
    have HB2 := Lib.hid (below_below HB1.out (Nat.le_refl _) hb); clear hb
    go_wp2_with fail
    refine (swap_nil _ _ _ _).mono ?_
    rintro e w3 ⟨rfl, hb⟩
    have HB3 := Lib.hid (below_below HB2.out (Nat.le_refl _) hb); clear hb
    go_wp2_with fail
    refine (add_nil _ _ _).mono ?_
    rintro e w4 ⟨rfl, hb⟩
    have HB4 := Lib.hid (below_below HB3.out (Nat.le_refl _) hb); clear hb
    go_wp2_with fail
    refine (words_nil _).mono ?_
    rintro e wy ⟨rfl, rfl⟩
    go_wp2_with fail
    refine (steps_nil _).mono ?_
    rintro e wy ⟨rfl, rfl⟩
    go_wp2_with fail
    refine (store_nil _ _ _).mono ?_
    rintro e w5 ⟨rfl, hb⟩
    have HB5 := Lib.hid (below_below HB4.out (Nat.le_refl _) hb); clear hb
    go_wp2_with fail
    refine (live_nil _ _ _).mono ?_
    rintro e wy ⟨rfl, rfl⟩
    go_wp2_with fail
    refine (free_nil _ _ _).mono ?_
    rintro e wy ⟨rfl, rfl⟩
    go_wp2_with fail
    refine (awake_any _).mono ?_
    rintro e wz ⟨rfl, hb⟩
    have HBz := Lib.hid (below_below HB5.out (Nat.le_refl _) hb); clear hb
    go_wp2_with fail
    go_ret
    exact ⟨rfl, HBz.out⟩
  · have h0 : ¬ n < 0 := by omega
    have h4 : ¬ n < 65536 := by omega
    go_enter Try.func9, Try.ntmps9
    go_wp2_with fail
    refine (H0.out).mono ?_
    rintro e wy ⟨rfl, rfl⟩
    go_wp2_with fail
    refine (load_nil _ _).mono ?_
    rintro e w2 ⟨rfl, hb⟩
    have HB2 := Lib.hid (below_below HB1.out (Nat.le_refl _) hb); clear hb
    go_wp2_with fail
    refine (swap_nil _ _ _ _).mono ?_
    rintro e w3 ⟨rfl, hb⟩
    have HB3 := Lib.hid (below_below HB2.out (Nat.le_refl _) hb); clear hb
    go_wp2_with fail
    refine (add_nil _ _ _).mono ?_
    rintro e w4 ⟨rfl, hb⟩
    have HB4 := Lib.hid (below_below HB3.out (Nat.le_refl _) hb); clear hb
    go_wp2_with fail
    refine (words_nil _).mono ?_
    rintro e wy ⟨rfl, rfl⟩
    go_wp2_with fail
    refine (steps_nil _).mono ?_
    rintro e wy ⟨rfl, rfl⟩
    go_wp2_with fail
    refine (store_nil _ _ _).mono ?_
    rintro e w5 ⟨rfl, hb⟩
    have HB5 := Lib.hid (below_below HB4.out (Nat.le_refl _) hb); clear hb
    go_wp2_with fail
    refine (live_nil _ _ _).mono ?_
    rintro e wy ⟨rfl, rfl⟩
    go_wp2_with fail
    refine (free_nil _ _ _).mono ?_
    rintro e wy ⟨rfl, rfl⟩
    go_wp2_with fail
    refine (awake_any _).mono ?_
    rintro e wz ⟨rfl, hb⟩
    have HBz := Lib.hid (below_below HB5.out (Nat.le_refl _) hb); clear hb
    go_wp2_with fail
    go_ret
    exact ⟨rfl, HBz.out⟩

theorem memNew_walk (n x : Int) (w : World) : Calls Try.prog 9 #[.int .i64 n, .int .i64 x] w fun e w' => e = .returned (.bool true) ∧ Below w.heap.size w w' := by
  by_cases h1 : 64536 < n ∧ n < 65536 ∨ 10000 < n ∧ n ≤ 65536
  · exact memNew_skip n x w h1
  · by_cases h2 : n < 0 ∨ 65536 < n
    · exact memNew_bad n x w h2
    · obtain ⟨k, rfl⟩ : ∃ k : Nat, n = k := ⟨n.toNat, by omega⟩
      exact memNew_good k x w (by omega)

end Go.Proofs.Ytpbbpineepdeeaa
