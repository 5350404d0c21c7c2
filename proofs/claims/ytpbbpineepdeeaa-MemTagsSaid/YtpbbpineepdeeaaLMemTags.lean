/- MemTags returns true, whatever the place, the number of words and the number stored are. -/
import Derived.Test.YtpbbpineepdeeaaMemG
open Go Go.RowKit
namespace Go.Proofs.Ytpbbpineepdeeaa

theorem memTags_core (i y : Nat) (was : Int) (w : World) (hi : i ≤ 255) (hy1 : y ≤ 255) : Calls Try.prog 4 #[.int .u8 i, .int .u8 y, .int .i64 was] w fun e w' => e = .returned (.bool true) ∧ Below w.heap.size w w' := by
  have H0 := Lib.hid (new_ok 600 w (by omega))
  obtain ⟨k, hy⟩ : ∃ k : Nat, (y : Int) % 100 + 1 = k := ⟨y % 100 + 1, by omega⟩
  have hk : 1 ≤ k := by omega
  have hk2 : k ≤ 100 := by omega
  obtain ⟨s0, hs0⟩ : ∃ s, s = MemS.fresh 600 := ⟨_, rfl⟩
  have l0 : s0.live.length = s0.words.length := by rw [hs0]; exact MemS.fresh_len _
  have n0 : s0.words.length = 600 := by rw [hs0]; exact MemS.fresh_words _
  have v0 : ∀ j, s0.live.getD j false = false := by intro j; rw [hs0]; exact MemS.fresh_live _ _
  have E1 : s0.tcode i k false = 11 := MemS.tcode_eleven l0 (by omega) (Nat.le_refl i) (by omega) (v0 _)
  have F1 : s0.turn i k false = s0 := MemS.turn_ne (by rw [E1]; decide)
  have E2 : s0.tcode i k true = 0 := MemS.tcode_zero l0 (by omega) (fun j _ _ => by rw [v0]; decide)
  obtain ⟨s1, hs1⟩ : ∃ s, s = s0.fill i true k := ⟨_, rfl⟩
  have F2 : s0.turn i k true = s1 := by rw [hs1]; exact MemS.turn_eq E2
  have l1 : s1.live.length = s1.words.length := by rw [hs1]; exact MemS.fill_len _ _ _ _ l0
  have n1 : s1.words.length = 600 := by rw [hs1, MemS.fill_words]; exact n0
  have v1 : ∀ j, s1.live.getD j false = decide (i ≤ j ∧ j < i + k) := by
    intro j; rw [hs1, MemS.fill_live _ _ _ _ _ (by omega), v0]; by_cases h : i ≤ j ∧ j < i + k <;> simp [h]
  have E3 : s1.tcode ((i + k - 1 : Nat) : Int) ((1 : Nat) : Int) true = 11 := MemS.tcode_eleven (j := i + k - 1) l1 (by omega) (Nat.le_refl _) (by omega) (by rw [v1]; simp; omega)
  have F3 : s1.turn ((i + k - 1 : Nat) : Int) ((1 : Nat) : Int) true = s1 := MemS.turn_ne (by rw [E3]; decide)
  have E4 : s1.code i = 0 := MemS.code_at (by omega) (by rw [v1]; simp; omega)
  obtain ⟨s2, hs2⟩ : ∃ s, s = s1.store i was := ⟨_, rfl⟩
  have e2 : s2 = (s1.put i was).tick := by rw [hs2, MemS.store, if_pos E4]
  have l2 : s2.live.length = s2.words.length := by rw [e2]; simpa [MemS.put, MemS.tick] using l1
  have n2 : s2.words.length = 600 := by rw [e2]; simpa [MemS.put, MemS.tick] using n1
  have v2 : ∀ j, s2.live.getD j false = decide (i ≤ j ∧ j < i + k) := by intro j; rw [e2]; exact v1 j
  have E5 : s2.tcode i ((k + 1 : Nat) : Int) false = 11 := MemS.tcode_eleven (j := i + k) l2 (by omega) (by omega) (by omega) (by rw [v2]; simp)
  have F5 : s2.turn i ((k + 1 : Nat) : Int) false = s2 := MemS.turn_ne (by rw [E5]; decide)
  have E6 : s2.tcode i k false = 0 := MemS.tcode_zero l2 (by omega) (fun j h1 h2 => by rw [v2]; simp; omega)
  obtain ⟨s3, hs3⟩ : ∃ s, s = s2.fill i false k := ⟨_, rfl⟩
  have F6 : s2.turn i k false = s3 := by rw [hs3]; exact MemS.turn_eq E6
  have l3 : s3.live.length = s3.words.length := by rw [hs3]; exact MemS.fill_len _ _ _ _ l2
  have n3 : s3.words.length = 600 := by rw [hs3, MemS.fill_words]; exact n2
  have v3 : ∀ j, s3.live.getD j false = false := by
    intro j; rw [hs3, MemS.fill_live _ _ _ _ _ (by omega), v2]; by_cases h : i ≤ j ∧ j < i + k <;> simp [h]
  have E7 : s3.code i = 7 := MemS.code_seven (by omega) (v3 _)
  have F7 : s3.load i = s3 := by rw [MemS.load, E7, if_neg (by decide)]
  have E8 : s3.tcode i k true = 0 := MemS.tcode_zero l3 (by omega) (fun j _ _ => by rw [v3]; decide)
  obtain ⟨s4, hs4⟩ : ∃ s, s = s3.fill i true k := ⟨_, rfl⟩
  have F8 : s3.turn i k true = s4 := by rw [hs4]; exact MemS.turn_eq E8
  have l4 : s4.live.length = s4.words.length := by rw [hs4]; exact MemS.fill_len _ _ _ _ l3
  have n4 : s4.words.length = 600 := by rw [hs4, MemS.fill_words]; exact n3
  have E9 : s4.code i = 0 := MemS.code_at (by omega) (by rw [hs4, MemS.fill_live _ _ _ _ _ (by omega), if_pos (by omega)])
  have E9' : s4.word i = 0 := by rw [MemS.word, if_pos E9, hs4, MemS.fill_word _ _ _ _ _ (by omega), if_pos (by omega)]
  obtain ⟨s5, hs5⟩ : ∃ s, s = s4.load i := ⟨_, rfl⟩
  have l5 : s5.live.length = s5.words.length := by rw [hs5, MemS.load, if_pos E9]; exact l4
  have n5 : s5.words.length = 600 := by rw [hs5, MemS.load, if_pos E9]; exact n4
  have E10 : s5.tcode i ((0 : Nat) : Int) true = 0 := MemS.tcode_zero l5 (by omega) (fun j _ _ => by omega)
  have F10 : s5.turn i ((0 : Nat) : Int) true = s5 := MemS.turn_eq E10
  have E11 : s5.tcode ((600 : Nat) : Int) ((0 : Nat) : Int) true = 0 := MemS.tcode_zero l5 (by omega) (fun j _ _ => by omega)
  have F11 : s5.turn ((600 : Nat) : Int) ((0 : Nat) : Int) true = s5 := MemS.turn_eq E11
  have E12 : s5.tcode 601 0 true = 6 := MemS.tcode_six (by omega)
  rw [← hy] at E1 E2 E6 E8
  have E3' : s1.tcode ((i : Int) + ((y : Int) % 100 + 1) - 1) 1 true = 11 := by rw [hy, show (i : Int) + k - 1 = ((i + k - 1 : Nat) : Int) from by omega]; exact E3
  have E5' : s2.tcode i ((y : Int) % 100 + 1 + 1) false = 11 := by rw [hy]; exact E5
  have F3' : s1.turn ((i : Int) + ((y : Int) % 100 + 1) - 1) 1 true = s1 := MemS.turn_ne (by rw [E3']; decide)
  have F5' : s2.turn i ((y : Int) % 100 + 1 + 1) false = s2 := MemS.turn_ne (by rw [E5']; decide)
  have E10' : s5.tcode i 0 true = 0 := E10
  have E11' : s5.tcode 600 0 true = 0 := E11
  rw [← hy] at F1 F2 F6 F8
  have F10' : s5.turn i 0 true = s5 := F10
  have F11' : s5.turn 600 0 true = s5 := F11
  have G0 := Lib.hid hs0.symm
  have G2 := Lib.hid hs2.symm
  have G5 := Lib.hid hs5.symm
  have HY := Lib.hid hy
  clear hy hk hk2 hs0 hs1 hs2 hs3 hs4 hs5 l0 l1 l2 l3 l4 l5 n0 n1 n2 n3 n4 n5 v0 v1 v2 v3 e2 E3 E5 F3 F5 E10 E11 F10 F11
  replace F1 := Lib.hid F1
  replace F2 := Lib.hid F2
  replace F3' := Lib.hid F3'
  replace F5' := Lib.hid F5'
  replace F6 := Lib.hid F6
  replace F7 := Lib.hid F7
  replace F8 := Lib.hid F8
  replace F10' := Lib.hid F10'
  replace F11' := Lib.hid F11'
  go_enter Try.func4, Try.ntmps4
  go_wp2_with fail
  refine H0.out.mono ?_
  rintro e w1 ⟨m, a, b, rfl, hm, h1, h2, h3, ho⟩
  have HM1 := Lib.hid hm; have HB1 := Lib.hid ho.nil_below; clear hm ho
  replace HM1 : Hid (IsMem w1 m a b s0) := by have h := HM1.out; rw [G0.out] at h; exact h
  go_wp2_with fail
  refine (free_any m a b _ _ _ _ HM1.out).mono ?_
  rintro e w2 ⟨rfl, hm, ho⟩
  rw [F1.out] at hm
  have HM2 := Lib.hid hm; have HB2 := Lib.hid (below_only3 HB1.out (Nat.le_refl _) ho h1 h2 h3); clear hm ho
  go_wp2_with fail
  refine (live_any m a b _ _ _ _ HM2.out).mono ?_
  rintro e w3 ⟨rfl, hm, ho⟩
  rw [F2.out] at hm
  have HM3 := Lib.hid hm; have HB3 := Lib.hid (below_only3 HB2.out (Nat.le_refl _) ho h1 h2 h3); clear hm ho
  go_wp2_with fail
  refine (live_any m a b _ _ _ _ HM3.out).mono ?_
  rintro e w4 ⟨rfl, hm, ho⟩
  rw [F3'.out] at hm
  have HM4 := Lib.hid hm; have HB4 := Lib.hid (below_only3 HB3.out (Nat.le_refl _) ho h1 h2 h3); clear hm ho
  go_wp2_with fail
  refine (store_any m a b _ _ _ _ HM4.out).mono ?_
  rintro e w5 ⟨rfl, hm, ho⟩
  rw [G2.out] at hm
  have HM5 := Lib.hid hm; have HB5 := Lib.hid (below_only3 HB4.out (Nat.le_refl _) ho h1 h2 h3); clear hm ho
  go_wp2_with fail
  refine (free_any m a b _ _ _ _ HM5.out).mono ?_
  rintro e w6 ⟨rfl, hm, ho⟩
  rw [F5'.out] at hm
  have HM6 := Lib.hid hm; have HB6 := Lib.hid (below_only3 HB5.out (Nat.le_refl _) ho h1 h2 h3); clear hm ho
  go_wp2_with fail
  refine (free_any m a b _ _ _ _ HM6.out).mono ?_
  rintro e w7 ⟨rfl, hm, ho⟩
  rw [F6.out] at hm
  have HM7 := Lib.hid hm; have HB7 := Lib.hid (below_only3 HB6.out (Nat.le_refl _) ho h1 h2 h3); clear hm ho
  go_wp2_with fail
  refine (load_any m a b _ _ _ HM7.out).mono ?_
  rintro e w8 ⟨rfl, hm, ho⟩
  rw [F7.out] at hm
  have HM8 := Lib.hid hm; have HB8 := Lib.hid (below_only3 HB7.out (Nat.le_refl _) ho h1 h2 h3); clear hm ho
  go_wp2_with fail
  refine (live_any m a b _ _ _ _ HM8.out).mono ?_
  rintro e w9 ⟨rfl, hm, ho⟩
  rw [F8.out] at hm
  have HM9 := Lib.hid hm; have HB9 := Lib.hid (below_only3 HB8.out (Nat.le_refl _) ho h1 h2 h3); clear hm ho
  go_wp2_with fail
  refine (load_any m a b _ _ _ HM9.out).mono ?_
  rintro e w10 ⟨rfl, hm, ho⟩
  rw [G5.out] at hm
  have HM10 := Lib.hid hm; have HB10 := Lib.hid (below_only3 HB9.out (Nat.le_refl _) ho h1 h2 h3); clear hm ho
  go_wp2_with fail
  refine (live_any m a b _ _ _ _ HM10.out).mono ?_
  rintro e w11 ⟨rfl, hm, ho⟩
  rw [F10'.out] at hm
  have HM11 := Lib.hid hm; have HB11 := Lib.hid (below_only3 HB10.out (Nat.le_refl _) ho h1 h2 h3); clear hm ho
  go_wp2_with fail
  refine (live_any m a b _ _ _ _ HM11.out).mono ?_
  rintro e w12 ⟨rfl, hm, ho⟩
  rw [F11'.out] at hm
  have HM12 := Lib.hid hm; have HB12 := Lib.hid (below_only3 HB11.out (Nat.le_refl _) ho h1 h2 h3); clear hm ho
  go_wp2_with fail
  refine (live_any m a b _ _ _ _ HM12.out).mono ?_
  rintro e w13 ⟨rfl, hm, ho⟩
  have HB13 := Lib.hid (below_only3 HB12.out (Nat.le_refl _) ho h1 h2 h3); clear hm ho
  go_wp2_with fail
  refine (awake_any _).mono ?_
  rintro e wz ⟨rfl, hb⟩
  have HBz := Lib.hid (below_below HB13.out (Nat.le_refl _) hb); clear hb
  go_wp2_with fail
  go_ret
  exact ⟨rfl, HBz.out⟩

theorem memTags_walk (x y was : Int) (w : World) (hx : 0 ≤ x ∧ x ≤ 255) (hy : 0 ≤ y ∧ y ≤ 255) : Calls Try.prog 4 #[.int .u8 x, .int .u8 y, .int .i64 was] w fun e w' => e = .returned (.bool true) ∧ Below w.heap.size w w' := by
  obtain ⟨i, rfl⟩ : ∃ i : Nat, x = i := ⟨x.toNat, by omega⟩
  obtain ⟨j, rfl⟩ : ∃ j : Nat, y = j := ⟨y.toNat, by omega⟩
  exact memTags_core i j was w (by omega) (by omega)

end Go.Proofs.Ytpbbpineepdeeaa
