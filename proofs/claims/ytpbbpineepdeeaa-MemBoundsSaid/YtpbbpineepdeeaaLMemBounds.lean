/- MemBounds returns true, whatever the place, the number of words and the one word that is live are. -/
import Derived.Test.YtpbbpineepdeeaaMemG
open Go Go.RowKit
namespace Go.Proofs.Ytpbbpineepdeeaa

/-- A memory that reads as s but for how many steps were counted. -/
def IsMemT (w : World) (m a b : Nat) (s : MemS) : Prop := ∃ t, IsMem w m a b { s with steps := t }

theorem loadT_any (m a b : Nat) (s : MemS) (at_ : Int) (w : World) (hm : IsMemT w m a b s) :
    Calls Try.prog 13 #[.pointer (some ⟨m, 0, none⟩), .int .i64 at_] w fun e w' => e = .returned (.tuple #[.int .i64 (s.word at_), .int .i64 (s.code at_)]) ∧ IsMemT w' m a b s ∧ Only [m, a, b] w w' := by
  obtain ⟨t, h⟩ := hm
  refine (load_any m a b _ at_ w h).mono ?_
  rintro e w' ⟨rfl, h1, h2⟩
  refine ⟨rfl, ?_, h2⟩
  unfold MemS.load at h1
  by_cases hc : MemS.code { s with steps := t } at_ = 0
  · rw [if_pos hc] at h1; exact ⟨_, h1⟩
  · rw [if_neg hc] at h1; exact ⟨_, h1⟩

set_option maxHeartbeats 4000000 in
/-- What MemBounds does behind its first three calls, where a memory has the word k live, which is 7, and the call of Live at (x, n) tells c. -/
theorem memBounds_core (x n : Int) (k y : Nat) (s2 s3 : MemS) (c : Int) (w : World) (hy : y ≤ 255) (hk : (y : Int) % 50 = k) (hk50 : k < 50)
    (G1 : Hid ((MemS.fresh 50).turn k 1 true = (MemS.fresh 50).fill k true 1)) (G2 : Hid (((MemS.fresh 50).fill k true 1).store k 7 = s2)) (e1 : (MemS.fresh 50).tcode k 1 true = 0) (e2 : ((MemS.fresh 50).fill k true 1).code k = 0)
    (e3 : s2.tcode x n true = c) (G3 : Hid (s2.turn x n true = s3)) (e4 : s3.word k = 7)
    (hin : Hid ((c = 6 ∧ (n < 0 ∨ x < 0 ∨ 50 < x ∨ 50 - x < n)) ∨ (c = 11 ∧ 0 ≤ n ∧ 0 ≤ x ∧ x ≤ 50 ∧ n ≤ 50 - x ∧ x ≤ k ∧ k < x + n) ∨ (c = 0 ∧ 0 ≤ n ∧ 0 ≤ x ∧ x ≤ 50 ∧ n ≤ 50 - x ∧ (k < x ∨ x + n ≤ k))))
    (hlive : Hid (∀ i : Nat, i < 50 → (i = k ∨ (c = 0 ∧ x ≤ i ∧ (i : Int) < x + n)) ∧ s3.code i = 0 ∨ ¬ (i = k ∨ (c = 0 ∧ x ≤ i ∧ (i : Int) < x + n)) ∧ s3.code i = 7)) :
    Calls Try.prog 3 #[.int .i64 x, .int .i64 n, .int .u8 y] w fun e w' => e = .returned (.bool true) ∧ Below w.heap.size w w' := by
  have H0 := Lib.hid (new_ok 50 w (by omega))
  have e5 : s3.code k = 0 := by
    rcases hlive.out k hk50 with h | h
    · exact h.2
    · exact absurd (Or.inl rfl) h.1
  have E3 := Lib.hid e3
  clear e3
  rcases hin.out with ⟨rfl, h⟩ | ⟨rfl, h⟩ | ⟨rfl, h⟩
  · by_cases k1 : n < 0
    · clear h
      go_enter Try.func3, Try.ntmps3
      go_wp2_with fail
      refine H0.out.mono ?_
      rintro e w1 ⟨m, a, b, rfl, hm, h1, h2, h3, ho⟩
      have HM1 := Lib.hid hm; have HB1 := Lib.hid ho.nil_below; clear hm ho
      go_wp2_with fail
      refine (live_any m a b _ _ _ _ HM1.out).mono ?_
      rintro e w2 ⟨rfl, hm, ho⟩
      rw [G1.out] at hm
      have HM2 := Lib.hid hm; have HB2 := Lib.hid (below_only3 HB1.out (Nat.le_refl _) ho h1 h2 h3); clear hm ho
      go_wp2_with fail
      refine (store_any m a b _ _ _ _ HM2.out).mono ?_
      rintro e w3 ⟨rfl, hm, ho⟩
      rw [G2.out] at hm
      have HM3 := Lib.hid hm; have HB3 := Lib.hid (below_only3 HB2.out (Nat.le_refl _) ho h1 h2 h3); clear hm ho
      go_wp2_with fail
      refine (live_any m a b _ _ _ _ HM3.out).mono ?_
      rintro e w4 ⟨rfl, hm, ho⟩
      rw [G3.out] at hm
      rw [E3.out]
      have HM4 := Lib.hid (⟨_, hm⟩ : IsMemT w4 m a b s3); have HB4 := Lib.hid (below_only3 HB3.out (Nat.le_refl _) ho h1 h2 h3); clear hm ho
      go_wp2_with fail
      refine (loadT_any m a b s3 _ _ HM4.out).mono ?_
      rintro e w5 ⟨rfl, hm, ho⟩
      have HM5 := Lib.hid hm; have HB5 := Lib.hid (below_only3 HB4.out (Nat.le_refl _) ho h1 h2 h3); clear hm ho
      go_wp2_with fail
      go_loopw [15] (fun t wr => ∃ i : Nat, i ≤ 50 ∧ t = .int .i64 i ∧ IsMemT wr m a b s3 ∧ Below w.heap.size w wr) (fun t _ => 50 - (intOf t).toNat)
      case atStart => exact ⟨0, by omega, rfl, HM5.out, HB5.out⟩
      case round =>
        obtain ⟨i, hi, rfl, hm, hb⟩ := hrel
        have HM6 := Lib.hid hm; have HB6 := Lib.hid hb; clear hm hb
        by_cases hlt : i < 50
        · rcases hlive.out i hlt with ⟨hl, hcd⟩ | ⟨hl, hcd⟩
          · obtain rfl : i = k := by omega
            clear hl
            go_wp2_with fail
            refine (loadT_any m a b s3 _ _ HM6.out).mono ?_
            rintro e w7 ⟨rfl, hm, ho⟩
            have HM7 := Lib.hid hm; have HB7 := Lib.hid (below_only3 HB6.out (Nat.le_refl _) ho h1 h2 h3); clear hm ho
            go_wp2_with fail
            go_roundw
            case rel => exact ⟨i + 1, by omega, by go_num, HM7.out, HB7.out⟩
            case measure => simp [intOf]; omega
          · have hik : i ≠ k := fun h => hl (Or.inl h)
            clear hl
            go_wp2_with fail
            refine (loadT_any m a b s3 _ _ HM6.out).mono ?_
            rintro e w7 ⟨rfl, hm, ho⟩
            have HM7 := Lib.hid hm; have HB7 := Lib.hid (below_only3 HB6.out (Nat.le_refl _) ho h1 h2 h3); clear hm ho
            go_wp2_with fail
            go_roundw
            case rel => exact ⟨i + 1, by omega, by go_num, HM7.out, HB7.out⟩
            case measure => simp [intOf]; omega
        · go_wp2_with fail
          refine (awake_any _).mono ?_
          rintro e w8 ⟨rfl, hb⟩
          have HB8 := Lib.hid (below_below HB6.out (Nat.le_refl _) hb); clear hb
          go_wp2_with fail
          go_ret
          exact ⟨rfl, HB8.out⟩
    · by_cases k2 : x < 0
      · clear h
        go_enter Try.func3, Try.ntmps3
        go_wp2_with fail
        refine H0.out.mono ?_
        rintro e w1 ⟨m, a, b, rfl, hm, h1, h2, h3, ho⟩
        have HM1 := Lib.hid hm; have HB1 := Lib.hid ho.nil_below; clear hm ho
        go_wp2_with fail
        refine (live_any m a b _ _ _ _ HM1.out).mono ?_
        rintro e w2 ⟨rfl, hm, ho⟩
        rw [G1.out] at hm
        have HM2 := Lib.hid hm; have HB2 := Lib.hid (below_only3 HB1.out (Nat.le_refl _) ho h1 h2 h3); clear hm ho
        go_wp2_with fail
        refine (store_any m a b _ _ _ _ HM2.out).mono ?_
        rintro e w3 ⟨rfl, hm, ho⟩
        rw [G2.out] at hm
        have HM3 := Lib.hid hm; have HB3 := Lib.hid (below_only3 HB2.out (Nat.le_refl _) ho h1 h2 h3); clear hm ho
        go_wp2_with fail
        refine (live_any m a b _ _ _ _ HM3.out).mono ?_
        rintro e w4 ⟨rfl, hm, ho⟩
        rw [G3.out] at hm
        rw [E3.out]
        have HM4 := Lib.hid (⟨_, hm⟩ : IsMemT w4 m a b s3); have HB4 := Lib.hid (below_only3 HB3.out (Nat.le_refl _) ho h1 h2 h3); clear hm ho
        go_wp2_with fail
        refine (loadT_any m a b s3 _ _ HM4.out).mono ?_
        rintro e w5 ⟨rfl, hm, ho⟩
        have HM5 := Lib.hid hm; have HB5 := Lib.hid (below_only3 HB4.out (Nat.le_refl _) ho h1 h2 h3); clear hm ho
        go_wp2_with fail
        go_loopw [15] (fun t wr => ∃ i : Nat, i ≤ 50 ∧ t = .int .i64 i ∧ IsMemT wr m a b s3 ∧ Below w.heap.size w wr) (fun t _ => 50 - (intOf t).toNat)
        case atStart => exact ⟨0, by omega, rfl, HM5.out, HB5.out⟩
        case round =>
          obtain ⟨i, hi, rfl, hm, hb⟩ := hrel
          have HM6 := Lib.hid hm; have HB6 := Lib.hid hb; clear hm hb
          by_cases hlt : i < 50
          · rcases hlive.out i hlt with ⟨hl, hcd⟩ | ⟨hl, hcd⟩
            · obtain rfl : i = k := by omega
              clear hl
              go_wp2_with fail
              refine (loadT_any m a b s3 _ _ HM6.out).mono ?_
              rintro e w7 ⟨rfl, hm, ho⟩
              have HM7 := Lib.hid hm; have HB7 := Lib.hid (below_only3 HB6.out (Nat.le_refl _) ho h1 h2 h3); clear hm ho
              go_wp2_with fail
              go_roundw
              case rel => exact ⟨i + 1, by omega, by go_num, HM7.out, HB7.out⟩
              case measure => simp [intOf]; omega
            · have hik : i ≠ k := fun h => hl (Or.inl h)
              clear hl
              go_wp2_with fail
              refine (loadT_any m a b s3 _ _ HM6.out).mono ?_
              rintro e w7 ⟨rfl, hm, ho⟩
              have HM7 := Lib.hid hm; have HB7 := Lib.hid (below_only3 HB6.out (Nat.le_refl _) ho h1 h2 h3); clear hm ho
              go_wp2_with fail
              go_roundw
              case rel => exact ⟨i + 1, by omega, by go_num, HM7.out, HB7.out⟩
              case measure => simp [intOf]; omega
          · go_wp2_with fail
            refine (awake_any _).mono ?_
            rintro e w8 ⟨rfl, hb⟩
            have HB8 := Lib.hid (below_below HB6.out (Nat.le_refl _) hb); clear hb
            go_wp2_with fail
            go_ret
            exact ⟨rfl, HB8.out⟩
      · by_cases k3 : 50 < x
        · clear h
          go_enter Try.func3, Try.ntmps3
          go_wp2_with fail
          refine H0.out.mono ?_
          rintro e w1 ⟨m, a, b, rfl, hm, h1, h2, h3, ho⟩
          have HM1 := Lib.hid hm; have HB1 := Lib.hid ho.nil_below; clear hm ho
          go_wp2_with fail
          refine (live_any m a b _ _ _ _ HM1.out).mono ?_
          rintro e w2 ⟨rfl, hm, ho⟩
          rw [G1.out] at hm
          have HM2 := Lib.hid hm; have HB2 := Lib.hid (below_only3 HB1.out (Nat.le_refl _) ho h1 h2 h3); clear hm ho
          go_wp2_with fail
          refine (store_any m a b _ _ _ _ HM2.out).mono ?_
          rintro e w3 ⟨rfl, hm, ho⟩
          rw [G2.out] at hm
          have HM3 := Lib.hid hm; have HB3 := Lib.hid (below_only3 HB2.out (Nat.le_refl _) ho h1 h2 h3); clear hm ho
          go_wp2_with fail
          refine (live_any m a b _ _ _ _ HM3.out).mono ?_
          rintro e w4 ⟨rfl, hm, ho⟩
          rw [G3.out] at hm
          rw [E3.out]
          have HM4 := Lib.hid (⟨_, hm⟩ : IsMemT w4 m a b s3); have HB4 := Lib.hid (below_only3 HB3.out (Nat.le_refl _) ho h1 h2 h3); clear hm ho
          go_wp2_with fail
          refine (loadT_any m a b s3 _ _ HM4.out).mono ?_
          rintro e w5 ⟨rfl, hm, ho⟩
          have HM5 := Lib.hid hm; have HB5 := Lib.hid (below_only3 HB4.out (Nat.le_refl _) ho h1 h2 h3); clear hm ho
          go_wp2_with fail
          go_loopw [15] (fun t wr => ∃ i : Nat, i ≤ 50 ∧ t = .int .i64 i ∧ IsMemT wr m a b s3 ∧ Below w.heap.size w wr) (fun t _ => 50 - (intOf t).toNat)
          case atStart => exact ⟨0, by omega, rfl, HM5.out, HB5.out⟩
          case round =>
            obtain ⟨i, hi, rfl, hm, hb⟩ := hrel
            have HM6 := Lib.hid hm; have HB6 := Lib.hid hb; clear hm hb
            by_cases hlt : i < 50
            · rcases hlive.out i hlt with ⟨hl, hcd⟩ | ⟨hl, hcd⟩
              · obtain rfl : i = k := by omega
                clear hl
                go_wp2_with fail
                refine (loadT_any m a b s3 _ _ HM6.out).mono ?_
                rintro e w7 ⟨rfl, hm, ho⟩
                have HM7 := Lib.hid hm; have HB7 := Lib.hid (below_only3 HB6.out (Nat.le_refl _) ho h1 h2 h3); clear hm ho
                go_wp2_with fail
                go_roundw
                case rel => exact ⟨i + 1, by omega, by go_num, HM7.out, HB7.out⟩
                case measure => simp [intOf]; omega
              · have hik : i ≠ k := fun h => hl (Or.inl h)
                clear hl
                go_wp2_with fail
                refine (loadT_any m a b s3 _ _ HM6.out).mono ?_
                rintro e w7 ⟨rfl, hm, ho⟩
                have HM7 := Lib.hid hm; have HB7 := Lib.hid (below_only3 HB6.out (Nat.le_refl _) ho h1 h2 h3); clear hm ho
                go_wp2_with fail
                go_roundw
                case rel => exact ⟨i + 1, by omega, by go_num, HM7.out, HB7.out⟩
                case measure => simp [intOf]; omega
            · go_wp2_with fail
              refine (awake_any _).mono ?_
              rintro e w8 ⟨rfl, hb⟩
              have HB8 := Lib.hid (below_below HB6.out (Nat.le_refl _) hb); clear hb
              go_wp2_with fail
              go_ret
              exact ⟨rfl, HB8.out⟩
        · have k4 : 50 - x < n := by omega
          clear h
          go_enter Try.func3, Try.ntmps3
          go_wp2_with fail
          refine H0.out.mono ?_
          rintro e w1 ⟨m, a, b, rfl, hm, h1, h2, h3, ho⟩
          have HM1 := Lib.hid hm; have HB1 := Lib.hid ho.nil_below; clear hm ho
          go_wp2_with fail
          refine (live_any m a b _ _ _ _ HM1.out).mono ?_
          rintro e w2 ⟨rfl, hm, ho⟩
          rw [G1.out] at hm
          have HM2 := Lib.hid hm; have HB2 := Lib.hid (below_only3 HB1.out (Nat.le_refl _) ho h1 h2 h3); clear hm ho
          go_wp2_with fail
          refine (store_any m a b _ _ _ _ HM2.out).mono ?_
          rintro e w3 ⟨rfl, hm, ho⟩
          rw [G2.out] at hm
          have HM3 := Lib.hid hm; have HB3 := Lib.hid (below_only3 HB2.out (Nat.le_refl _) ho h1 h2 h3); clear hm ho
          go_wp2_with fail
          refine (live_any m a b _ _ _ _ HM3.out).mono ?_
          rintro e w4 ⟨rfl, hm, ho⟩
          rw [G3.out] at hm
          rw [E3.out]
          have HM4 := Lib.hid (⟨_, hm⟩ : IsMemT w4 m a b s3); have HB4 := Lib.hid (below_only3 HB3.out (Nat.le_refl _) ho h1 h2 h3); clear hm ho
          go_wp2_with fail
          refine (loadT_any m a b s3 _ _ HM4.out).mono ?_
          rintro e w5 ⟨rfl, hm, ho⟩
          have HM5 := Lib.hid hm; have HB5 := Lib.hid (below_only3 HB4.out (Nat.le_refl _) ho h1 h2 h3); clear hm ho
          go_wp2_with fail
          go_loopw [15] (fun t wr => ∃ i : Nat, i ≤ 50 ∧ t = .int .i64 i ∧ IsMemT wr m a b s3 ∧ Below w.heap.size w wr) (fun t _ => 50 - (intOf t).toNat)
          case atStart => exact ⟨0, by omega, rfl, HM5.out, HB5.out⟩
          case round =>
            obtain ⟨i, hi, rfl, hm, hb⟩ := hrel
            have HM6 := Lib.hid hm; have HB6 := Lib.hid hb; clear hm hb
            by_cases hlt : i < 50
            · rcases hlive.out i hlt with ⟨hl, hcd⟩ | ⟨hl, hcd⟩
              · obtain rfl : i = k := by omega
                clear hl
                go_wp2_with fail
                refine (loadT_any m a b s3 _ _ HM6.out).mono ?_
                rintro e w7 ⟨rfl, hm, ho⟩
                have HM7 := Lib.hid hm; have HB7 := Lib.hid (below_only3 HB6.out (Nat.le_refl _) ho h1 h2 h3); clear hm ho
                go_wp2_with fail
                go_roundw
                case rel => exact ⟨i + 1, by omega, by go_num, HM7.out, HB7.out⟩
                case measure => simp [intOf]; omega
              · have hik : i ≠ k := fun h => hl (Or.inl h)
                clear hl
                go_wp2_with fail
                refine (loadT_any m a b s3 _ _ HM6.out).mono ?_
                rintro e w7 ⟨rfl, hm, ho⟩
                have HM7 := Lib.hid hm; have HB7 := Lib.hid (below_only3 HB6.out (Nat.le_refl _) ho h1 h2 h3); clear hm ho
                go_wp2_with fail
                go_roundw
                case rel => exact ⟨i + 1, by omega, by go_num, HM7.out, HB7.out⟩
                case measure => simp [intOf]; omega
            · go_wp2_with fail
              refine (awake_any _).mono ?_
              rintro e w8 ⟨rfl, hb⟩
              have HB8 := Lib.hid (below_below HB6.out (Nat.le_refl _) hb); clear hb
              go_wp2_with fail
              go_ret
              exact ⟨rfl, HB8.out⟩
  · obtain ⟨k1, k2, k3, k4, k5, k6⟩ := h
    go_enter Try.func3, Try.ntmps3
    go_wp2_with fail
    refine H0.out.mono ?_
    rintro e w1 ⟨m, a, b, rfl, hm, h1, h2, h3, ho⟩
    have HM1 := Lib.hid hm; have HB1 := Lib.hid ho.nil_below; clear hm ho
    go_wp2_with fail
    refine (live_any m a b _ _ _ _ HM1.out).mono ?_
    rintro e w2 ⟨rfl, hm, ho⟩
    rw [G1.out] at hm
    have HM2 := Lib.hid hm; have HB2 := Lib.hid (below_only3 HB1.out (Nat.le_refl _) ho h1 h2 h3); clear hm ho
    go_wp2_with fail
    refine (store_any m a b _ _ _ _ HM2.out).mono ?_
    rintro e w3 ⟨rfl, hm, ho⟩
    rw [G2.out] at hm
    have HM3 := Lib.hid hm; have HB3 := Lib.hid (below_only3 HB2.out (Nat.le_refl _) ho h1 h2 h3); clear hm ho
    go_wp2_with fail
    refine (live_any m a b _ _ _ _ HM3.out).mono ?_
    rintro e w4 ⟨rfl, hm, ho⟩
    rw [G3.out] at hm
    rw [E3.out]
    have HM4 := Lib.hid (⟨_, hm⟩ : IsMemT w4 m a b s3); have HB4 := Lib.hid (below_only3 HB3.out (Nat.le_refl _) ho h1 h2 h3); clear hm ho
    go_wp2_with fail
    refine (loadT_any m a b s3 _ _ HM4.out).mono ?_
    rintro e w5 ⟨rfl, hm, ho⟩
    have HM5 := Lib.hid hm; have HB5 := Lib.hid (below_only3 HB4.out (Nat.le_refl _) ho h1 h2 h3); clear hm ho
    go_wp2_with fail
    go_loopw [15] (fun t wr => ∃ i : Nat, i ≤ 50 ∧ t = .int .i64 i ∧ IsMemT wr m a b s3 ∧ Below w.heap.size w wr) (fun t _ => 50 - (intOf t).toNat)
    case atStart => exact ⟨0, by omega, rfl, HM5.out, HB5.out⟩
    case round =>
      obtain ⟨i, hi, rfl, hm, hb⟩ := hrel
      have HM6 := Lib.hid hm; have HB6 := Lib.hid hb; clear hm hb
      by_cases hlt : i < 50
      · rcases hlive.out i hlt with ⟨hl, hcd⟩ | ⟨hl, hcd⟩
        · obtain rfl : i = k := by omega
          clear hl
          go_wp2_with fail
          refine (loadT_any m a b s3 _ _ HM6.out).mono ?_
          rintro e w7 ⟨rfl, hm, ho⟩
          have HM7 := Lib.hid hm; have HB7 := Lib.hid (below_only3 HB6.out (Nat.le_refl _) ho h1 h2 h3); clear hm ho
          go_wp2_with fail
          go_roundw
          case rel => exact ⟨i + 1, by omega, by go_num, HM7.out, HB7.out⟩
          case measure => simp [intOf]; omega
        · have hik : i ≠ k := fun h => hl (Or.inl h)
          clear hl
          go_wp2_with fail
          refine (loadT_any m a b s3 _ _ HM6.out).mono ?_
          rintro e w7 ⟨rfl, hm, ho⟩
          have HM7 := Lib.hid hm; have HB7 := Lib.hid (below_only3 HB6.out (Nat.le_refl _) ho h1 h2 h3); clear hm ho
          go_wp2_with fail
          go_roundw
          case rel => exact ⟨i + 1, by omega, by go_num, HM7.out, HB7.out⟩
          case measure => simp [intOf]; omega
      · go_wp2_with fail
        refine (awake_any _).mono ?_
        rintro e w8 ⟨rfl, hb⟩
        have HB8 := Lib.hid (below_below HB6.out (Nat.le_refl _) hb); clear hb
        go_wp2_with fail
        go_ret
        exact ⟨rfl, HB8.out⟩
  · obtain ⟨k1, k2, k3, k4, k5⟩ := h
    by_cases k6 : (k : Int) < x
    · clear k5
      go_enter Try.func3, Try.ntmps3
      go_wp2_with fail
      refine H0.out.mono ?_
      rintro e w1 ⟨m, a, b, rfl, hm, h1, h2, h3, ho⟩
      have HM1 := Lib.hid hm; have HB1 := Lib.hid ho.nil_below; clear hm ho
      go_wp2_with fail
      refine (live_any m a b _ _ _ _ HM1.out).mono ?_
      rintro e w2 ⟨rfl, hm, ho⟩
      rw [G1.out] at hm
      have HM2 := Lib.hid hm; have HB2 := Lib.hid (below_only3 HB1.out (Nat.le_refl _) ho h1 h2 h3); clear hm ho
      go_wp2_with fail
      refine (store_any m a b _ _ _ _ HM2.out).mono ?_
      rintro e w3 ⟨rfl, hm, ho⟩
      rw [G2.out] at hm
      have HM3 := Lib.hid hm; have HB3 := Lib.hid (below_only3 HB2.out (Nat.le_refl _) ho h1 h2 h3); clear hm ho
      go_wp2_with fail
      refine (live_any m a b _ _ _ _ HM3.out).mono ?_
      rintro e w4 ⟨rfl, hm, ho⟩
      rw [G3.out] at hm
      rw [E3.out]
      have HM4 := Lib.hid (⟨_, hm⟩ : IsMemT w4 m a b s3); have HB4 := Lib.hid (below_only3 HB3.out (Nat.le_refl _) ho h1 h2 h3); clear hm ho
      go_wp2_with fail
      refine (loadT_any m a b s3 _ _ HM4.out).mono ?_
      rintro e w5 ⟨rfl, hm, ho⟩
      have HM5 := Lib.hid hm; have HB5 := Lib.hid (below_only3 HB4.out (Nat.le_refl _) ho h1 h2 h3); clear hm ho
      go_wp2_with fail
      go_loopw [15] (fun t wr => ∃ i : Nat, i ≤ 50 ∧ t = .int .i64 i ∧ IsMemT wr m a b s3 ∧ Below w.heap.size w wr) (fun t _ => 50 - (intOf t).toNat)
      case atStart => exact ⟨0, by omega, rfl, HM5.out, HB5.out⟩
      case round =>
        obtain ⟨i, hi, rfl, hm, hb⟩ := hrel
        have HM6 := Lib.hid hm; have HB6 := Lib.hid hb; clear hm hb
        by_cases hlt : i < 50
        · rcases hlive.out i hlt with ⟨hl, hcd⟩ | ⟨hl, hcd⟩
          · have HL := Lib.hid hl; clear hl
            by_cases hik : i = k
            · obtain rfl := hik
              go_wp2_with fail
              refine (loadT_any m a b s3 _ _ HM6.out).mono ?_
              rintro e w7 ⟨rfl, hm, ho⟩
              have HM7 := Lib.hid hm; have HB7 := Lib.hid (below_only3 HB6.out (Nat.le_refl _) ho h1 h2 h3); clear hm ho
              go_wp2_with fail
              go_roundw
              case rel => exact ⟨i + 1, by omega, by go_num, HM7.out, HB7.out⟩
              case measure => simp [intOf]; omega
            · have hx1 : x ≤ i := by rcases HL.out with h | h <;> omega
              have hx2 : (i : Int) < x + n := by rcases HL.out with h | h <;> omega
              go_wp2_with fail
              refine (loadT_any m a b s3 _ _ HM6.out).mono ?_
              rintro e w7 ⟨rfl, hm, ho⟩
              have HM7 := Lib.hid hm; have HB7 := Lib.hid (below_only3 HB6.out (Nat.le_refl _) ho h1 h2 h3); clear hm ho
              go_wp2_with fail
              go_roundw
              case rel => exact ⟨i + 1, by omega, by go_num, HM7.out, HB7.out⟩
              case measure => simp [intOf]; omega
          · have hik : i ≠ k := fun h => hl (Or.inl h)
            have hxx : (i : Int) < x ∨ x + n ≤ i := by
              rcases Int.lt_or_le (i : Int) x with h | h
              · exact Or.inl h
              · exact Or.inr (by rcases Int.lt_or_le (i : Int) (x + n) with h' | h'
                                 · exact absurd (Or.inr ⟨by simp, h, h'⟩) hl
                                 · exact h')
            clear hl
            rcases hxx with hxx | hxx
            · go_wp2_with fail
              refine (loadT_any m a b s3 _ _ HM6.out).mono ?_
              rintro e w7 ⟨rfl, hm, ho⟩
              have HM7 := Lib.hid hm; have HB7 := Lib.hid (below_only3 HB6.out (Nat.le_refl _) ho h1 h2 h3); clear hm ho
              go_wp2_with fail
              go_roundw
              case rel => exact ⟨i + 1, by omega, by go_num, HM7.out, HB7.out⟩
              case measure => simp [intOf]; omega
            · have hx1 : x ≤ i := by omega
              have hx9 : ((i : Int) == k) = false := by rw [beq_eq_false_iff_ne]; omega
              go_wp2_with fail
              refine (loadT_any m a b s3 _ _ HM6.out).mono ?_
              rintro e w7 ⟨rfl, hm, ho⟩
              have HM7 := Lib.hid hm; have HB7 := Lib.hid (below_only3 HB6.out (Nat.le_refl _) ho h1 h2 h3); clear hm ho
              go_wp2_with fail
              go_roundw
              case rel => exact ⟨i + 1, by omega, by go_num, HM7.out, HB7.out⟩
              case measure => simp [intOf]; omega
        · go_wp2_with fail
          refine (awake_any _).mono ?_
          rintro e w8 ⟨rfl, hb⟩
          have HB8 := Lib.hid (below_below HB6.out (Nat.le_refl _) hb); clear hb
          go_wp2_with fail
          go_ret
          exact ⟨rfl, HB8.out⟩
    · have k7 : x + n ≤ k := by omega
      clear k5
      go_enter Try.func3, Try.ntmps3
      go_wp2_with fail
      refine H0.out.mono ?_
      rintro e w1 ⟨m, a, b, rfl, hm, h1, h2, h3, ho⟩
      have HM1 := Lib.hid hm; have HB1 := Lib.hid ho.nil_below; clear hm ho
      go_wp2_with fail
      refine (live_any m a b _ _ _ _ HM1.out).mono ?_
      rintro e w2 ⟨rfl, hm, ho⟩
      rw [G1.out] at hm
      have HM2 := Lib.hid hm; have HB2 := Lib.hid (below_only3 HB1.out (Nat.le_refl _) ho h1 h2 h3); clear hm ho
      go_wp2_with fail
      refine (store_any m a b _ _ _ _ HM2.out).mono ?_
      rintro e w3 ⟨rfl, hm, ho⟩
      rw [G2.out] at hm
      have HM3 := Lib.hid hm; have HB3 := Lib.hid (below_only3 HB2.out (Nat.le_refl _) ho h1 h2 h3); clear hm ho
      go_wp2_with fail
      refine (live_any m a b _ _ _ _ HM3.out).mono ?_
      rintro e w4 ⟨rfl, hm, ho⟩
      rw [G3.out] at hm
      rw [E3.out]
      have HM4 := Lib.hid (⟨_, hm⟩ : IsMemT w4 m a b s3); have HB4 := Lib.hid (below_only3 HB3.out (Nat.le_refl _) ho h1 h2 h3); clear hm ho
      go_wp2_with fail
      refine (loadT_any m a b s3 _ _ HM4.out).mono ?_
      rintro e w5 ⟨rfl, hm, ho⟩
      have HM5 := Lib.hid hm; have HB5 := Lib.hid (below_only3 HB4.out (Nat.le_refl _) ho h1 h2 h3); clear hm ho
      go_wp2_with fail
      go_loopw [15] (fun t wr => ∃ i : Nat, i ≤ 50 ∧ t = .int .i64 i ∧ IsMemT wr m a b s3 ∧ Below w.heap.size w wr) (fun t _ => 50 - (intOf t).toNat)
      case atStart => exact ⟨0, by omega, rfl, HM5.out, HB5.out⟩
      case round =>
        obtain ⟨i, hi, rfl, hm, hb⟩ := hrel
        have HM6 := Lib.hid hm; have HB6 := Lib.hid hb; clear hm hb
        by_cases hlt : i < 50
        · rcases hlive.out i hlt with ⟨hl, hcd⟩ | ⟨hl, hcd⟩
          · have HL := Lib.hid hl; clear hl
            by_cases hik : i = k
            · obtain rfl := hik
              go_wp2_with fail
              refine (loadT_any m a b s3 _ _ HM6.out).mono ?_
              rintro e w7 ⟨rfl, hm, ho⟩
              have HM7 := Lib.hid hm; have HB7 := Lib.hid (below_only3 HB6.out (Nat.le_refl _) ho h1 h2 h3); clear hm ho
              go_wp2_with fail
              go_roundw
              case rel => exact ⟨i + 1, by omega, by go_num, HM7.out, HB7.out⟩
              case measure => simp [intOf]; omega
            · have hx1 : x ≤ i := by rcases HL.out with h | h <;> omega
              have hx2 : (i : Int) < x + n := by rcases HL.out with h | h <;> omega
              go_wp2_with fail
              refine (loadT_any m a b s3 _ _ HM6.out).mono ?_
              rintro e w7 ⟨rfl, hm, ho⟩
              have HM7 := Lib.hid hm; have HB7 := Lib.hid (below_only3 HB6.out (Nat.le_refl _) ho h1 h2 h3); clear hm ho
              go_wp2_with fail
              go_roundw
              case rel => exact ⟨i + 1, by omega, by go_num, HM7.out, HB7.out⟩
              case measure => simp [intOf]; omega
          · have hik : i ≠ k := fun h => hl (Or.inl h)
            have hxx : (i : Int) < x ∨ x + n ≤ i := by
              rcases Int.lt_or_le (i : Int) x with h | h
              · exact Or.inl h
              · exact Or.inr (by rcases Int.lt_or_le (i : Int) (x + n) with h' | h'
                                 · exact absurd (Or.inr ⟨by simp, h, h'⟩) hl
                                 · exact h')
            clear hl
            rcases hxx with hxx | hxx
            · go_wp2_with fail
              refine (loadT_any m a b s3 _ _ HM6.out).mono ?_
              rintro e w7 ⟨rfl, hm, ho⟩
              have HM7 := Lib.hid hm; have HB7 := Lib.hid (below_only3 HB6.out (Nat.le_refl _) ho h1 h2 h3); clear hm ho
              go_wp2_with fail
              go_roundw
              case rel => exact ⟨i + 1, by omega, by go_num, HM7.out, HB7.out⟩
              case measure => simp [intOf]; omega
            · have hx1 : x ≤ i := by omega
              have hx9 : ((i : Int) == k) = false := by rw [beq_eq_false_iff_ne]; omega
              go_wp2_with fail
              refine (loadT_any m a b s3 _ _ HM6.out).mono ?_
              rintro e w7 ⟨rfl, hm, ho⟩
              have HM7 := Lib.hid hm; have HB7 := Lib.hid (below_only3 HB6.out (Nat.le_refl _) ho h1 h2 h3); clear hm ho
              go_wp2_with fail
              go_roundw
              case rel => exact ⟨i + 1, by omega, by go_num, HM7.out, HB7.out⟩
              case measure => simp [intOf]; omega
        · go_wp2_with fail
          refine (awake_any _).mono ?_
          rintro e w8 ⟨rfl, hb⟩
          have HB8 := Lib.hid (below_below HB6.out (Nat.le_refl _) hb); clear hb
          go_wp2_with fail
          go_ret
          exact ⟨rfl, HB8.out⟩

end Go.Proofs.Ytpbbpineepdeeaa
