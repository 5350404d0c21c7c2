/- Layer 10's laws: the document's Right; PoolNew returns true, whatever the shape and the base are. -/
import Derived.Test.YtccadafajocbgaaPoolQ
open Go Go.RowKit
namespace Go.Proofs.Ytccadafajocbgaa

theorem okU_false {W : Int} {z n : Nat → Int} {k : Nat} (h : okU W z n k = false) : ∀ j, okU W z n (k + j) = false
  | 0 => h
  | j + 1 => by
    have := okU_false h j
    show okU W z n (k + j + 1) = false
    rw [okU, this]; rfl

theorem rright_any (W z0 z1 z2 n0 n1 n2 : Int) (w : World) :
    Calls Try.prog 32 #[shpV W z0 z1 z2 n0 n1 n2] w fun e w' => e = .returned (.bool (okU W (three z0 z1 z2) (three n0 n1 n2) 3)) ∧ Turn (fun _ => False) w w' := by
  unfold shpV
  have hz : ∀ k, k < 3 → (w.alloc (.cells #[.int .i64 W, .int .i64 z0, .int .i64 z1, .int .i64 z2, .int .i64 n0, .int .i64 n1, .int .i64 n2] 26)).cell? ⟨w.heap.size, 1 + k, none⟩ = some (.int .i64 (three z0 z1 z2 k)) := by
    intro k hk
    rw [(Blk.new w [.int .i64 W, .int .i64 z0, .int .i64 z1, .int .i64 z2, .int .i64 n0, .int .i64 n1, .int .i64 n2] 26).cell]
    rcases (show k = 0 ∨ k = 1 ∨ k = 2 by omega) with rfl | rfl | rfl <;> rfl
  have hn : ∀ k, k < 3 → (w.alloc (.cells #[.int .i64 W, .int .i64 z0, .int .i64 z1, .int .i64 z2, .int .i64 n0, .int .i64 n1, .int .i64 n2] 26)).cell? ⟨w.heap.size, 4 + k, none⟩ = some (.int .i64 (three n0 n1 n2 k)) := by
    intro k hk
    rw [(Blk.new w [.int .i64 W, .int .i64 z0, .int .i64 z1, .int .i64 z2, .int .i64 n0, .int .i64 n1, .int .i64 n2] 26).cell]
    rcases (show k = 0 ∨ k = 1 ∨ k = 2 by omega) with rfl | rfl | rfl <;> rfl
  have HZ := Lib.hid hz; have HN := Lib.hid hn; clear hz hn
  by_cases h1 : W < 1
  · have e0 : okU W (three z0 z1 z2) (three n0 n1 n2) 3 = false := okU_false (k := 0) (by simp [okU]; omega) 3
    rw [e0]
    clear e0
    go_enter Try.func32, Try.ntmps32
    go_wp2_with fail
    go_ret
    exact ⟨rfl, (Turn.refl _ w).alloc _⟩
  · by_cases h2 : 64 < W
    · have e0 : okU W (three z0 z1 z2) (three n0 n1 n2) 3 = false := okU_false (k := 0) (by simp [okU]; omega) 3
      rw [e0]
      clear e0
      go_enter Try.func32, Try.ntmps32
      go_wp2_with fail
      go_ret
      exact ⟨rfl, (Turn.refl _ w).alloc _⟩
    · go_enter Try.func32, Try.ntmps32
      go_wp2_with fail
      go_loop [3] (fun t3 => ∃ k : Nat, k ≤ 3 ∧ t3 = .int .i64 k ∧ okU W (three z0 z1 z2) (three n0 n1 n2) k = true) (fun t => 3 - (intOf t).toNat)
      case atStart => exact ⟨0, by omega, rfl, by simp [okU]; omega⟩
      case round =>
        obtain ⟨k, hk, rfl, hok⟩ := hrel
        have HO := Lib.hid hok; clear hok
        by_cases hlt : k < 3
        · have cz := HZ.out k hlt
          have cn := HN.out k hlt
          have e : okU W (three z0 z1 z2) (three n0 n1 n2) (k + 1) = (okU W (three z0 z1 z2) (three n0 n1 n2) k && decide (1 ≤ three z0 z1 z2 k) && decide (three z0 z1 z2 k ≤ 64) && decide (0 ≤ three n0 n1 n2 k) && decide (three n0 n1 n2 k ≤ 1000)) := rfl
          have ef : okU W (three z0 z1 z2) (three n0 n1 n2) (k + 1) = false → okU W (three z0 z1 z2) (three n0 n1 n2) 3 = false := fun h => by
            have := okU_false h (2 - k)
            rwa [show k + 1 + (2 - k) = 3 by omega] at this
          have HE := Lib.hid e; have HF := Lib.hid ef; clear e ef
          rw [HO.out] at HE
          obtain ⟨ok1, hoq1⟩ : ∃ ok1, ok1 = okU W (three z0 z1 z2) (three n0 n1 n2) (k + 1) := ⟨_, rfl⟩
          rw [← hoq1] at HF HE
          have HQ1 := Lib.hid hoq1
          clear hoq1
          generalize three z0 z1 z2 k = z at *
          generalize three n0 n1 n2 k = n at *
          by_cases q1 : z < 1
          · have H3 := Lib.hid (HF.out (by rw [HE.out]; simp; omega))
            go_wp2_with fail
            go_ret
            exact ⟨by rw [H3.out]; rfl, (Turn.refl _ w).alloc _⟩
          · by_cases q2 : 64 < z
            · have H3 := Lib.hid (HF.out (by rw [HE.out]; simp; omega))
              go_wp2_with fail
              go_ret
              exact ⟨by rw [H3.out]; rfl, (Turn.refl _ w).alloc _⟩
            · by_cases q3 : n < 0
              · have H3 := Lib.hid (HF.out (by rw [HE.out]; simp; omega))
                go_wp2_with fail
                go_ret
                exact ⟨by rw [H3.out]; rfl, (Turn.refl _ w).alloc _⟩
              · by_cases q4 : 1000 < n
                · have H3 := Lib.hid (HF.out (by rw [HE.out]; simp; omega))
                  go_wp2_with fail
                  go_ret
                  exact ⟨by rw [H3.out]; rfl, (Turn.refl _ w).alloc _⟩
                · go_wp2_with fail
                  go_round
                  case rel => exact ⟨k + 1, by omega, by go_num, by rw [← HQ1.out, HE.out]; simp; omega⟩
                  case measure => simp [intOf]; omega
        · obtain rfl : k = 3 := by omega
          go_wp2_with fail
          go_ret
          exact ⟨by rw [HO.out]; rfl, (Turn.refl _ w).alloc _⟩

end Go.Proofs.Ytccadafajocbgaa
