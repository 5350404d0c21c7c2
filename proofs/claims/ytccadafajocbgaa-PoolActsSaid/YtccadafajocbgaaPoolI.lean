/- Layer 10: right, words, Words. -/
import Derived.Test.YtccadafajocbgaaPoolH
open Go Go.RowKit
namespace Go.Proofs.Ytccadafajocbgaa

/-- A shape as a value. -/
def shpV (W z0 z1 z2 n0 n1 n2 : Int) : Value := .agg #[.int .i64 W, .int .i64 z0, .int .i64 z1, .int .i64 z2, .int .i64 n0, .int .i64 n1, .int .i64 n2]
def three (a b c : Int) (k : Nat) : Int := match k with | 0 => a | 1 => b | _ => c
def okU (W : Int) (z n : Nat → Int) : Nat → Bool
  | 0 => decide (1 ≤ W) && decide (W ≤ 64)
  | k + 1 => okU W z n k && decide (1 ≤ z k) && decide (z k ≤ 64) && decide (0 ≤ n k) && decide (n k ≤ 1000)

theorem right_any (W z0 z1 z2 n0 n1 n2 : Int) (w : World) :
    Calls Try.prog 33 #[shpV W z0 z1 z2 n0 n1 n2] w fun e w' => e = .returned (.bool (okU W (three z0 z1 z2) (three n0 n1 n2) 3)) ∧ Turn (fun _ => False) w w' := by
  unfold shpV
  have hz : ∀ k, k < 3 → (w.alloc (.cells #[.int .i64 W, .int .i64 z0, .int .i64 z1, .int .i64 z2, .int .i64 n0, .int .i64 n1, .int .i64 n2] 36)).cell? ⟨w.heap.size, 1 + k, none⟩ = some (.int .i64 (three z0 z1 z2 k)) := by
    intro k hk
    rw [(Blk.new w [.int .i64 W, .int .i64 z0, .int .i64 z1, .int .i64 z2, .int .i64 n0, .int .i64 n1, .int .i64 n2] 36).cell]
    rcases (show k = 0 ∨ k = 1 ∨ k = 2 by omega) with rfl | rfl | rfl <;> rfl
  have hn : ∀ k, k < 3 → (w.alloc (.cells #[.int .i64 W, .int .i64 z0, .int .i64 z1, .int .i64 z2, .int .i64 n0, .int .i64 n1, .int .i64 n2] 36)).cell? ⟨w.heap.size, 4 + k, none⟩ = some (.int .i64 (three n0 n1 n2 k)) := by
    intro k hk
    rw [(Blk.new w [.int .i64 W, .int .i64 z0, .int .i64 z1, .int .i64 z2, .int .i64 n0, .int .i64 n1, .int .i64 n2] 36).cell]
    rcases (show k = 0 ∨ k = 1 ∨ k = 2 by omega) with rfl | rfl | rfl <;> rfl
  have HZ := Lib.hid hz; have HN := Lib.hid hn; clear hz hn
  by_cases h1 : 1 ≤ W
  · by_cases h2 : W ≤ 64
    · skip
      go_enter Try.func33, Try.ntmps33
      go_wp2_with fail
      go_loop [3, 4, 13] (fun t3 t4 t13 => ∃ k : Nat, k ≤ 3 ∧ t13 = .int .i64 k ∧ t3 = .bool (okU W (three z0 z1 z2) (three n0 n1 n2) k)) (fun _ _ t => 3 - (intOf t).toNat)
      case atStart => exact ⟨0, by omega, rfl, by first | (simp [okU, *]; done) | (simp [okU, *]; omega)⟩
      case round =>
        obtain ⟨k, hk, rfl, rfl⟩ := hrel
        by_cases hlt : k < 3
        · have cz := HZ.out k hlt
          have cn := HN.out k hlt
          have e : okU W (three z0 z1 z2) (three n0 n1 n2) (k + 1) = (okU W (three z0 z1 z2) (three n0 n1 n2) k && decide (1 ≤ three z0 z1 z2 k) && decide (three z0 z1 z2 k ≤ 64) && decide (0 ≤ three n0 n1 n2 k) && decide (three n0 n1 n2 k ≤ 1000)) := rfl
          have HE := Lib.hid e; clear e
          generalize three z0 z1 z2 k = z at *
          generalize three n0 n1 n2 k = n at *
          generalize okU W (three z0 z1 z2) (three n0 n1 n2) k = ok at *
          cases ok with
          | false =>
            go_wp2_with fail
            go_round
            case rel => exact ⟨k + 1, by omega, by go_num, by rw [HE.out]; rfl⟩
            case measure => simp [intOf]; omega
          | true =>
            by_cases q1 : 1 ≤ z
            · by_cases q2 : z ≤ 64
              · by_cases q3 : 0 ≤ n
                · by_cases q4 : n ≤ 1000
                  · go_wp2_with fail
                    go_round
                    case rel => exact ⟨k + 1, by omega, by go_num, by rw [HE.out]; simp [q1, q2, q3, q4]⟩
                    case measure => simp [intOf]; omega
                  · go_wp2_with fail
                    go_round
                    case rel => exact ⟨k + 1, by omega, by go_num, by rw [HE.out]; simp [q1, q2, q3, q4]⟩
                    case measure => simp [intOf]; omega
                · go_wp2_with fail
                  go_round
                  case rel => exact ⟨k + 1, by omega, by go_num, by rw [HE.out]; simp [q1, q2, q3]⟩
                  case measure => simp [intOf]; omega
              · go_wp2_with fail
                go_round
                case rel => exact ⟨k + 1, by omega, by go_num, by rw [HE.out]; simp [q1, q2]⟩
                case measure => simp [intOf]; omega
            · go_wp2_with fail
              go_round
              case rel => exact ⟨k + 1, by omega, by go_num, by rw [HE.out]; simp [q1]⟩
              case measure => simp [intOf]; omega
        · obtain rfl : k = 3 := by omega
          go_wp2_with fail
          go_ret
          exact ⟨rfl, (Turn.refl _ w).alloc _⟩
    · skip
      go_enter Try.func33, Try.ntmps33
      go_wp2_with fail
      go_loop [3, 4, 13] (fun t3 t4 t13 => ∃ k : Nat, k ≤ 3 ∧ t13 = .int .i64 k ∧ t3 = .bool (okU W (three z0 z1 z2) (three n0 n1 n2) k)) (fun _ _ t => 3 - (intOf t).toNat)
      case atStart => exact ⟨0, by omega, rfl, by first | (simp [okU, *]; done) | (simp [okU, *]; omega)⟩
      case round =>
        obtain ⟨k, hk, rfl, rfl⟩ := hrel
        by_cases hlt : k < 3
        · have cz := HZ.out k hlt
          have cn := HN.out k hlt
          have e : okU W (three z0 z1 z2) (three n0 n1 n2) (k + 1) = (okU W (three z0 z1 z2) (three n0 n1 n2) k && decide (1 ≤ three z0 z1 z2 k) && decide (three z0 z1 z2 k ≤ 64) && decide (0 ≤ three n0 n1 n2 k) && decide (three n0 n1 n2 k ≤ 1000)) := rfl
          have HE := Lib.hid e; clear e
          generalize three z0 z1 z2 k = z at *
          generalize three n0 n1 n2 k = n at *
          generalize okU W (three z0 z1 z2) (three n0 n1 n2) k = ok at *
          cases ok with
          | false =>
            go_wp2_with fail
            go_round
            case rel => exact ⟨k + 1, by omega, by go_num, by rw [HE.out]; rfl⟩
            case measure => simp [intOf]; omega
          | true =>
            by_cases q1 : 1 ≤ z
            · by_cases q2 : z ≤ 64
              · by_cases q3 : 0 ≤ n
                · by_cases q4 : n ≤ 1000
                  · go_wp2_with fail
                    go_round
                    case rel => exact ⟨k + 1, by omega, by go_num, by rw [HE.out]; simp [q1, q2, q3, q4]⟩
                    case measure => simp [intOf]; omega
                  · go_wp2_with fail
                    go_round
                    case rel => exact ⟨k + 1, by omega, by go_num, by rw [HE.out]; simp [q1, q2, q3, q4]⟩
                    case measure => simp [intOf]; omega
                · go_wp2_with fail
                  go_round
                  case rel => exact ⟨k + 1, by omega, by go_num, by rw [HE.out]; simp [q1, q2, q3]⟩
                  case measure => simp [intOf]; omega
              · go_wp2_with fail
                go_round
                case rel => exact ⟨k + 1, by omega, by go_num, by rw [HE.out]; simp [q1, q2]⟩
                case measure => simp [intOf]; omega
            · go_wp2_with fail
              go_round
              case rel => exact ⟨k + 1, by omega, by go_num, by rw [HE.out]; simp [q1]⟩
              case measure => simp [intOf]; omega
        · obtain rfl : k = 3 := by omega
          go_wp2_with fail
          go_ret
          exact ⟨rfl, (Turn.refl _ w).alloc _⟩
  · skip
    go_enter Try.func33, Try.ntmps33
    go_wp2_with fail
    go_loop [3, 4, 13] (fun t3 t4 t13 => ∃ k : Nat, k ≤ 3 ∧ t13 = .int .i64 k ∧ t3 = .bool (okU W (three z0 z1 z2) (three n0 n1 n2) k)) (fun _ _ t => 3 - (intOf t).toNat)
    case atStart => exact ⟨0, by omega, rfl, by first | (simp [okU, *]; done) | (simp [okU, *]; omega)⟩
    case round =>
      obtain ⟨k, hk, rfl, rfl⟩ := hrel
      by_cases hlt : k < 3
      · have cz := HZ.out k hlt
        have cn := HN.out k hlt
        have e : okU W (three z0 z1 z2) (three n0 n1 n2) (k + 1) = (okU W (three z0 z1 z2) (three n0 n1 n2) k && decide (1 ≤ three z0 z1 z2 k) && decide (three z0 z1 z2 k ≤ 64) && decide (0 ≤ three n0 n1 n2 k) && decide (three n0 n1 n2 k ≤ 1000)) := rfl
        have HE := Lib.hid e; clear e
        generalize three z0 z1 z2 k = z at *
        generalize three n0 n1 n2 k = n at *
        generalize okU W (three z0 z1 z2) (three n0 n1 n2) k = ok at *
        cases ok with
        | false =>
          go_wp2_with fail
          go_round
          case rel => exact ⟨k + 1, by omega, by go_num, by rw [HE.out]; rfl⟩
          case measure => simp [intOf]; omega
        | true =>
          by_cases q1 : 1 ≤ z
          · by_cases q2 : z ≤ 64
            · by_cases q3 : 0 ≤ n
              · by_cases q4 : n ≤ 1000
                · go_wp2_with fail
                  go_round
                  case rel => exact ⟨k + 1, by omega, by go_num, by rw [HE.out]; simp [q1, q2, q3, q4]⟩
                  case measure => simp [intOf]; omega
                · go_wp2_with fail
                  go_round
                  case rel => exact ⟨k + 1, by omega, by go_num, by rw [HE.out]; simp [q1, q2, q3, q4]⟩
                  case measure => simp [intOf]; omega
              · go_wp2_with fail
                go_round
                case rel => exact ⟨k + 1, by omega, by go_num, by rw [HE.out]; simp [q1, q2, q3]⟩
                case measure => simp [intOf]; omega
            · go_wp2_with fail
              go_round
              case rel => exact ⟨k + 1, by omega, by go_num, by rw [HE.out]; simp [q1, q2]⟩
              case measure => simp [intOf]; omega
          · go_wp2_with fail
            go_round
            case rel => exact ⟨k + 1, by omega, by go_num, by rw [HE.out]; simp [q1]⟩
            case measure => simp [intOf]; omega
      · obtain rfl : k = 3 := by omega
        go_wp2_with fail
        go_ret
        exact ⟨rfl, (Turn.refl _ w).alloc _⟩

/-- A shape that may be. -/
structure Shp where
  W : Nat
  z : Nat → Nat
  n : Nat → Nat
structure Shp.Right (s : Shp) : Prop where
  W1 : 1 ≤ s.W
  W2 : s.W ≤ 64
  z1 : ∀ k, k < 3 → 1 ≤ s.z k ∧ s.z k ≤ 64
  n1 : ∀ k, k < 3 → s.n k ≤ 1000
def Shp.val (s : Shp) : Value := shpV s.W (s.z 0) (s.z 1) (s.z 2) (s.n 0) (s.n 1) (s.n 2)
/-- how many words the blocks of the first k classes have -/
def Shp.ws (s : Shp) : Nat → Nat
  | 0 => 0
  | k + 1 => s.ws k + s.W * s.n k * s.z k

theorem Shp.term {s : Shp} (h : s.Right) {k : Nat} (hk : k < 3) : s.W * s.n k ≤ 64000 ∧ s.W * s.n k * s.z k ≤ 4096000 := by
  have h1 : s.W * s.n k ≤ 64 * 1000 := Nat.mul_le_mul h.W2 (h.n1 k hk)
  have h2 : s.W * s.n k * s.z k ≤ 64 * 1000 * 64 := Nat.mul_le_mul h1 (h.z1 k hk).2
  omega
theorem Shp.ws_le {s : Shp} (h : s.Right) : ∀ k, k ≤ 3 → s.ws k ≤ k * 4096000
  | 0, _ => by simp [Shp.ws]
  | k + 1, hk => by
    have := Shp.ws_le h k (by omega)
    have := (Shp.term h (k := k) (by omega)).2
    rw [Shp.ws, Nat.succ_mul]; omega
theorem three_nat (f : Nat → Nat) {k : Nat} (hk : k < 3) : three (f 0) (f 1) (f 2) k = f k := by
  rcases (show k = 0 ∨ k = 1 ∨ k = 2 by omega) with rfl | rfl | rfl <;> rfl
theorem Shp.okU {s : Shp} (h : s.Right) : okU s.W (three (s.z 0) (s.z 1) (s.z 2)) (three (s.n 0) (s.n 1) (s.n 2)) 3 = true := by
  have z0 := h.z1 0 (by omega); have z1 := h.z1 1 (by omega); have z2 := h.z1 2 (by omega)
  have n0 := h.n1 0 (by omega); have n1 := h.n1 1 (by omega); have n2 := h.n1 2 (by omega)
  have := h.W1; have := h.W2
  simp [Proofs.Ytccadafajocbgaa.okU, three]
  omega

theorem words_shape (s : Shp) (h : s.Right) (w : World) : Calls Try.prog 34 #[s.val] w fun e w' => e = .returned (.int .i64 (s.ws 3)) ∧ Turn (fun _ => False) w w' := by
  unfold Shp.val shpV
  obtain ⟨wb, hwb⟩ : ∃ wb, wb = w.alloc (.cells #[.int .i64 s.W, .int .i64 (s.z 0), .int .i64 (s.z 1), .int .i64 (s.z 2), .int .i64 (s.n 0), .int .i64 (s.n 1), .int .i64 (s.n 2)] 36) := ⟨_, rfl⟩
  have hblk : Blk wb w.heap.size [.int .i64 s.W, .int .i64 (s.z 0), .int .i64 (s.z 1), .int .i64 (s.z 2), .int .i64 (s.n 0), .int .i64 (s.n 1), .int .i64 (s.n 2)] 36 := by rw [hwb]; exact Blk.new w _ _
  have hz : ∀ k, k < 3 → wb.cell? ⟨w.heap.size, 1 + k, none⟩ = some (.int .i64 (s.z k)) := by
    intro k hk
    rw [hblk.cell]
    rcases (show k = 0 ∨ k = 1 ∨ k = 2 by omega) with rfl | rfl | rfl <;> rfl
  have hn : ∀ k, k < 3 → wb.cell? ⟨w.heap.size, 4 + k, none⟩ = some (.int .i64 (s.n k)) := by
    intro k hk
    rw [hblk.cell]
    rcases (show k = 0 ∨ k = 1 ∨ k = 2 by omega) with rfl | rfl | rfl <;> rfl
  have hW := hblk.cell 0
  simp at hW
  have hT : Turn (fun _ => False) w wb := by rw [hwb]; exact (Turn.refl _ w).alloc _
  have HZ := Lib.hid hz; have HN := Lib.hid hn; have HT := Lib.hid hT; have HR := Lib.hid h
  clear hz hn hT h hblk
  go_enter Try.func34, Try.ntmps34
  go_wp2_with fail
  rw [← hwb]
  obtain ⟨bx, hbx⟩ : ∃ bx, bx = w.heap.size := ⟨_, rfl⟩
  rw [← hbx] at HZ HN hW ⊢
  have HX := Lib.hid hwb
  clear hwb hbx
  obtain ⟨W, hWW⟩ : ∃ W, W = s.W := ⟨_, rfl⟩
  rw [← hWW] at hW
  have HWW := Lib.hid hWW; clear hWW
  go_loopw [3, 4, 5] (fun t3 t4 t5 wr => ∃ k : Nat, k ≤ 3 ∧ t5 = .int .i64 k ∧ t3 = .int .i64 (s.ws k) ∧ ∃ q, wr = wb.drewN q) (fun _ _ t _ => 3 - (intOf t).toNat)
  case atStart => exact ⟨0, by omega, rfl, rfl, 0, rfl⟩
  case round =>
    obtain ⟨k, hk, rfl, rfl, q, rfl⟩ := hrel
    by_cases hlt : k < 3
    · have cz := HZ.out k hlt
      have cn := HN.out k hlt
      have hs := Shp.ws_le HR.out k (by omega)
      obtain ⟨t1, t2⟩ := Shp.term HR.out hlt
      have e : s.ws (k + 1) = s.ws k + s.W * s.n k * s.z k := rfl
      rw [← HWW.out] at e t1 t2
      have HE := Lib.hid e; clear e
      generalize s.z k = z at *
      generalize s.n k = n at *
      generalize s.ws k = sm at *
      have hsm : sm ≤ 12288000 := by omega
      have m1 : IntKind.i64.wrap ((W : Int) * (n : Int)) = (W : Int) * (n : Int) := IntWalk.i64_in _ (by rw [← Int.natCast_mul]; omega)
      have m2 : IntKind.i64.wrap ((W : Int) * (n : Int) * (z : Int)) = (W : Int) * (n : Int) * (z : Int) := IntWalk.i64_in _ (by rw [← Int.natCast_mul, ← Int.natCast_mul]; omega)
      have m3 : IntKind.i64.wrap ((sm : Int) + (W : Int) * (n : Int) * (z : Int)) = (sm : Int) + (W : Int) * (n : Int) * (z : Int) := IntWalk.i64_in _ (by rw [← Int.natCast_mul, ← Int.natCast_mul]; omega)
      have m4 : ((sm : Int) + (W : Int) * (n : Int) * (z : Int)) = ((sm + W * n * z : Nat) : Int) := by rw [← Int.natCast_mul, ← Int.natCast_mul]; omega
      have M4 := Lib.hid m4
      clear m4 t1 t2 hs
      go_wp2_with fail
      go_quiet (fail)
      go_wp2_with fail
      go_roundw
      case rel => exact ⟨k + 1, by omega, by go_num, by rw [HE.out, ← M4.out], _, rfl⟩
      case measure => simp [intOf]; omega
    · obtain rfl : k = 3 := by omega
      go_wp2_with fail
      go_ret
      exact ⟨rfl, HT.out.drewN q⟩

theorem shp_cells {w : World} {b : Nat} {c0 c1 c2 c3 c4 c5 c6 : Int} {t : TypeId} (h : Blk w b [.int .i64 c0, .int .i64 c1, .int .i64 c2, .int .i64 c3, .int .i64 c4, .int .i64 c5, .int .i64 c6] t) :
    w.cell? ⟨b, 0, none⟩ = some (.int .i64 c0) ∧ w.cell? ⟨b, 1, none⟩ = some (.int .i64 c1) ∧ w.cell? ⟨b, 2, none⟩ = some (.int .i64 c2) ∧ w.cell? ⟨b, 3, none⟩ = some (.int .i64 c3) ∧ w.cell? ⟨b, 4, none⟩ = some (.int .i64 c4) ∧ w.cell? ⟨b, 5, none⟩ = some (.int .i64 c5) ∧ w.cell? ⟨b, 6, none⟩ = some (.int .i64 c6) :=
  ⟨h.cell 0, h.cell 1, h.cell 2, h.cell 3, h.cell 4, h.cell 5, h.cell 6⟩

theorem wordsP_right (s : Shp) (h : s.Right) (w : World) : Calls Try.prog 29 #[s.val] w fun e w' => e = .returned (.int .i64 (if s.ws 3 ≤ 65536 then s.ws 3 else 0)) ∧ Turn (fun _ => False) w w' := by
  have CR := Lib.hid (fun w => right_any s.W (s.z 0) (s.z 1) (s.z 2) (s.n 0) (s.n 1) (s.n 2) w)
  rw [Shp.okU h] at CR
  have CW := Lib.hid (fun w => words_shape s h w)
  unfold Shp.val at CW
  unfold Shp.val
  unfold shpV at CR CW ⊢
  generalize s.ws 3 = ws at *
  clear h
  have hb0 := Lib.hid (Blk.new w [.int .i64 s.W, .int .i64 (s.z 0), .int .i64 (s.z 1), .int .i64 (s.z 2), .int .i64 (s.n 0), .int .i64 (s.n 1), .int .i64 (s.n 2)] 36)
  have HT0 := Lib.hid ((Turn.refl (fun _ => False) w).alloc (.cells #[.int .i64 s.W, .int .i64 (s.z 0), .int .i64 (s.z 1), .int .i64 (s.z 2), .int .i64 (s.n 0), .int .i64 (s.n 1), .int .i64 (s.n 2)] 36))
  by_cases hq : ws ≤ 65536
  · rw [if_pos hq]
    have hq2 : ¬ 65536 < ws := by omega
    go_enter Try.func29, Try.ntmps29
    go_wp2_with fail
    refine (CR.out _).mono ?_
    rintro e w1 ⟨rfl, ht⟩
    have hb1 := Lib.hid (hb0.out.turn ht (fun h => h)); have HT1 := Lib.hid (HT0.out.trans ht (fun _ h => .inl h))
    obtain ⟨c0, c1, c2, c3, c4, c5, c6⟩ := shp_cells hb1.out
    clear ht
    go_wp2_with fail
    refine (CW.out _).mono ?_
    rintro e w2 ⟨rfl, ht⟩
    have hb2 := Lib.hid (hb1.out.turn ht (fun h => h)); have HT2 := Lib.hid (HT1.out.trans ht (fun _ h => .inl h))
    clear ht c0 c1 c2 c3 c4 c5 c6
    obtain ⟨c0, c1, c2, c3, c4, c5, c6⟩ := shp_cells hb2.out
    go_wp2_with fail
    refine (CW.out _).mono ?_
    rintro e w3 ⟨rfl, ht⟩
    have HT3 := Lib.hid (HT2.out.trans ht (fun _ h => .inl h))
    clear ht c0 c1 c2 c3 c4 c5 c6
    go_wp2_with fail
    go_ret
    exact ⟨rfl, HT3.out⟩
  · rw [if_neg hq]
    have hq2 : 65536 < ws := by omega
    go_enter Try.func29, Try.ntmps29
    go_wp2_with fail
    refine (CR.out _).mono ?_
    rintro e w1 ⟨rfl, ht⟩
    have hb1 := Lib.hid (hb0.out.turn ht (fun h => h)); have HT1 := Lib.hid (HT0.out.trans ht (fun _ h => .inl h))
    obtain ⟨c0, c1, c2, c3, c4, c5, c6⟩ := shp_cells hb1.out
    clear ht
    go_wp2_with fail
    refine (CW.out _).mono ?_
    rintro e w2 ⟨rfl, ht⟩
    have HT2 := Lib.hid (HT1.out.trans ht (fun _ h => .inl h))
    clear ht c0 c1 c2 c3 c4 c5 c6
    go_wp2_with fail
    go_ret
    exact ⟨rfl, HT2.out⟩

theorem wordsP_wrong (W z0 z1 z2 n0 n1 n2 : Int) (h : okU W (three z0 z1 z2) (three n0 n1 n2) 3 = false) (w : World) : Calls Try.prog 29 #[shpV W z0 z1 z2 n0 n1 n2] w fun e w' => e = .returned (.int .i64 0) ∧ Turn (fun _ => False) w w' := by
  have CR := Lib.hid (fun w => right_any W z0 z1 z2 n0 n1 n2 w)
  rw [h] at CR
  unfold shpV at CR ⊢
  have HT0 := Lib.hid ((Turn.refl (fun _ => False) w).alloc (.cells #[.int .i64 W, .int .i64 z0, .int .i64 z1, .int .i64 z2, .int .i64 n0, .int .i64 n1, .int .i64 n2] 36))
  clear h
  go_enter Try.func29, Try.ntmps29
  go_wp2_with fail
  refine (CR.out _).mono ?_
  rintro e w1 ⟨rfl, ht⟩
  have HT1 := Lib.hid (HT0.out.trans ht (fun _ h => .inl h))
  clear ht
  go_wp2_with fail
  go_ret
  exact ⟨rfl, HT1.out⟩

/-! New that makes none -/
theorem new_wrong (m : Option Addr) (base W z0 z1 z2 n0 n1 n2 : Int) (h : okU W (three z0 z1 z2) (three n0 n1 n2) 3 = false) (w : World) : Calls Try.prog 12 #[.pointer m, .int .i64 base, shpV W z0 z1 z2 n0 n1 n2] w fun e w' => e = .returned (.tuple #[.pointer none, .int .i64 1]) ∧ Turn (fun _ => False) w w' := by
  have CR := Lib.hid (fun w => right_any W z0 z1 z2 n0 n1 n2 w)
  rw [h] at CR
  unfold shpV at CR ⊢
  have HT0 := Lib.hid ((Turn.refl (fun _ => False) w).alloc (.cells #[.int .i64 W, .int .i64 z0, .int .i64 z1, .int .i64 z2, .int .i64 n0, .int .i64 n1, .int .i64 n2] 36))
  clear h
  go_enter Try.func12, Try.ntmps12
  go_wp2_with fail
  refine (CR.out _).mono ?_
  rintro e w1 ⟨rfl, ht⟩
  have HT1 := Lib.hid (HT0.out.trans ht (fun _ h => .inl h))
  clear ht
  go_wp2_with fail
  go_ret2
  exact ⟨rfl, HT1.out⟩

theorem new_long (m : Option Addr) (base : Int) (s : Shp) (h : s.Right) (hl : 65536 < s.ws 3) (w : World) : Calls Try.prog 12 #[.pointer m, .int .i64 base, s.val] w fun e w' => e = .returned (.tuple #[.pointer none, .int .i64 3]) ∧ Turn (fun _ => False) w w' := by
  have CR := Lib.hid (fun w => right_any s.W (s.z 0) (s.z 1) (s.z 2) (s.n 0) (s.n 1) (s.n 2) w)
  rw [Shp.okU h] at CR
  have CW := Lib.hid (fun w => words_shape s h w)
  unfold Shp.val at CW
  unfold Shp.val
  unfold shpV at CR CW ⊢
  generalize s.ws 3 = ws at *
  clear h
  have hb0 := Lib.hid (Blk.new w [.int .i64 s.W, .int .i64 (s.z 0), .int .i64 (s.z 1), .int .i64 (s.z 2), .int .i64 (s.n 0), .int .i64 (s.n 1), .int .i64 (s.n 2)] 36)
  have HT0 := Lib.hid ((Turn.refl (fun _ => False) w).alloc (.cells #[.int .i64 s.W, .int .i64 (s.z 0), .int .i64 (s.z 1), .int .i64 (s.z 2), .int .i64 (s.n 0), .int .i64 (s.n 1), .int .i64 (s.n 2)] 36))
  go_enter Try.func12, Try.ntmps12
  go_wp2_with fail
  refine (CR.out _).mono ?_
  rintro e w1 ⟨rfl, ht⟩
  have hb1 := Lib.hid (hb0.out.turn ht (fun h => h)); have HT1 := Lib.hid (HT0.out.trans ht (fun _ h => .inl h))
  obtain ⟨c0, c1, c2, c3, c4, c5, c6⟩ := shp_cells hb1.out
  clear ht
  go_wp2_with fail
  refine (CW.out _).mono ?_
  rintro e w2 ⟨rfl, ht⟩
  have HT2 := Lib.hid (HT1.out.trans ht (fun _ h => .inl h))
  clear ht c0 c1 c2 c3 c4 c5 c6
  go_wp2_with fail
  go_ret2
  exact ⟨rfl, HT2.out⟩

end Go.Proofs.Ytccadafajocbgaa
