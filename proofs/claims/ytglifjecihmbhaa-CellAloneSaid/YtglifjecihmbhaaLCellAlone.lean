/- CellAlone returns true, whatever the numbers are. -/
import Derived.Test.YtglifjecihmbhaaCellP
open Go Go.RowKit
namespace Go.Proofs.Ytglifjecihmbhaa

set_option maxRecDepth 100000 in
set_option maxHeartbeats 2000000 in
theorem cellAlone_walk (value why : Int) (many : Int) (w : World) (hz : (Lit.int .u8 many).wf = true) :
    Calls Try.prog 6 #[.int .i64 value, .int .i64 why, .int .u8 many] w fun e w' => e = .returned (.bool true) ∧ Below w.heap.size w w' := by
  obtain ⟨y, hy, rfl⟩ : ∃ y : Nat, y ≤ 255 ∧ many = y := by
    simp [Lit.wf] at hz
    have m1 : IntKind.u8.min = 0 := by decide
    have m2 : IntKind.u8.max = 255 := by decide
    rw [m1, m2] at hz
    exact ⟨many.toNat, by omega, by omega⟩
  clear hz
  obtain ⟨n, hn⟩ : ∃ n : Nat, (y : Int) % 6 = n := ⟨y % 6, by omega⟩
  have hn5 : n ≤ 5 := by omega
  go_enter Try.func6, Try.ntmps6
  go_wp2_with fail
  refine (world_any value why w).mono ?_
  rintro e w1 ⟨L, rfl, hL, hI⟩
  have HL := Lib.hid hL; have HI := Lib.hid hI; clear hL hI
  go_wp2_with fail
  try rw [hn]
  have HN := Lib.hid hn; clear hn
  go_loopw [10] (fun t wr => ∃ (x : Nat) (C : ACell) (A : Nat → AOp), 1 ≤ x ∧ x ≤ 6 ∧ t = .int .i64 x ∧ Inv w wr L C A ∧ Alone value why n x (n + 1 < x) C A) (fun t _ => 6 - (intOf t).toNat)
  case atStart => exact ⟨1, _, _, by omega, by omega, rfl, HI.out, (Alone.start value why n).congr ⟨fun h => h.elim, fun h => by omega⟩⟩
  case round =>
    obtain ⟨x, C, A, hx1, hx6, rfl, h, hj⟩ := hrel
    have HI2 := Lib.hid h; have HJ2 := Lib.hid hj; clear h hj HI
    by_cases hlt : x ≤ 5
    · by_cases hxn : x = n + 1
      · have hb : ((x : Int) == (n : Int) + 1) = true := by simp; omega
        have HXN := Lib.hid hxn; clear hxn
        go_wp2_with fail
        try rw [show decide ((x : Int) ≤ 5) = true from decide_eq_true (by omega)]
        try rw [hb]
        go_loopw [11] (fun t wr => ∃ i : Nat, i ≤ 4 ∧ t = .int .i64 i ∧ Inv w wr L (its 0 i (C, A)).1 (its 0 i (C, A)).2) (fun t _ => 4 - (intOf t).toNat)
        case atStart => exact ⟨0, by omega, rfl, HI2.out⟩
        case round =>
          obtain ⟨i, hi, rfl, h⟩ := hrel
          have HI3 := Lib.hid h; clear h HI2
          by_cases hi4 : i < 4
          · go_wp2_with fail
            refine (move_any HI3.out HL.out 0 (by omega) 0 (by omega) (by omega)).mono ?_
            rintro e w2 ⟨rfl, h⟩
            have HI4 := Lib.hid h; clear h
            go_wp2_with fail
            go_roundw
            case rel => exact ⟨i + 1, by omega, by go_num, HI4.out⟩
            case measure => simp [intOf]; omega
          · obtain rfl : i = 4 := by omega
            rw [show ((4 : Nat) : Int) = 4 from rfl]
            have HJ3 := Lib.hid (Alone.full (show Alone value why n (n + 1) False C A from by have := HJ2.out.congr (q := False) ⟨fun h => by have := HXN.out; omega, fun h => h.elim⟩; rw [HXN.out] at this; exact this))
            obtain ⟨C4, hC4⟩ : ∃ c, c = (its 0 4 (C, A)).1 := ⟨_, rfl⟩
            obtain ⟨A4, hA4⟩ : ∃ c, c = (its 0 4 (C, A)).2 := ⟨_, rfl⟩
            rw [← hC4, ← hA4] at HI3 HJ3
            clear HJ2 hC4 hA4
            go_wp2_with fail
            go_loopw [12] (fun t wr => ∃ i : Nat, i ≤ 3 ∧ t = .int .i64 i ∧ Inv w wr L (its x i (C4, A4)).1 (its x i (C4, A4)).2) (fun t _ => 3 - (intOf t).toNat)
            case atStart => exact ⟨0, by omega, rfl, HI3.out⟩
            case round =>
              obtain ⟨i, hi, rfl, h⟩ := hrel
              have HI4 := Lib.hid h; clear h HI3
              by_cases hi3 : i < 3
              · have hcu : IntKind.u8.wrap (x : Int) = x := by
                  rcases (show x = 1 ∨ x = 2 ∨ x = 3 ∨ x = 4 ∨ x = 5 by omega) with rfl | rfl | rfl | rfl | rfl <;> decide
                have hk6 : (x : Int) % 6 = (x : Int) := by omega
                have HK6 := Lib.hid hk6; clear hk6
                go_wp2_with fail
                refine (move_any HI4.out HL.out x (by omega) x HK6.out (by omega)).mono ?_
                rintro e w2 ⟨rfl, h⟩
                have HI5 := Lib.hid h; clear h
                go_wp2_with fail
                go_roundw
                case rel => exact ⟨i + 1, by omega, by go_num, HI5.out⟩
                case measure => simp [intOf]; omega
              · obtain rfl : i = 3 := by omega
                have HI5 := HI4; clear HI4
                have HJ4 := (HJ3.out.tell (by omega) (by omega))
                rw [← HXN.out] at HJ4
                have HJ5 := Lib.hid HJ4; clear HJ4
                go_wp2_with fail
                go_roundw
                case rel => exact ⟨x + 1, _, _, by omega, by omega, by go_num, HI5.out, HJ5.out.congr ⟨fun _ => by have := HXN.out; omega, fun _ => trivial⟩⟩
                case measure => simp [intOf]; omega
      · have hb : ((x : Int) == (n : Int) + 1) = false := by simp; omega
        have HXN := Lib.hid hxn; clear hxn
        go_wp2_with fail
        try rw [show decide ((x : Int) ≤ 5) = true from decide_eq_true (by omega)]
        try rw [hb]
        go_loopw [12] (fun t wr => ∃ i : Nat, i ≤ 3 ∧ t = .int .i64 i ∧ Inv w wr L (its x i (C, A)).1 (its x i (C, A)).2) (fun t _ => 3 - (intOf t).toNat)
        case atStart => exact ⟨0, by omega, rfl, HI2.out⟩
        case round =>
          obtain ⟨i, hi, rfl, h⟩ := hrel
          have HI4 := Lib.hid h; clear h HI2
          by_cases hi3 : i < 3
          · have hcu : IntKind.u8.wrap (x : Int) = x := by
              rcases (show x = 1 ∨ x = 2 ∨ x = 3 ∨ x = 4 ∨ x = 5 by omega) with rfl | rfl | rfl | rfl | rfl <;> decide
            have hk6 : (x : Int) % 6 = (x : Int) := by omega
            have HK6 := Lib.hid hk6; clear hk6
            go_wp2_with fail
            refine (move_any HI4.out HL.out x (by omega) x HK6.out (by omega)).mono ?_
            rintro e w2 ⟨rfl, h⟩
            have HI5 := Lib.hid h; clear h
            go_wp2_with fail
            go_roundw
            case rel => exact ⟨i + 1, by omega, by go_num, HI5.out⟩
            case measure => simp [intOf]; omega
          · obtain rfl : i = 3 := by omega
            have HI5 := HI4; clear HI4
            have HJ4 : Alone value why n (x + 1) (n + 1 < x + 1) (its x 3 (C, A)).1 (its x 3 (C, A)).2 := by
              have hxn := HXN.out
              by_cases hxn' : x ≤ n
              · exact ((HJ2.out.congr (q := False) ⟨fun h => by omega, fun h => h.elim⟩).wait (by omega) hxn').congr ⟨fun h => h.elim, fun h => by omega⟩
              · exact ((HJ2.out.congr (q := True) ⟨fun _ => trivial, fun _ => by omega⟩).tell (by omega) (by omega)).congr ⟨fun _ => by omega, fun _ => trivial⟩
            have HJ5 := Lib.hid HJ4; clear HJ4
            go_wp2_with fail
            go_roundw
            case rel => exact ⟨x + 1, _, _, by omega, by omega, by go_num, HI5.out, HJ5.out⟩
            case measure => simp [intOf]; omega
    · obtain rfl : x = 6 := by omega
      rw [show ((6 : Nat) : Int) = 6 from rfl]
      by_cases hn5' : n = 5
      · subst hn5'
        have hx : ¬ (6 : Int) ≤ 5 := by omega
        have HJ3 := HJ2.out.congr (q := False) ⟨fun h => by omega, fun h => h.elim⟩
        have HJ4 := Lib.hid HJ3.full
        clear HJ3 HJ2 hx1 hx6 hlt
        rw [show ((5 : Nat) : Int) = 5 from rfl]
        go_wp2_with fail
        go_loopw [13] (fun t wr => ∃ i : Nat, i ≤ 4 ∧ t = .int .i64 i ∧ Inv w wr L (its 0 i (C, A)).1 (its 0 i (C, A)).2) (fun t _ => 4 - (intOf t).toNat)
        case atStart => exact ⟨0, by omega, rfl, HI2.out⟩
        case round =>
          obtain ⟨i, hi, rfl, h⟩ := hrel
          have HI3 := Lib.hid h; clear h HI2
          by_cases hi4 : i < 4
          · go_wp2_with fail
            refine (move_any HI3.out HL.out 0 (by omega) 0 (by omega) (by omega)).mono ?_
            rintro e w2 ⟨rfl, h⟩
            have HI4 := Lib.hid h; clear h
            go_wp2_with fail
            go_roundw
            case rel => exact ⟨i + 1, by omega, by go_num, HI4.out⟩
            case measure => simp [intOf]; omega
          · obtain rfl : i = 4 := by omega
            rw [show ((4 : Nat) : Int) = 4 from rfl]
            obtain ⟨C4, hC4⟩ : ∃ c, c = (its 0 4 (C, A)).1 := ⟨_, rfl⟩
            obtain ⟨A4, hA4⟩ : ∃ c, c = (its 0 4 (C, A)).2 := ⟨_, rfl⟩
            rw [← hC4, ← hA4] at HI3 HJ4
            clear hC4 hA4
            have c6 := (HI3.out.top.cell (6 + 0)).trans (L.cell6 C4 0 (by omega))
            simp at c6
            have hf := (HJ4.out.fill.1 trivial).2.2.2
            have HF := Lib.hid hf; clear hf
            go_wp2_with fail
            refine (HI3.out.endJ HL.out 0 (by omega)).mono ?_
            rintro e w2 ⟨rfl, h, ho⟩
            rw [AOp.endV0 _ HF.out.1, HF.out.2.1, HF.out.2.2]
            try rw [show ((5 : Nat) : Int) = 5 from rfl]
            have HI5 := Lib.hid h
            clear h ho c6
            obtain ⟨D, hD⟩ : ∃ D, D = w2.heap.size := ⟨_, rfl⟩
            have hd := newBlk w2 D [.bool false, .int .i64 0, .int .i64 0, .int .i64 5] 45 hD
            have HD0 := Lib.hid hd
            go_wp2_with fail
            rw [← hD]
            have HDE := Lib.hid hD
            clear hd hD
            go_loopw [16] (fun t wr => ∃ x : Nat, 1 ≤ x ∧ x ≤ 6 ∧ t = .int .i64 x ∧ Inv w wr L C4 A4 ∧ Blk wr D [.bool false, .int .i64 0, .int .i64 0, .int .i64 5] 45) (fun t _ => 6 - (intOf t).toNat)
            case atStart => exact ⟨1, by omega, by omega, rfl, HI5.out.only0 ((Only.refl _ _).alloc _), HD0.out⟩
            case round =>
              obtain ⟨x, hx1, hx6, rfl, h, hd⟩ := hrel
              clear HI5 HD0
              by_cases hlt5 : x ≤ 5
              · have c6 := (h.top.cell (6 + x)).trans (L.cell6 C4 x hlt5)
                have hvd := hd.lt
                have HI5 := Lib.hid h; have HD5 := Lib.hid hd
                clear h hd
                by_cases hxn : x ≤ 5
                · have hw := HJ4.out.waits x hx1 (by omega) hxn
                  have HW := Lib.hid hw; clear hw
                  go_wp2_with fail
                  refine (HI5.out.endJ HL.out x hlt5).mono ?_
                  rintro e w3 ⟨rfl, h, ho⟩
                  rw [AOp.endVx _ x (by omega) HW.out.1, HW.out.2]
                  generalize (A4 x).value = v1 at *
                  generalize (A4 x).why = v2 at *
                  generalize (A4 x).first = v3 at *
                  have HI6 := Lib.hid h; have HD6 := Lib.hid (HD5.out.only ho (by simp))
                  clear h ho c6
                  go_wp2_with fail
                  go_roundw
                  case rel => exact ⟨x + 1, by omega, by omega, by go_num, HI6.out.only0 ((Only.refl _ _).alloc _), HD6.out.alloc _⟩
                  case measure => simp [intOf]; omega
                · exact absurd hlt5 hxn
              · have HI5 := Lib.hid h
                have c3 := hd.cell 3
                simp at c3
                clear h hd
                have hx : ¬ x ≤ 5 := hlt5
                go_wp2_with fail
                refine (awake_any _).mono ?_
                rintro e wz ⟨rfl, hb⟩
                have HBz := Lib.hid (below_below HI5.out.bel (Nat.le_refl _) hb); clear hb
                go_wp2_with fail
                go_ret
                exact ⟨rfl, HBz.out⟩
      · have hb : ((n : Int) == 5) = false := by simp; omega
        have hx : ¬ (6 : Int) ≤ 5 := by omega
        have HJ4 := Lib.hid (HJ2.out.congr (q := True) ⟨fun _ => trivial, fun _ => by omega⟩)
        clear HJ2 hx1 hx6 hlt
        have c6 := (HI2.out.top.cell (6 + 0)).trans (L.cell6 C 0 (by omega))
        simp at c6
        have hf := (HJ4.out.fill.1 trivial).2.2.2
        have HF := Lib.hid hf; clear hf
        go_wp2_with fail
        refine (HI2.out.endJ HL.out 0 (by omega)).mono ?_
        rintro e w2 ⟨rfl, h, ho⟩
        rw [AOp.endV0 _ HF.out.1, HF.out.2.1, HF.out.2.2]
        try rw [show ((5 : Nat) : Int) = 5 from rfl]
        have HI5 := Lib.hid h
        clear h ho c6
        obtain ⟨D, hD⟩ : ∃ D, D = w2.heap.size := ⟨_, rfl⟩
        have hd := newBlk w2 D [.bool false, .int .i64 0, .int .i64 0, .int .i64 n] 45 hD
        have HD0 := Lib.hid hd
        go_wp2_with fail
        rw [← hD]
        have HDE := Lib.hid hD
        clear hd hD
        go_loopw [16] (fun t wr => ∃ x : Nat, 1 ≤ x ∧ x ≤ 6 ∧ t = .int .i64 x ∧ Inv w wr L C A ∧ Blk wr D [.bool false, .int .i64 0, .int .i64 0, .int .i64 n] 45) (fun t _ => 6 - (intOf t).toNat)
        case atStart => exact ⟨1, by omega, by omega, rfl, HI5.out.only0 ((Only.refl _ _).alloc _), HD0.out⟩
        case round =>
          obtain ⟨x, hx1, hx6, rfl, h, hd⟩ := hrel
          clear HI5 HD0
          by_cases hlt5 : x ≤ 5
          · have c6 := (h.top.cell (6 + x)).trans (L.cell6 C x hlt5)
            have hvd := hd.lt
            have HI5 := Lib.hid h; have HD5 := Lib.hid hd
            clear h hd
            by_cases hxn : x ≤ n
            · have hw := HJ4.out.waits x hx1 (by omega) hxn
              have HW := Lib.hid hw; clear hw
              go_wp2_with fail
              refine (HI5.out.endJ HL.out x hlt5).mono ?_
              rintro e w3 ⟨rfl, h, ho⟩
              rw [AOp.endVx _ x (by omega) HW.out.1, HW.out.2]
              generalize (A x).value = v1 at *
              generalize (A x).why = v2 at *
              generalize (A x).first = v3 at *
              have HI6 := Lib.hid h; have HD6 := Lib.hid (HD5.out.only ho (by simp))
              clear h ho c6
              go_wp2_with fail
              go_roundw
              case rel => exact ⟨x + 1, by omega, by omega, by go_num, HI6.out.only0 ((Only.refl _ _).alloc _), HD6.out.alloc _⟩
              case measure => simp [intOf]; omega
            · have hw := HJ4.out.told x (by omega) (by omega)
              have HW := Lib.hid hw; clear hw
              go_wp2_with fail
              refine (HI5.out.endJ HL.out x hlt5).mono ?_
              rintro e w3 ⟨rfl, h, ho⟩
              rw [AOp.endVx _ x (by omega) HW.out.1, HW.out.2.1, HW.out.2.2.1, HW.out.2.2.2]
              generalize (A x).first = v3 at *
              have HI6 := Lib.hid h; have HD6 := Lib.hid (HD5.out.only ho (by simp))
              clear h ho c6
              go_wp2_with fail
              go_roundw
              case rel => exact ⟨x + 1, by omega, by omega, by go_num, HI6.out.only0 ((Only.refl _ _).alloc _), HD6.out.alloc _⟩
              case measure => simp [intOf]; omega
          · have HI5 := Lib.hid h
            have c3 := hd.cell 3
            simp at c3
            clear h hd
            have hx : ¬ x ≤ 5 := hlt5
            go_wp2_with fail
            refine (awake_any _).mono ?_
            rintro e wz ⟨rfl, hb⟩
            have HBz := Lib.hid (below_below HI5.out.bel (Nat.le_refl _) hb); clear hb
            go_wp2_with fail
            go_ret
            exact ⟨rfl, HBz.out⟩

end Go.Proofs.Ytglifjecihmbhaa
