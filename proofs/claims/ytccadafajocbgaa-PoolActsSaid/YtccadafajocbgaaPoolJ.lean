/- Layer 10: New out of bounds. -/
import Derived.Test.YtccadafajocbgaaPoolI
open Go Go.RowKit
namespace Go.Proofs.Ytccadafajocbgaa

/-- The box of a shape. -/
abbrev boxed (s : Shp) (w : World) (b : Nat) : Prop := Blk w b [.int .i64 s.W, .int .i64 (s.z 0), .int .i64 (s.z 1), .int .i64 (s.z 2), .int .i64 (s.n 0), .int .i64 (s.n 1), .int .i64 (s.n 2)] 36

theorem new_nil (base : Int) (s : Shp) (h : s.Right) (hl : s.ws 3 ≤ 65536) (w : World) : Calls Try.prog 12 #[.pointer none, .int .i64 base, s.val] w fun e w' => e = .returned (.tuple #[.pointer none, .int .i64 6]) ∧ Turn (fun _ => False) w w' := by
  have CR := Lib.hid (fun w => right_any s.W (s.z 0) (s.z 1) (s.z 2) (s.n 0) (s.n 1) (s.n 2) w)
  rw [Shp.okU h] at CR
  have CW := Lib.hid (fun w => words_shape s h w)
  unfold Shp.val at CW
  unfold Shp.val
  unfold shpV at CR CW ⊢
  generalize s.ws 3 = ws at *
  have hl2 : ¬ 65536 < ws := by omega
  clear h
  have hb0 := Lib.hid (Blk.new w [.int .i64 s.W, .int .i64 (s.z 0), .int .i64 (s.z 1), .int .i64 (s.z 2), .int .i64 (s.n 0), .int .i64 (s.n 1), .int .i64 (s.n 2)] 36)
  have HT0 := Lib.hid ((Turn.refl (fun _ => False) w).alloc (.cells #[.int .i64 s.W, .int .i64 (s.z 0), .int .i64 (s.z 1), .int .i64 (s.z 2), .int .i64 (s.n 0), .int .i64 (s.n 1), .int .i64 (s.n 2)] 36))
  go_enter Try.func12, Try.ntmps12
  go_wp2_with fail
  refine (CR.out _).mono ?_
  rintro e w1 ⟨rfl, ht⟩
  have hb1 := Lib.hid (hb0.out.turn ht (fun h => h)); have HT1 := Lib.hid (HT0.out.trans ht (fun _ h => .inl h))
  obtain ⟨c0, c1, c2, c3, c4, c5, c6⟩ := shp_cells hb1.out
  clear ht
  go_wp2_with fail
  refine (CW.out _).mono ?_
  rintro e w2 ⟨rfl, ht⟩
  have HT2 := Lib.hid (HT1.out.trans ht (fun _ h => .inl h))
  clear ht c0 c1 c2 c3 c4 c5 c6
  go_wp2_with fail
  go_quiet (fail)
  go_wp2_with fail
  go_ret2
  exact ⟨rfl, HT2.out.drewN _⟩

theorem new_neg (m : Addr) (base : Int) (hb : base < 0) (s : Shp) (h : s.Right) (hl : s.ws 3 ≤ 65536) (w : World) : Calls Try.prog 12 #[.pointer (some m), .int .i64 base, s.val] w fun e w' => e = .returned (.tuple #[.pointer none, .int .i64 6]) ∧ Turn (fun _ => False) w w' := by
  have CR := Lib.hid (fun w => right_any s.W (s.z 0) (s.z 1) (s.z 2) (s.n 0) (s.n 1) (s.n 2) w)
  rw [Shp.okU h] at CR
  have CW := Lib.hid (fun w => words_shape s h w)
  unfold Shp.val at CW
  unfold Shp.val
  unfold shpV at CR CW ⊢
  generalize s.ws 3 = ws at *
  have hl2 : ¬ 65536 < ws := by omega
  clear h
  have hb0 := Lib.hid (Blk.new w [.int .i64 s.W, .int .i64 (s.z 0), .int .i64 (s.z 1), .int .i64 (s.z 2), .int .i64 (s.n 0), .int .i64 (s.n 1), .int .i64 (s.n 2)] 36)
  have HT0 := Lib.hid ((Turn.refl (fun _ => False) w).alloc (.cells #[.int .i64 s.W, .int .i64 (s.z 0), .int .i64 (s.z 1), .int .i64 (s.z 2), .int .i64 (s.n 0), .int .i64 (s.n 1), .int .i64 (s.n 2)] 36))
  have hd : decide (base < 0) = true := decide_eq_true hb
  go_enter Try.func12, Try.ntmps12
  go_wp2_with fail
  refine (CR.out _).mono ?_
  rintro e w1 ⟨rfl, ht⟩
  have hb1 := Lib.hid (hb0.out.turn ht (fun h => h)); have HT1 := Lib.hid (HT0.out.trans ht (fun _ h => .inl h))
  obtain ⟨c0, c1, c2, c3, c4, c5, c6⟩ := shp_cells hb1.out
  clear ht
  go_wp2_with fail
  refine (CW.out _).mono ?_
  rintro e w2 ⟨rfl, ht⟩
  have HT2 := Lib.hid (HT1.out.trans ht (fun _ h => .inl h))
  clear ht c0 c1 c2 c3 c4 c5 c6
  go_wp2_with fail
  go_quiet (fail)
  go_wp2_with fail
  go_ret2
  exact ⟨rfl, HT2.out.drewN _⟩

set_option maxHeartbeats 1000000 in
theorem new_over {m a b : Nat} {M : MemS} (base : Nat) (s : Shp) (h : s.Right) (hl : s.ws 3 ≤ 65536) (w : World) (hM : IsMem w m a b M) (hb : (M.words.length : Int) - s.ws 3 < base) : Calls Try.prog 12 #[.pointer (some ⟨m, 0, none⟩), .int .i64 base, s.val] w fun e w' => e = .returned (.tuple #[.pointer none, .int .i64 6]) ∧ Turn (fun _ => False) w w' := by
  have CR := Lib.hid (fun w => right_any s.W (s.z 0) (s.z 1) (s.z 2) (s.n 0) (s.n 1) (s.n 2) w)
  rw [Shp.okU h] at CR
  have CW := Lib.hid (fun w => words_shape s h w)
  have CM := Lib.hid (fun v (ht : Turn (fun _ => False) w v) => words_any m a b M v (hM.turn ht (fun h => h) (fun h => h) (fun h => h)))
  have hroom := hM.room
  unfold Shp.val at CW
  unfold Shp.val
  unfold shpV at CR CW ⊢
  generalize s.ws 3 = ws at *
  generalize M.words.length = mw at *
  have hl2 : ¬ 65536 < ws := by omega
  clear h hM
  have hb0 := Lib.hid (Blk.new w [.int .i64 s.W, .int .i64 (s.z 0), .int .i64 (s.z 1), .int .i64 (s.z 2), .int .i64 (s.n 0), .int .i64 (s.n 1), .int .i64 (s.n 2)] 36)
  have HT0 := Lib.hid ((Turn.refl (fun _ => False) w).alloc (.cells #[.int .i64 s.W, .int .i64 (s.z 0), .int .i64 (s.z 1), .int .i64 (s.z 2), .int .i64 (s.n 0), .int .i64 (s.n 1), .int .i64 (s.n 2)] 36))
  have hd : decide ((base : Int) < 0) = false := decide_eq_false (by omega)
  have hw1 : IntKind.i64.wrap ((mw : Int) - (ws : Int)) = (mw : Int) - ws := IntWalk.i64_in _ (by omega)
  have hd2 : decide ((mw : Int) - (ws : Int) < base) = true := decide_eq_true hb
  obtain ⟨bx, hbx⟩ : ∃ bx, bx = w.heap.size := ⟨_, rfl⟩
  have HX := Lib.hid hbx
  go_enter Try.func12, Try.ntmps12
  go_wp2_with fail
  rw [← hbx] at hb0 ⊢
  clear hbx
  refine (CR.out _).mono ?_
  rintro e w1 ⟨rfl, ht⟩
  have hb1 := Lib.hid (hb0.out.turn ht (fun h => h)); have HT1 := Lib.hid (HT0.out.trans ht (fun _ h => .inl h))
  obtain ⟨c0, c1, c2, c3, c4, c5, c6⟩ := shp_cells hb1.out
  clear ht
  go_wp2_with fail
  refine (CW.out _).mono ?_
  rintro e w2 ⟨rfl, ht⟩
  have hb2 := Lib.hid (hb1.out.turn ht (fun h => h)); have HT2 := Lib.hid (HT1.out.trans ht (fun _ h => .inl h))
  clear ht c0 c1 c2 c3 c4 c5 c6
  obtain ⟨c0, c1, c2, c3, c4, c5, c6⟩ := shp_cells hb2.out
  go_wp2_with fail
  go_region_held3 (fun w' => w'.cell? ⟨bx, 0, none⟩ = some (.int .i64 s.W) ∧ w'.cell? ⟨bx, 1, none⟩ = some (.int .i64 (s.z 0)) ∧ w'.cell? ⟨bx, 2, none⟩ = some (.int .i64 (s.z 1)) ∧ w'.cell? ⟨bx, 3, none⟩ = some (.int .i64 (s.z 2)) ∧ w'.cell? ⟨bx, 4, none⟩ = some (.int .i64 (s.n 0)) ∧ w'.cell? ⟨bx, 5, none⟩ = some (.int .i64 (s.n 1)) ∧ w'.cell? ⟨bx, 6, none⟩ = some (.int .i64 (s.n 2))) (((repeat' apply And.intro) <;> assumption))
    (first
      | (go_at_call 35; refine (CM.out _ (by first | exact HT3.out | exact HT2.out.drew)).mono ?_; rintro e wx ⟨rfl, rfl⟩)
      | (go_at_call 34; refine (CW.out _).mono ?_; rintro e w3 ⟨rfl, ht⟩; have HT3 := Lib.hid (HT2.out.drew.trans ht (fun _ h => .inl h)); have hb3 := Lib.hid (hb2.out.turn (Turn.trans ((Turn.refl (fun _ => False) _).drew) ht (fun _ h => .inl h)) (fun h => h)); clear ht c0 c1 c2 c3 c4 c5 c6; obtain ⟨c0, c1, c2, c3, c4, c5, c6⟩ := shp_cells hb3.out))
  all_goals go_wp2_with fail
  all_goals go_ret2
  all_goals exact ⟨rfl, HT3.out⟩

end Go.Proofs.Ytccadafajocbgaa
