/- PoolNew returns true, whatever the shape and the base are. -/
import Derived.Test.YtccadafajocbgaaPoolR
import Derived.Test.YtccadafajocbgaaArg4
open Go Go.RowKit
namespace Go.Proofs.Ytccadafajocbgaa

theorem new_mem (n : Nat) (hn : n ≤ 65536) (w : World) : Calls Try.prog 10 #[.int .i64 n] w fun e w' => ∃ m a b, e = .returned (.tuple #[.pointer (some ⟨m, 0, none⟩), .int .i64 0]) ∧ IsMem w' m a b (MemS.fresh n) ∧ (w.heap.size ≤ m ∧ w.heap.size ≤ a ∧ w.heap.size ≤ b) ∧ Turn (fun _ => False) w w' := by
  refine (new_ok n w hn).mono ?_
  rintro e w' ⟨m, a, b, rfl, hm, h1, h2, h3, ho⟩
  exact ⟨m, a, b, rfl, hm, ⟨h1, h2, h3⟩, (Turn.of_only ho).mono (fun k hk => by simp at hk)⟩

theorem turn_below {w w' : World} (h : Turn (fun _ => False) w w') : Below w.heap.size w w' := h.below (Nat.le_refl _) (fun _ h => h.elim)
theorem boxed_new (W z0 z1 z2 n0 n1 n2 : Int) (w : World) : Blk (w.alloc (.cells #[.int .i64 W, .int .i64 z0, .int .i64 z1, .int .i64 z2, .int .i64 n0, .int .i64 n1, .int .i64 n2] 26)) w.heap.size [.int .i64 W, .int .i64 z0, .int .i64 z1, .int .i64 z2, .int .i64 n0, .int .i64 n1, .int .i64 n2] 26 := Blk.new w _ _

set_option maxRecDepth 100000 in
set_option maxHeartbeats 2000000 in
theorem poolNew_wrong (W z0 z1 z2 n0 n1 n2 base : Int) (h : okU W (three z0 z1 z2) (three n0 n1 n2) 3 = false) (w : World) :
    Calls Try.prog 8 #[shpV W z0 z1 z2 n0 n1 n2, .int .i64 base] w fun e w' => e = .returned (.bool true) ∧ Below w.heap.size w w' := by
  have C0 := Lib.hid (new_mem 3000 (by omega))
  have CO := Lib.hid (fun v => of_any W z0 z1 z2 n0 n1 n2 v)
  have CN := Lib.hid (fun v m => new_wrong m base W z0 z1 z2 n0 n1 n2 h v)
  have CR := Lib.hid (fun v => rright_any W z0 z1 z2 n0 n1 n2 v)
  rw [h] at CR
  have CW := Lib.hid (fun v => wordsP_wrong W z0 z1 z2 n0 n1 n2 h v)
  unfold shpV at CO CN CR CW ⊢
  have HX0 := Lib.hid (boxed_new W z0 z1 z2 n0 n1 n2 w)
  have HT0 := Lib.hid ((Turn.refl (fun _ => False) w).alloc (.cells #[.int .i64 W, .int .i64 z0, .int .i64 z1, .int .i64 z2, .int .i64 n0, .int .i64 n1, .int .i64 n2] 26))
  clear h
  go_enter Try.func8, Try.ntmps8
  go_wp2_with fail
  refine (C0.out _).mono ?_
  rintro e w1 ⟨m, a, b, rfl, -, -, ht⟩
  have HT1 := Lib.hid (HT0.out.trans ht (fun _ h => .inl h)); have HX1 := Lib.hid (HX0.out.turn ht (fun h => h)); clear ht
  obtain ⟨c0, c1, c2, c3, c4, c5, c6⟩ := shp_cells HX1.out
  go_wp2_with fail
  refine (CO.out _).mono ?_
  rintro e w2 ⟨rfl, ht⟩
  have HT2 := Lib.hid (HT1.out.trans ht (fun _ h => .inl h)); have HX2 := Lib.hid (HX1.out.turn ht (fun h => h)); clear ht c0 c1 c2 c3 c4 c5 c6
  obtain ⟨c0, c1, c2, c3, c4, c5, c6⟩ := shp_cells HX2.out
  go_wp2_with fail
  refine (CN.out _ _).mono ?_
  rintro e w3 ⟨rfl, ht⟩
  have HT3 := Lib.hid (HT2.out.trans ht (fun _ h => .inl h)); have HX3 := Lib.hid (HX2.out.turn ht (fun h => h)); clear ht c0 c1 c2 c3 c4 c5 c6
  obtain ⟨c0, c1, c2, c3, c4, c5, c6⟩ := shp_cells HX3.out
  go_wp2_with fail
  refine (take_nil 0 0 _).mono ?_
  rintro e wy ⟨rfl, rfl⟩
  go_wp2_with fail
  refine (where_nil 1 _).mono ?_
  rintro e wy ⟨rfl, rfl⟩
  go_wp2_with fail
  refine (give_nil 0 1 _).mono ?_
  rintro e wy ⟨rfl, rfl⟩
  go_wp2_with fail
  refine (drain_nil 0 _).mono ?_
  rintro e wy ⟨rfl, rfl⟩
  go_wp2_with fail
  refine (free_nil 0 0 _).mono ?_
  rintro e wy ⟨rfl, rfl⟩
  go_wp2_with fail
  refine (remote_nil 0 _).mono ?_
  rintro e wy ⟨rfl, rfl⟩
  go_wp2_with fail
  refine (home_nil _).mono ?_
  rintro e wy ⟨rfl, rfl⟩
  go_wp2_with fail
  refine (CR.out _).mono ?_
  rintro e w4 ⟨rfl, ht⟩
  have HT4 := Lib.hid (HT3.out.trans ht (fun _ h => .inl h)); have HX4 := Lib.hid (HX3.out.turn ht (fun h => h)); clear ht c0 c1 c2 c3 c4 c5 c6
  obtain ⟨c0, c1, c2, c3, c4, c5, c6⟩ := shp_cells HX4.out
  go_wp2_with fail
  refine (CO.out _).mono ?_
  rintro e w5 ⟨rfl, ht⟩
  have HT5 := Lib.hid (HT4.out.trans ht (fun _ h => .inl h)); have HX5 := Lib.hid (HX4.out.turn ht (fun h => h)); clear ht c0 c1 c2 c3 c4 c5 c6
  obtain ⟨c0, c1, c2, c3, c4, c5, c6⟩ := shp_cells HX5.out
  go_wp2_with fail
  refine (CW.out _).mono ?_
  rintro e w6 ⟨rfl, ht⟩
  have HT6 := Lib.hid (HT5.out.trans ht (fun _ h => .inl h)); have HX6 := Lib.hid (HX5.out.turn ht (fun h => h)); clear ht c0 c1 c2 c3 c4 c5 c6
  obtain ⟨c0, c1, c2, c3, c4, c5, c6⟩ := shp_cells HX6.out
  go_wp2_with fail
  refine (awake_any _).mono ?_
  rintro e w7 ⟨rfl, hb⟩
  have HB := Lib.hid (below_below (turn_below HT6.out) (Nat.le_refl _) hb); clear hb
  go_wp2_with fail
  go_ret
  exact ⟨rfl, HB.out⟩

set_option maxRecDepth 100000 in
set_option maxHeartbeats 2000000 in
theorem poolNew_long (s : Shp) (base : Int) (h : s.Right) (hl : 65536 < s.ws 3) (w : World) :
    Calls Try.prog 8 #[s.val, .int .i64 base] w fun e w' => e = .returned (.bool true) ∧ Below w.heap.size w w' := by
  have C0 := Lib.hid (new_mem 3000 (by omega))
  have CO := Lib.hid (fun v => of_any s.W (s.z 0) (s.z 1) (s.z 2) (s.n 0) (s.n 1) (s.n 2) v)
  have CR := Lib.hid (fun v => rright_any s.W (s.z 0) (s.z 1) (s.z 2) (s.n 0) (s.n 1) (s.n 2) v)
  rw [Shp.okU h] at CR
  have CV := Lib.hid (fun v => rwords_any s h v)
  have CW := Lib.hid (fun v => wordsP_right s h v)
  have CN := Lib.hid (fun v m => new_long m base s h hl v)
  rw [if_neg (by omega)] at CW
  unfold Shp.val at CV CW CN ⊢
  unfold shpV at CO CR CV CW CN ⊢
  have HX0 := Lib.hid (boxed_new s.W (s.z 0) (s.z 1) (s.z 2) (s.n 0) (s.n 1) (s.n 2) w)
  have HT0 := Lib.hid ((Turn.refl (fun _ => False) w).alloc (.cells #[.int .i64 s.W, .int .i64 (s.z 0), .int .i64 (s.z 1), .int .i64 (s.z 2), .int .i64 (s.n 0), .int .i64 (s.n 1), .int .i64 (s.n 2)] 26))
  have hw3 := Shp.ws_le h 3 (by omega)
  generalize s.ws 3 = ws at *
  clear h
  go_enter Try.func8, Try.ntmps8
  go_wp2_with fail
  refine (C0.out _).mono ?_
  rintro e w1 ⟨m, a, b, rfl, hm, hbd, ht⟩
  have HM := Lib.hid hm; have HBD := Lib.hid hbd
  have HT1 := Lib.hid (HT0.out.trans ht (fun _ h => .inl h)); have HX1 := Lib.hid (HX0.out.turn ht (fun h => h)); clear ht hm hbd
  obtain ⟨c0, c1, c2, c3, c4, c5, c6⟩ := shp_cells HX1.out
  go_wp2_with fail
  refine (CO.out _).mono ?_
  rintro e w2 ⟨rfl, ht⟩
  have HT2 := Lib.hid (HT1.out.trans ht (fun _ h => .inl h)); have HX2 := Lib.hid (HX1.out.turn ht (fun h => h)); clear ht c0 c1 c2 c3 c4 c5 c6
  obtain ⟨c0, c1, c2, c3, c4, c5, c6⟩ := shp_cells HX2.out
  go_wp2_with fail
  refine (CN.out _ _).mono ?_
  rintro e w3 ⟨rfl, ht⟩
  have HT3 := Lib.hid (HT2.out.trans ht (fun _ h => .inl h)); have HX3 := Lib.hid (HX2.out.turn ht (fun h => h)); clear ht c0 c1 c2 c3 c4 c5 c6
  obtain ⟨c0, c1, c2, c3, c4, c5, c6⟩ := shp_cells HX3.out
  go_wp2_with fail
  refine (take_nil 0 0 _).mono ?_
  rintro e wy ⟨rfl, rfl⟩
  go_wp2_with fail
  refine (where_nil 1 _).mono ?_
  rintro e wy ⟨rfl, rfl⟩
  go_wp2_with fail
  refine (give_nil 0 1 _).mono ?_
  rintro e wy ⟨rfl, rfl⟩
  go_wp2_with fail
  refine (drain_nil 0 _).mono ?_
  rintro e wy ⟨rfl, rfl⟩
  go_wp2_with fail
  refine (free_nil 0 0 _).mono ?_
  rintro e wy ⟨rfl, rfl⟩
  go_wp2_with fail
  refine (remote_nil 0 _).mono ?_
  rintro e wy ⟨rfl, rfl⟩
  go_wp2_with fail
  refine (home_nil _).mono ?_
  rintro e wy ⟨rfl, rfl⟩
  go_wp2_with fail
  refine (CR.out _).mono ?_
  rintro e w4 ⟨rfl, ht⟩
  have HT4 := Lib.hid (HT3.out.trans ht (fun _ h => .inl h)); have HX4 := Lib.hid (HX3.out.turn ht (fun h => h)); clear ht c0 c1 c2 c3 c4 c5 c6
  obtain ⟨c0, c1, c2, c3, c4, c5, c6⟩ := shp_cells HX4.out
  go_wp2_with fail
  refine (CV.out _).mono ?_
  rintro e w5 ⟨rfl, ht⟩
  have HT5 := Lib.hid (HT4.out.trans ht (fun _ h => .inl h)); have HX5 := Lib.hid (HX4.out.turn ht (fun h => h)); clear ht c0 c1 c2 c3 c4 c5 c6
  obtain ⟨c0, c1, c2, c3, c4, c5, c6⟩ := shp_cells HX5.out
  go_wp2_with fail
  refine (CO.out _).mono ?_
  rintro e w6 ⟨rfl, ht⟩
  have HT6 := Lib.hid (HT5.out.trans ht (fun _ h => .inl h)); have HX6 := Lib.hid (HX5.out.turn ht (fun h => h)); clear ht c0 c1 c2 c3 c4 c5 c6
  obtain ⟨c0, c1, c2, c3, c4, c5, c6⟩ := shp_cells HX6.out
  go_wp2_with fail
  refine (CW.out _).mono ?_
  rintro e w7 ⟨rfl, ht⟩
  have HT7 := Lib.hid (HT6.out.trans ht (fun _ h => .inl h)); have HX7 := Lib.hid (HX6.out.turn ht (fun h => h)); clear ht c0 c1 c2 c3 c4 c5 c6
  obtain ⟨c0, c1, c2, c3, c4, c5, c6⟩ := shp_cells HX7.out
  go_wp2_with fail
  refine (awake_any _).mono ?_
  rintro e w8 ⟨rfl, hb⟩
  have HB := Lib.hid (below_below (turn_below HT7.out) (Nat.le_refl _) hb); clear hb
  go_wp2_with fail
  go_ret
  exact ⟨rfl, HB.out⟩

set_option maxRecDepth 100000 in
set_option maxHeartbeats 2000000 in
theorem poolNew_neg (s : Shp) (base : Int) (h : s.Right) (hl : s.ws 3 ≤ 65536) (hb : base < 0) (w : World) :
    Calls Try.prog 8 #[s.val, .int .i64 base] w fun e w' => e = .returned (.bool true) ∧ Below w.heap.size w w' := by
  have C0 := Lib.hid (new_mem 3000 (by omega))
  have CO := Lib.hid (fun v => of_any s.W (s.z 0) (s.z 1) (s.z 2) (s.n 0) (s.n 1) (s.n 2) v)
  have CR := Lib.hid (fun v => rright_any s.W (s.z 0) (s.z 1) (s.z 2) (s.n 0) (s.n 1) (s.n 2) v)
  rw [Shp.okU h] at CR
  have CV := Lib.hid (fun v => rwords_any s h v)
  have CW := Lib.hid (fun v => wordsP_right s h v)
  have CN := Lib.hid (fun v m => new_neg m base hb s h hl v)
  rw [if_pos (by omega)] at CW
  have hl2 : ¬ 65536 < s.ws 3 := by omega
  unfold Shp.val at CV CW CN ⊢
  unfold shpV at CO CR CV CW CN ⊢
  have HX0 := Lib.hid (boxed_new s.W (s.z 0) (s.z 1) (s.z 2) (s.n 0) (s.n 1) (s.n 2) w)
  have HT0 := Lib.hid ((Turn.refl (fun _ => False) w).alloc (.cells #[.int .i64 s.W, .int .i64 (s.z 0), .int .i64 (s.z 1), .int .i64 (s.z 2), .int .i64 (s.n 0), .int .i64 (s.n 1), .int .i64 (s.n 2)] 26))
  have hw3 := Shp.ws_le h 3 (by omega)
  generalize s.ws 3 = ws at *
  clear h
  go_enter Try.func8, Try.ntmps8
  go_wp2_with fail
  refine (C0.out _).mono ?_
  rintro e w1 ⟨m, a, b, rfl, hm, hbd, ht⟩
  have HM := Lib.hid hm; have HBD := Lib.hid hbd
  have HT1 := Lib.hid (HT0.out.trans ht (fun _ h => .inl h)); have HX1 := Lib.hid (HX0.out.turn ht (fun h => h)); clear ht hm hbd
  obtain ⟨c0, c1, c2, c3, c4, c5, c6⟩ := shp_cells HX1.out
  go_wp2_with fail
  refine (CO.out _).mono ?_
  rintro e w2 ⟨rfl, ht⟩
  have HT2 := Lib.hid (HT1.out.trans ht (fun _ h => .inl h)); have HX2 := Lib.hid (HX1.out.turn ht (fun h => h)); clear ht c0 c1 c2 c3 c4 c5 c6
  obtain ⟨c0, c1, c2, c3, c4, c5, c6⟩ := shp_cells HX2.out
  go_wp2_with fail
  refine (CN.out _ _).mono ?_
  rintro e w3 ⟨rfl, ht⟩
  have HT3 := Lib.hid (HT2.out.trans ht (fun _ h => .inl h)); have HX3 := Lib.hid (HX2.out.turn ht (fun h => h)); clear ht c0 c1 c2 c3 c4 c5 c6
  obtain ⟨c0, c1, c2, c3, c4, c5, c6⟩ := shp_cells HX3.out
  go_wp2_with fail
  refine (take_nil 0 0 _).mono ?_
  rintro e wy ⟨rfl, rfl⟩
  go_wp2_with fail
  refine (where_nil 1 _).mono ?_
  rintro e wy ⟨rfl, rfl⟩
  go_wp2_with fail
  refine (give_nil 0 1 _).mono ?_
  rintro e wy ⟨rfl, rfl⟩
  go_wp2_with fail
  refine (drain_nil 0 _).mono ?_
  rintro e wy ⟨rfl, rfl⟩
  go_wp2_with fail
  refine (free_nil 0 0 _).mono ?_
  rintro e wy ⟨rfl, rfl⟩
  go_wp2_with fail
  refine (remote_nil 0 _).mono ?_
  rintro e wy ⟨rfl, rfl⟩
  go_wp2_with fail
  refine (home_nil _).mono ?_
  rintro e wy ⟨rfl, rfl⟩
  go_wp2_with fail
  refine (CR.out _).mono ?_
  rintro e w4 ⟨rfl, ht⟩
  have HT4 := Lib.hid (HT3.out.trans ht (fun _ h => .inl h)); have HX4 := Lib.hid (HX3.out.turn ht (fun h => h)); clear ht c0 c1 c2 c3 c4 c5 c6
  obtain ⟨c0, c1, c2, c3, c4, c5, c6⟩ := shp_cells HX4.out
  go_wp2_with fail
  refine (CV.out _).mono ?_
  rintro e w5 ⟨rfl, ht⟩
  have HT5 := Lib.hid (HT4.out.trans ht (fun _ h => .inl h)); have HX5 := Lib.hid (HX4.out.turn ht (fun h => h)); clear ht c0 c1 c2 c3 c4 c5 c6
  obtain ⟨c0, c1, c2, c3, c4, c5, c6⟩ := shp_cells HX5.out
  go_wp2_with fail
  refine (CO.out _).mono ?_
  rintro e w6 ⟨rfl, ht⟩
  have HT6 := Lib.hid (HT5.out.trans ht (fun _ h => .inl h)); have HX6 := Lib.hid (HX5.out.turn ht (fun h => h)); clear ht c0 c1 c2 c3 c4 c5 c6
  obtain ⟨c0, c1, c2, c3, c4, c5, c6⟩ := shp_cells HX6.out
  go_wp2_with fail
  refine (CW.out _).mono ?_
  rintro e w7 ⟨rfl, ht⟩
  have HT7 := Lib.hid (HT6.out.trans ht (fun _ h => .inl h)); have HX7 := Lib.hid (HX6.out.turn ht (fun h => h)); clear ht c0 c1 c2 c3 c4 c5 c6
  obtain ⟨c0, c1, c2, c3, c4, c5, c6⟩ := shp_cells HX7.out
  go_wp2_with fail
  refine (awake_any _).mono ?_
  rintro e w8 ⟨rfl, hb⟩
  have HB := Lib.hid (below_below (turn_below HT7.out) (Nat.le_refl _) hb); clear hb
  go_wp2_with fail
  go_ret
  exact ⟨rfl, HB.out⟩

set_option maxRecDepth 100000 in
set_option maxHeartbeats 2000000 in
theorem poolNew_over (s : Shp) (base : Nat) (h : s.Right) (hl : s.ws 3 ≤ 65536) (hb : 3000 - (s.ws 3 : Int) < base) (w : World) :
    Calls Try.prog 8 #[s.val, .int .i64 base] w fun e w' => e = .returned (.bool true) ∧ Below w.heap.size w w' := by
  have C0 := Lib.hid (new_mem 3000 (by omega))
  have CO := Lib.hid (fun v => of_any s.W (s.z 0) (s.z 1) (s.z 2) (s.n 0) (s.n 1) (s.n 2) v)
  have CR := Lib.hid (fun v => rright_any s.W (s.z 0) (s.z 1) (s.z 2) (s.n 0) (s.n 1) (s.n 2) v)
  rw [Shp.okU h] at CR
  have CV := Lib.hid (fun v => rwords_any s h v)
  have CW := Lib.hid (fun v => wordsP_right s h v)
  have CN := Lib.hid (fun v m a b (hm : IsMem v m a b (MemS.fresh 3000)) => new_over base s h hl v hm (by rw [MemS.fresh_words]; exact hb))
  rw [if_pos (by omega)] at CW
  have hl2 : ¬ 65536 < s.ws 3 := by omega
  have hd : ¬ (base : Int) < 0 := by omega
  unfold Shp.val at CV CW CN ⊢
  unfold shpV at CO CR CV CW CN ⊢
  have HX0 := Lib.hid (boxed_new s.W (s.z 0) (s.z 1) (s.z 2) (s.n 0) (s.n 1) (s.n 2) w)
  have HT0 := Lib.hid ((Turn.refl (fun _ => False) w).alloc (.cells #[.int .i64 s.W, .int .i64 (s.z 0), .int .i64 (s.z 1), .int .i64 (s.z 2), .int .i64 (s.n 0), .int .i64 (s.n 1), .int .i64 (s.n 2)] 26))
  have hw3 := Shp.ws_le h 3 (by omega)
  generalize s.ws 3 = ws at *
  clear h
  go_enter Try.func8, Try.ntmps8
  go_wp2_with fail
  refine (C0.out _).mono ?_
  rintro e w1 ⟨m, a, b, rfl, hm, hbd, ht⟩
  have HM := Lib.hid hm; have HBD := Lib.hid hbd
  have HT1 := Lib.hid (HT0.out.trans ht (fun _ h => .inl h)); have HX1 := Lib.hid (HX0.out.turn ht (fun h => h)); clear ht hm hbd
  obtain ⟨c0, c1, c2, c3, c4, c5, c6⟩ := shp_cells HX1.out
  go_wp2_with fail
  refine (CO.out _).mono ?_
  rintro e w2 ⟨rfl, ht⟩
  have HM2 := Lib.hid (HM.out.turn ht (fun h => h) (fun h => h) (fun h => h))
  have HT2 := Lib.hid (HT1.out.trans ht (fun _ h => .inl h)); have HX2 := Lib.hid (HX1.out.turn ht (fun h => h)); clear ht c0 c1 c2 c3 c4 c5 c6
  obtain ⟨c0, c1, c2, c3, c4, c5, c6⟩ := shp_cells HX2.out
  go_wp2_with fail
  refine (CN.out _ _ _ _ HM2.out).mono ?_
  rintro e w3 ⟨rfl, ht⟩
  have HT3 := Lib.hid (HT2.out.trans ht (fun _ h => .inl h)); have HX3 := Lib.hid (HX2.out.turn ht (fun h => h)); clear ht c0 c1 c2 c3 c4 c5 c6
  obtain ⟨c0, c1, c2, c3, c4, c5, c6⟩ := shp_cells HX3.out
  go_wp2_with fail
  refine (take_nil 0 0 _).mono ?_
  rintro e wy ⟨rfl, rfl⟩
  go_wp2_with fail
  refine (where_nil 1 _).mono ?_
  rintro e wy ⟨rfl, rfl⟩
  go_wp2_with fail
  refine (give_nil 0 1 _).mono ?_
  rintro e wy ⟨rfl, rfl⟩
  go_wp2_with fail
  refine (drain_nil 0 _).mono ?_
  rintro e wy ⟨rfl, rfl⟩
  go_wp2_with fail
  refine (free_nil 0 0 _).mono ?_
  rintro e wy ⟨rfl, rfl⟩
  go_wp2_with fail
  refine (remote_nil 0 _).mono ?_
  rintro e wy ⟨rfl, rfl⟩
  go_wp2_with fail
  refine (home_nil _).mono ?_
  rintro e wy ⟨rfl, rfl⟩
  go_wp2_with fail
  refine (CR.out _).mono ?_
  rintro e w4 ⟨rfl, ht⟩
  have HT4 := Lib.hid (HT3.out.trans ht (fun _ h => .inl h)); have HX4 := Lib.hid (HX3.out.turn ht (fun h => h)); clear ht c0 c1 c2 c3 c4 c5 c6
  obtain ⟨c0, c1, c2, c3, c4, c5, c6⟩ := shp_cells HX4.out
  go_wp2_with fail
  refine (CV.out _).mono ?_
  rintro e w5 ⟨rfl, ht⟩
  have HT5 := Lib.hid (HT4.out.trans ht (fun _ h => .inl h)); have HX5 := Lib.hid (HX4.out.turn ht (fun h => h)); clear ht c0 c1 c2 c3 c4 c5 c6
  obtain ⟨c0, c1, c2, c3, c4, c5, c6⟩ := shp_cells HX5.out
  go_wp2_with fail
  refine (CO.out _).mono ?_
  rintro e w6 ⟨rfl, ht⟩
  have HT6 := Lib.hid (HT5.out.trans ht (fun _ h => .inl h)); have HX6 := Lib.hid (HX5.out.turn ht (fun h => h)); clear ht c0 c1 c2 c3 c4 c5 c6
  obtain ⟨c0, c1, c2, c3, c4, c5, c6⟩ := shp_cells HX6.out
  go_wp2_with fail
  refine (CW.out _).mono ?_
  rintro e w7 ⟨rfl, ht⟩
  have HT7 := Lib.hid (HT6.out.trans ht (fun _ h => .inl h)); have HX7 := Lib.hid (HX6.out.turn ht (fun h => h)); clear ht c0 c1 c2 c3 c4 c5 c6
  obtain ⟨c0, c1, c2, c3, c4, c5, c6⟩ := shp_cells HX7.out
  go_wp2_with fail
  refine (awake_any _).mono ?_
  rintro e w8 ⟨rfl, hb⟩
  have HB := Lib.hid (below_below (turn_below HT7.out) (Nat.le_refl _) hb); clear hb
  go_wp2_with fail
  go_ret
  exact ⟨rfl, HB.out⟩

set_option maxRecDepth 100000 in
set_option maxHeartbeats 2000000 in
theorem poolNew_good (s : Shp) (base : Nat) (h : s.Right) (hl : s.ws 3 ≤ 65536) (hb : (base : Int) ≤ 3000 - (s.ws 3 : Int)) (w : World) :
    Calls Try.prog 8 #[s.val, .int .i64 base] w fun e w' => e = .returned (.bool true) ∧ Below w.heap.size w w' := by
  have C0 := Lib.hid (new_mem 3000 (by omega))
  have CO := Lib.hid (fun v => of_any s.W (s.z 0) (s.z 1) (s.z 2) (s.n 0) (s.n 1) (s.n 2) v)
  have CR := Lib.hid (fun v => rright_any s.W (s.z 0) (s.z 1) (s.z 2) (s.n 0) (s.n 1) (s.n 2) v)
  rw [Shp.okU h] at CR
  have CV := Lib.hid (fun v => rwords_any s h v)
  have CW := Lib.hid (fun v => wordsP_right s h v)
  have CN := Lib.hid (fun v m a b (hm : IsMem v m a b (MemS.fresh 3000)) hB hbd => PG.new (w0 := w) (w := v) (X := noX) (m := m) (a := a) (b := b) base s h hl hm (by rw [MemS.fresh_words]; omega) hB hbd ⟨fun h => h, fun h => h, fun h => h⟩ (fun _ h => h.elim))
  have CZ := Lib.hid (fun v => new_nil base s h hl v)
  have hhome : (s.at_ base (s.off 3)).isHome := by
    refine ⟨fun x hx => ?_, fun v _ => Shp.row_far⟩
    have := Shp.at_there.1 hx
    rw [Shp.at_blk this.1 this.2]; rfl
  have HH := Lib.hid hhome; clear hhome
  generalize s.at_ base (s.off 3) = S0 at *
  rw [if_pos (by omega)] at CW
  have hl2 : ¬ 65536 < s.ws 3 := by omega
  have hd : ¬ (base : Int) < 0 := by omega
  have hd2 : ¬ (3000 - (s.ws 3 : Int) < base) := by omega
  unfold Shp.val at CV CW CN CZ ⊢
  unfold shpV at CO CR CV CW CN CZ ⊢
  have HX0 := Lib.hid (boxed_new s.W (s.z 0) (s.z 1) (s.z 2) (s.n 0) (s.n 1) (s.n 2) w)
  have HT0 := Lib.hid ((Turn.refl (fun _ => False) w).alloc (.cells #[.int .i64 s.W, .int .i64 (s.z 0), .int .i64 (s.z 1), .int .i64 (s.z 2), .int .i64 (s.n 0), .int .i64 (s.n 1), .int .i64 (s.n 2)] 26))
  have hw3 := Shp.ws_le h 3 (by omega)
  generalize s.ws 3 = ws at *
  clear h
  go_enter Try.func8, Try.ntmps8
  go_wp2_with fail
  refine (C0.out _).mono ?_
  rintro e w1 ⟨m, a, b, rfl, hm, hbd, ht⟩
  have HM := Lib.hid hm; have HBD := Lib.hid hbd
  have HT1 := Lib.hid (HT0.out.trans ht (fun _ h => .inl h)); have HX1 := Lib.hid (HX0.out.turn ht (fun h => h)); clear ht hm hbd
  obtain ⟨c0, c1, c2, c3, c4, c5, c6⟩ := shp_cells HX1.out
  go_wp2_with fail
  refine (CO.out _).mono ?_
  rintro e w2 ⟨rfl, ht⟩
  have HM2 := Lib.hid (HM.out.turn ht (fun h => h) (fun h => h) (fun h => h))
  have HT2 := Lib.hid (HT1.out.trans ht (fun _ h => .inl h)); have HX2 := Lib.hid (HX1.out.turn ht (fun h => h)); clear ht c0 c1 c2 c3 c4 c5 c6
  obtain ⟨c0, c1, c2, c3, c4, c5, c6⟩ := shp_cells HX2.out
  go_wp2_with fail
  refine (CN.out _ _ _ _ HM2.out (turn_below HT2.out) (by have := HBD.out; have := HT0.out.size; omega)).mono ?_
  rintro e w3 ⟨p, rfl, hp, ht⟩
  have HP3 := Lib.hid hp
  have HT3 := Lib.hid (HT2.out.trans ht (fun _ h => .inl h)); have HX3 := Lib.hid (HX2.out.turn ht (fun h => h)); clear ht hp c0 c1 c2 c3 c4 c5 c6
  obtain ⟨c0, c1, c2, c3, c4, c5, c6⟩ := shp_cells HX3.out
  go_wp2_with fail
  refine (take_nil 0 0 _).mono ?_
  rintro e wy ⟨rfl, rfl⟩
  go_wp2_with fail
  refine (where_nil 1 _).mono ?_
  rintro e wy ⟨rfl, rfl⟩
  go_wp2_with fail
  refine (give_nil 0 1 _).mono ?_
  rintro e wy ⟨rfl, rfl⟩
  go_wp2_with fail
  refine (drain_nil 0 _).mono ?_
  rintro e wy ⟨rfl, rfl⟩
  go_wp2_with fail
  refine (free_nil 0 0 _).mono ?_
  rintro e wy ⟨rfl, rfl⟩
  go_wp2_with fail
  refine (remote_nil 0 _).mono ?_
  rintro e wy ⟨rfl, rfl⟩
  go_wp2_with fail
  refine (home_nil _).mono ?_
  rintro e wy ⟨rfl, rfl⟩
  go_wp2_with fail
  refine (CR.out _).mono ?_
  rintro e w4 ⟨rfl, ht⟩
  have HT4 := Lib.hid (HT3.out.trans ht (fun _ h => .inl h)); have HX4 := Lib.hid (HX3.out.turn ht (fun h => h)); have HP4 := Lib.hid (HP3.out.still ht); clear ht c0 c1 c2 c3 c4 c5 c6
  obtain ⟨c0, c1, c2, c3, c4, c5, c6⟩ := shp_cells HX4.out
  go_wp2_with fail
  refine (CV.out _).mono ?_
  rintro e w5 ⟨rfl, ht⟩
  have HT5 := Lib.hid (HT4.out.trans ht (fun _ h => .inl h)); have HX5 := Lib.hid (HX4.out.turn ht (fun h => h)); have HP5 := Lib.hid (HP4.out.still ht); clear ht c0 c1 c2 c3 c4 c5 c6
  obtain ⟨c0, c1, c2, c3, c4, c5, c6⟩ := shp_cells HX5.out
  go_wp2_with fail
  refine (CO.out _).mono ?_
  rintro e w6 ⟨rfl, ht⟩
  have HT6 := Lib.hid (HT5.out.trans ht (fun _ h => .inl h)); have HX6 := Lib.hid (HX5.out.turn ht (fun h => h)); have HP6 := Lib.hid (HP5.out.still ht); clear ht c0 c1 c2 c3 c4 c5 c6
  obtain ⟨c0, c1, c2, c3, c4, c5, c6⟩ := shp_cells HX6.out
  go_wp2_with fail
  refine (CZ.out _).mono ?_
  rintro e w7 ⟨rfl, ht⟩
  have HT7 := Lib.hid (HT6.out.trans ht (fun _ h => .inl h)); have HX7 := Lib.hid (HX6.out.turn ht (fun h => h)); have HP7 := Lib.hid (HP6.out.still ht); clear ht c0 c1 c2 c3 c4 c5 c6
  obtain ⟨c0, c1, c2, c3, c4, c5, c6⟩ := shp_cells HX7.out
  go_wp2_with fail
  refine (CO.out _).mono ?_
  rintro e w8 ⟨rfl, ht⟩
  have HT8 := Lib.hid (HT7.out.trans ht (fun _ h => .inl h)); have HX8 := Lib.hid (HX7.out.turn ht (fun h => h)); have HP8 := Lib.hid (HP7.out.still ht); clear ht c0 c1 c2 c3 c4 c5 c6
  obtain ⟨c0, c1, c2, c3, c4, c5, c6⟩ := shp_cells HX8.out
  go_wp2_with fail
  refine (CW.out _).mono ?_
  rintro e w9 ⟨rfl, ht⟩
  have HT9 := Lib.hid (HT8.out.trans ht (fun _ h => .inl h)); have HX9 := Lib.hid (HX8.out.turn ht (fun h => h)); have HP9 := Lib.hid (HP8.out.still ht); clear ht c0 c1 c2 c3 c4 c5 c6
  obtain ⟨c0, c1, c2, c3, c4, c5, c6⟩ := shp_cells HX9.out
  go_wp2_with fail
  refine (HP9.out.home).mono ?_
  rintro e w10 ⟨⟨r, rfl, hr⟩, hp, ht⟩
  obtain rfl : r = true := hr.2 HH.out
  have HT10 := Lib.hid (HT9.out.trans ht (fun _ h => .inl h))
  clear hr hp ht c0 c1 c2 c3 c4 c5 c6
  go_wp2_with fail
  refine (awake_any _).mono ?_
  rintro e w11 ⟨rfl, hb⟩
  have HB := Lib.hid (below_below (turn_below HT10.out) (Nat.le_refl _) hb); clear hb
  go_wp2_with fail
  go_ret
  exact ⟨rfl, HB.out⟩

theorem shp_of_ok {W z0 z1 z2 n0 n1 n2 : Int} (h : okU W (three z0 z1 z2) (three n0 n1 n2) 3 = true) : ∃ s : Shp, s.Right ∧ shpV W z0 z1 z2 n0 n1 n2 = s.val := by
  simp [okU, three] at h
  refine ⟨⟨W.toNat, fun k => (three z0 z1 z2 k).toNat, fun k => (three n0 n1 n2 k).toNat⟩, ⟨by show 1 ≤ W.toNat; omega, by show W.toNat ≤ 64; omega, fun k hk => ?_, fun k hk => ?_⟩, ?_⟩
  · rcases (show k = 0 ∨ k = 1 ∨ k = 2 by omega) with rfl | rfl | rfl <;> simp [three] <;> omega
  · rcases (show k = 0 ∨ k = 1 ∨ k = 2 by omega) with rfl | rfl | rfl <;> simp [three] <;> omega
  · unfold Shp.val shpV
    simp only [three]
    rw [Int.toNat_of_nonneg (by omega), Int.toNat_of_nonneg (by omega), Int.toNat_of_nonneg (by omega), Int.toNat_of_nonneg (by omega), Int.toNat_of_nonneg (by omega), Int.toNat_of_nonneg (by omega), Int.toNat_of_nonneg (by omega)]

theorem poolNew_walk (W z0 z1 z2 n0 n1 n2 base : Int) (w : World) :
    Calls Try.prog 8 #[.agg #[.int .i64 W, .int .i64 z0, .int .i64 z1, .int .i64 z2, .int .i64 n0, .int .i64 n1, .int .i64 n2], .int .i64 base] w fun e w' => e = .returned (.bool true) ∧ Below w.heap.size w w' := by
  cases hk : okU W (three z0 z1 z2) (three n0 n1 n2) 3 with
  | false => exact poolNew_wrong W z0 z1 z2 n0 n1 n2 base hk w
  | true =>
    obtain ⟨s, hs, e⟩ := shp_of_ok hk
    have e' := e
    unfold shpV at e'
    rw [e']
    by_cases hl : 65536 < s.ws 3
    · exact poolNew_long s base hs hl w
    · by_cases hb : base < 0
      · exact poolNew_neg s base hs (by omega) hb w
      · obtain ⟨k, rfl⟩ : ∃ k : Nat, base = k := ⟨base.toNat, by omega⟩
        by_cases ho : 3000 - (s.ws 3 : Int) < k
        · exact poolNew_over s k hs (by omega) ho w
        · exact poolNew_good s k hs (by omega) (by omega) w

end Go.Proofs.Ytccadafajocbgaa
