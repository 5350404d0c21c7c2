/- DequeNew returns true, whatever the kind, the base and the room are. -/
import Derived.Test.YtlogmfpnjpamgaaDeqS
open Go Go.RowKit
namespace Go.Proofs.Ytlogmfpnjpamgaa

theorem below_awake {B : Nat} {w w1 w2 : World} (h : Below B w w1) (hB : B ≤ w.heap.size) (k : Below w1.heap.size w1 w2) : Below B w w2 := below_below h hB k

set_option maxRecDepth 100000 in
set_option maxHeartbeats 1000000 in
theorem dequeNew_out (kind base room : Int) (w : World) (hr : room < 1 ∨ 1000 < room) : Calls Try.prog 3 #[.int .i64 kind, .int .i64 base, .int .i64 room] w fun e w' => e = .returned (.bool true) ∧ Below w.heap.size w w' := by
  have CW := Lib.hid (fun w => words_out room w hr)
  have C0 : Hid (∀ (m a b : Nat) (v : World), IsMem v m a b (MemS.fresh 1100) → Calls Try.prog 11 #[.pointer (some ⟨m, 0, none⟩), .int .i64 kind, .int .i64 base, .int .i64 room] v (NewPost v m a b agg0 1 (MemS.fresh 1100))) := Lib.hid (by
    intro m a b v hm
    by_cases hk : kind < 1 ∨ 3 < kind
    · exact dnew_kind m a b _ kind base room v hm hk
    · exact dnew_room m a b _ kind base room v hm (by omega) hr)
  by_cases h1 : 1 ≤ room
  all_goals by_cases hk : kind < 1
  all_goals by_cases hk3 : 3 < kind
  all_goals (try (exfalso; omega))
  all_goals have hr3 : ¬ (room ≤ 1000 ∧ 1 ≤ room) := by omega
  all_goals clear hr
  all_goals (try (have hr4 : ¬ room ≤ 1000 := by omega))
  all_goals clear hr3
  all_goals go_enter Try.func3, Try.ntmps3
  all_goals go_wp2_with fail
  all_goals refine (new_ok 1100 _ (by omega)).mono ?_
  all_goals rintro e w1 ⟨m, a, b, rfl, hm, h1, h2, h3, ho⟩
  all_goals have HB1 := Lib.hid ho.nil_below
  all_goals have HC := Lib.hid (C0.out m a b w1 hm)
  all_goals clear hm ho C0
  all_goals go_wp2_with fail
  all_goals refine HC.out.mono ?_
  all_goals rintro e w2 ⟨rfl, hm, ho⟩
  all_goals have HB2 := Lib.hid (below_only3 HB1.out (Nat.le_refl _) ho h1 h2 h3)
  all_goals clear hm ho HC
  all_goals unfold agg0
  all_goals go_wp2_with fail
  all_goals refine (CW.out _).mono ?_
  all_goals rintro e w3 ⟨rfl, rfl⟩
  all_goals go_wp2_with fail
  all_goals refine (awake_any _).mono ?_
  all_goals rintro e w4 ⟨rfl, hb⟩
  all_goals have HB4 := Lib.hid (below_awake (HB2.out.alloc HB2.out.size _) (Nat.le_refl _) hb)
  all_goals clear hb
  all_goals go_wp2_with fail
  all_goals go_ret
  all_goals exact ⟨rfl, HB4.out⟩

set_option maxRecDepth 100000 in
set_option maxHeartbeats 1000000 in
theorem dequeNew_kind (kind base : Int) (room : Nat) (w : World) (hr : 1 ≤ room ∧ room ≤ 1000) (hk : kind < 1 ∨ 3 < kind) : Calls Try.prog 3 #[.int .i64 kind, .int .i64 base, .int .i64 room] w fun e w' => e = .returned (.bool true) ∧ Below w.heap.size w w' := by
  have CW := Lib.hid (fun w => words_in room w hr.1 hr.2)
  have C0 : Hid (∀ (m a b : Nat) (v : World), IsMem v m a b (MemS.fresh 1100) → Calls Try.prog 11 #[.pointer (some ⟨m, 0, none⟩), .int .i64 kind, .int .i64 base, .int .i64 room] v (NewPost v m a b agg0 1 (MemS.fresh 1100))) := Lib.hid (fun m a b v hm => dnew_kind m a b _ kind base room v hm hk)
  have hr1 : (1 : Int) ≤ room := by omega
  have hr2 : (room : Int) ≤ 1000 := by omega
  have hs : ((2 + room : Nat) : Int) = (room : Int) + 2 := by omega
  rw [hs] at CW
  clear hs hr
  rcases hk with hk | hk
  all_goals (try (have hk1 : ¬ kind < 1 := by omega))
  all_goals go_enter Try.func3, Try.ntmps3
  all_goals go_wp2_with fail
  all_goals refine (new_ok 1100 _ (by omega)).mono ?_
  all_goals rintro e w1 ⟨m, a, b, rfl, hm, h1, h2, h3, ho⟩
  all_goals have HB1 := Lib.hid ho.nil_below
  all_goals have HC := Lib.hid (C0.out m a b w1 hm)
  all_goals clear hm ho C0
  all_goals go_wp2_with fail
  all_goals refine HC.out.mono ?_
  all_goals rintro e w2 ⟨rfl, hm, ho⟩
  all_goals have HB2 := Lib.hid (below_only3 HB1.out (Nat.le_refl _) ho h1 h2 h3)
  all_goals clear hm ho HC
  all_goals unfold agg0
  all_goals go_wp2_with fail
  all_goals refine (CW.out _).mono ?_
  all_goals rintro e w3 ⟨rfl, rfl⟩
  all_goals go_wp2_with fail
  all_goals refine (awake_any _).mono ?_
  all_goals rintro e w4 ⟨rfl, hb⟩
  all_goals have HB4 := Lib.hid (below_awake (HB2.out.alloc HB2.out.size _) (Nat.le_refl _) hb)
  all_goals clear hb
  all_goals go_wp2_with fail
  all_goals go_ret
  all_goals exact ⟨rfl, HB4.out⟩

set_option maxRecDepth 100000 in
set_option maxHeartbeats 1000000 in
theorem dequeNew_base (kind base : Int) (room : Nat) (w : World) (hr : 1 ≤ room ∧ room ≤ 1000) (hk : 1 ≤ kind ∧ kind ≤ 3) (hb : base < 0 ∨ 1100 - ((room : Int) + 2) < base) : Calls Try.prog 3 #[.int .i64 kind, .int .i64 base, .int .i64 room] w fun e w' => e = .returned (.bool true) ∧ Below w.heap.size w w' := by
  have CW := Lib.hid (fun w => words_in room w hr.1 hr.2)
  have et : (MemS.fresh 1100).tcode base ((2 + room : Nat) : Int) true = 6 := MemS.tcode_six (by rw [MemS.fresh_words]; omega)
  have eu : (MemS.fresh 1100).turn base ((2 + room : Nat) : Int) true = MemS.fresh 1100 := MemS.turn_ne (by rw [et]; decide)
  have C0 : Hid (∀ (m a b : Nat) (v : World), IsMem v m a b (MemS.fresh 1100) → Calls Try.prog 11 #[.pointer (some ⟨m, 0, none⟩), .int .i64 kind, .int .i64 base, .int .i64 room] v (NewPost v m a b agg0 6 (MemS.fresh 1100))) := Lib.hid (by
    intro m a b v hm
    have h := dnew_live m a b _ kind base room v hm hk hr.1 hr.2
    rw [et, eu, if_neg (by decide)] at h
    exact h)
  have hr1 : (1 : Int) ≤ room := by omega
  have hr2 : (room : Int) ≤ 1000 := by omega
  have hs : ((2 + room : Nat) : Int) = (room : Int) + 2 := by omega
  have hk1 : ¬ kind < 1 := by omega
  have hk3 : ¬ 3 < kind := by omega
  have hz : ((room : Int) + 2 == 0) = false := by simp; omega
  have hsub : IntKind.i64.wrap (1100 - ((room : Int) + 2)) = 1100 - ((room : Int) + 2) := IntWalk.i64_in _ (by omega)
  have HS := Lib.hid hsub
  rw [hs] at CW
  clear hs hr hk et eu hsub
  rcases hb with hb | hb
  all_goals (try (have hb1 : ¬ base < 0 := by omega))
  all_goals have hsub := HS.out
  all_goals go_enter Try.func3, Try.ntmps3
  all_goals go_wp2_with fail
  all_goals refine (new_ok 1100 _ (by omega)).mono ?_
  all_goals rintro e w1 ⟨m, a, b, rfl, hm, h1, h2, h3, ho⟩
  all_goals have HB1 := Lib.hid ho.nil_below
  all_goals have HC := Lib.hid (C0.out m a b w1 hm)
  all_goals clear hm ho C0
  all_goals go_wp2_with fail
  all_goals refine HC.out.mono ?_
  all_goals rintro e w2 ⟨rfl, hm, ho⟩
  all_goals have HB2 := Lib.hid (below_only3 HB1.out (Nat.le_refl _) ho h1 h2 h3)
  all_goals clear hm ho HC
  all_goals unfold agg0
  all_goals go_wp2_with fail
  all_goals refine (CW.out _).mono ?_
  all_goals rintro e w3 ⟨rfl, rfl⟩
  all_goals go_wp2_with fail
  all_goals refine (awake_any _).mono ?_
  all_goals rintro e w4 ⟨rfl, hb⟩
  all_goals have HB4 := Lib.hid (below_awake (HB2.out.alloc HB2.out.size _) (Nat.le_refl _) hb)
  all_goals clear hb
  all_goals go_wp2_with fail
  all_goals go_ret
  all_goals exact ⟨rfl, HB4.out⟩

set_option maxRecDepth 100000 in
set_option maxHeartbeats 1000000 in
theorem dequeNew_in (kind : Int) (base room : Nat) (w : World) (hr : 1 ≤ room ∧ room ≤ 1000) (hk : 1 ≤ kind ∧ kind ≤ 3) (hb : base + room + 2 ≤ 1100) : Calls Try.prog 3 #[.int .i64 kind, .int .i64 base, .int .i64 room] w fun e w' => e = .returned (.bool true) ∧ Below w.heap.size w w' := by
  have CW := Lib.hid (fun w => words_in room w hr.1 hr.2)
  have et : (MemS.fresh 1100).tcode base ((2 + room : Nat) : Int) true = 0 := fresh_tcode (by omega)
  obtain ⟨t1, ht1⟩ : ∃ t1, t1 = (MemS.fresh 1100).turn base ((2 + room : Nat) : Int) true := ⟨_, rfl⟩
  have hf : t1 = (MemS.fresh 1100).fill base true (2 + room) := by rw [ht1]; exact MemS.turn_eq et
  have hl : base + (2 + room) ≤ (MemS.fresh 1100).live.length := by rw [MemS.fresh_len, MemS.fresh_words]; omega
  have et2 : t1.tcode base ((2 + room : Nat) : Int) true = 11 := by
    rw [hf]
    exact MemS.tcode_eleven (j := base) (MemS.fill_len _ _ _ _ (MemS.fresh_len _)) (by rw [MemS.fill_words, MemS.fresh_words]; omega) (Nat.le_refl _) (by omega) (by rw [MemS.fill_live _ _ _ _ _ hl, if_pos (by omega)])
  have eu2 : t1.turn base ((2 + room : Nat) : Int) true = t1 := MemS.turn_ne (by rw [et2]; decide)
  have C0 : Hid (∀ (m a b : Nat) (v : World), IsMem v m a b (MemS.fresh 1100) → Calls Try.prog 11 #[.pointer (some ⟨m, 0, none⟩), .int .i64 kind, .int .i64 base, .int .i64 room] v (NewPost v m a b (aggD kind base room) 0 t1)) := Lib.hid (by
    intro m a b v hm
    have h := dnew_live m a b _ kind base room v hm hk hr.1 hr.2
    rw [et, ← ht1, if_pos rfl] at h
    exact h)
  have C1 : Hid (∀ (m a b : Nat) (v : World), IsMem v m a b t1 → Calls Try.prog 11 #[.pointer (some ⟨m, 0, none⟩), .int .i64 kind, .int .i64 base, .int .i64 room] v (NewPost v m a b agg0 11 t1)) := Lib.hid (by
    intro m a b v hm
    have h := dnew_live m a b _ kind base room v hm hk hr.1 hr.2
    rw [et2, eu2, if_neg (by decide)] at h
    exact h)
  have hr1 : (1 : Int) ≤ room := by omega
  have hr2 : (room : Int) ≤ 1000 := by omega
  have hs : ((2 + room : Nat) : Int) = (room : Int) + 2 := by omega
  have hk1 : ¬ kind < 1 := by omega
  have hk3 : ¬ 3 < kind := by omega
  have hz : ((room : Int) + 2 == 0) = false := by simp; omega
  have hsub : IntKind.i64.wrap (1100 - ((room : Int) + 2)) = 1100 - ((room : Int) + 2) := IntWalk.i64_in _ (by omega)
  have hb1 : ¬ (base : Int) < 0 := by omega
  have hb2 : ¬ 1100 - ((room : Int) + 2) < (base : Int) := by omega
  rw [hs] at CW
  clear hs hr hk et et2 eu2 hf hl ht1 hb
  go_enter Try.func3, Try.ntmps3
  go_wp2_with fail
  refine (new_ok 1100 _ (by omega)).mono ?_
  rintro e w1 ⟨m, a, b, rfl, hm, h1, h2, h3, ho⟩
  have HB1 := Lib.hid ho.nil_below
  have HC := Lib.hid (C0.out m a b w1 hm)
  clear hm ho C0
  go_wp2_with fail
  refine HC.out.mono ?_
  rintro e w2 ⟨rfl, hm, ho⟩
  have HB2 := Lib.hid (below_only3 HB1.out (Nat.le_refl _) ho h1 h2 h3)
  have HM2 := Lib.hid hm
  clear hm ho HC
  unfold aggD
  go_wp2_with fail
  refine (CW.out _).mono ?_
  rintro e w3 ⟨rfl, rfl⟩
  go_wp2_with fail
  refine (C1.out m a b _ (HM2.out.alloc _)).mono ?_
  rintro e w3 ⟨rfl, hm, ho⟩
  have HB3 := Lib.hid (below_only3 (HB2.out.alloc HB2.out.size _) (Nat.le_refl _) ho h1 h2 h3)
  clear hm ho
  unfold agg0
  go_wp2_with fail
  refine (awake_any _).mono ?_
  rintro e w4 ⟨rfl, hb⟩
  have HB4 := Lib.hid (below_awake (HB3.out.alloc HB3.out.size _) (Nat.le_refl _) hb)
  clear hb
  go_wp2_with fail
  go_ret
  exact ⟨rfl, HB4.out⟩

theorem dequeNew_core (kind base room : Int) (w : World) : Calls Try.prog 3 #[.int .i64 kind, .int .i64 base, .int .i64 room] w fun e w' => e = .returned (.bool true) ∧ Below w.heap.size w w' := by
  by_cases hr : room < 1 ∨ 1000 < room
  · exact dequeNew_out kind base room w hr
  · obtain ⟨r, rfl⟩ : ∃ r : Nat, room = r := ⟨room.toNat, by omega⟩
    by_cases hk : kind < 1 ∨ 3 < kind
    · exact dequeNew_kind kind base r w (by omega) hk
    · by_cases hb : base < 0 ∨ 1100 - ((r : Int) + 2) < base
      · exact dequeNew_base kind base r w (by omega) (by omega) hb
      · obtain ⟨b, rfl⟩ : ∃ b : Nat, base = b := ⟨base.toNat, by omega⟩
        exact dequeNew_in kind b r w (by omega) (by omega) (by omega)

end Go.Proofs.Ytlogmfpnjpamgaa
