/- CellNone returns true, whether it fills or waits and whatever the value is. -/
import Derived.Test.YtglifjecihmbhaaCellE
open Go Go.RowKit
namespace Go.Proofs.Ytglifjecihmbhaa

theorem none_wait : ((OpS.wait 0 1 5).move (MemS.fresh 9)).1.ended = true ∧ ((OpS.wait 0 1 5).move (MemS.fresh 9)).1.endV = .tuple #[end0, .int .i64 7] ∧ ((OpS.wait 0 1 5).move (MemS.fresh 9)).2 = MemS.fresh 9 := ⟨by kernel_rfl, by kernel_rfl, by kernel_rfl⟩
theorem none_fill (v : Int) : ((OpS.fill 0 v 0).move (MemS.fresh 9)).1.ended = true ∧ ((OpS.fill 0 v 0).move (MemS.fresh 9)).1.endV = .tuple #[end0, .int .i64 7] ∧ ((OpS.fill 0 v 0).move (MemS.fresh 9)).2 = MemS.fresh 9 := ⟨by kernel_rfl, by kernel_rfl, by kernel_rfl⟩
theorem none_far : ((OpS.wait 100 1 5).move (MemS.fresh 9)).1.ended = true ∧ ((OpS.wait 100 1 5).move (MemS.fresh 9)).1.endV = .tuple #[end0, .int .i64 6] := ⟨by kernel_rfl, by kernel_rfl⟩

set_option maxRecDepth 100000 in
set_option maxHeartbeats 1000000 in
theorem cellNone_wait (v : Int) (w : World) : Calls Try.prog 5 #[.bool false, .int .i64 v] w fun e w' => e = .returned (.bool true) ∧ Below w.heap.size w w' := by
  go_enter Try.func5, Try.ntmps5
  go_wp2_with fail
  refine (cend_nil _).mono ?_
  rintro e w1 ⟨rfl, ho⟩
  have HB1 := Lib.hid ho.nil_below; clear ho
  unfold end0
  go_wp2_with fail
  refine (new_ok 9 _ (by omega)).mono ?_
  rintro e w2 ⟨m, a, b, rfl, hm, h1, h2, h3, ho⟩
  have d0 := (Blk.new w1 [.bool false, .int .i64 0, .int .i64 0, .int .i64 0] 45).only ho (by simp)
  have HD2 := Lib.hid d0
  have HM2 := Lib.hid hm; have HB2 := Lib.hid (below_only (HB1.out.alloc HB1.out.size _) (Nat.le_refl _) ho (by simp)); have hs2 := d0.lt
  have hmm : w.heap.size ≤ m ∧ w.heap.size ≤ a ∧ w.heap.size ≤ b := by have := HB1.out.size; simp at h1 h2 h3; omega
  simp at h1 h2 h3
  clear d0 hm ho
  go_wp2_with fail
  refine (cat_any _ _).mono ?_
  rintro e w3 ⟨rfl, ho⟩
  have HD3 := Lib.hid (HD2.out.only ho (by simp)); have HM3 := Lib.hid (HM2.out.only ho (by simp) (by simp) (by simp)); have HB3 := Lib.hid (below_only HB2.out (Nat.le_refl _) ho (by simp)); have hs3 := HD3.out.lt; have hm3 := HM3.out.top.lt; have ha3 := HM3.out.words.lt; have hb3 := HM3.out.live.lt; clear ho
  go_wp2_with fail
  refine (cwait_any _ _ _ _).mono ?_
  rintro e w4 ⟨o, rfl, hp, hq, ho⟩
  have HD4 := Lib.hid (HD3.out.only ho (by simp)); have HM4 := Lib.hid (HM3.out.only ho (by simp) (by simp) (by simp)); have HB4 := Lib.hid (below_only HB3.out (Nat.le_refl _) ho (by simp)); have HP4 := Lib.hid hp; have hs4 := HD4.out.lt; clear ho hp
  go_wp2_with fail
  refine (cmove_any o m a b (OpS.wait 0 1 5) (MemS.fresh 9) _ ⟨HP4.out, HM4.out, by omega, by omega, by omega⟩ ⟨Or.inl rfl, by decide, by decide⟩).mono ?_
  rintro e w7 ⟨rfl, hh, ho⟩
  rw [(none_wait).1]
  have HD7 := Lib.hid (HD4.out.only ho (by simp; omega)); have HB7 := Lib.hid (below_only HB4.out (Nat.le_refl _) ho (fun k hk => by have := HB4.out.size; have := HB3.out.size; simp at hk; omega)); have HH7 := Lib.hid hh; have hs7 := HD7.out.lt; clear hh ho
  go_wp2_with fail
  refine (cend_any o m a b _ _ _ HH7.out).mono ?_
  rintro e w8 ⟨rfl, ho⟩
  rw [(none_wait).2.1]
  have hh := HH7.out.mem
  rw [(none_wait).2.2] at hh
  have HD8 := Lib.hid (HD7.out.only ho (by simp)); have HM8 := Lib.hid (hh.only ho (by simp) (by simp) (by simp)); have HB8 := Lib.hid (below_only HB7.out (Nat.le_refl _) ho (by simp)); have hs8 := HD8.out.lt; have hm8 := HM8.out.top.lt; have ha8 := HM8.out.words.lt; have hb8 := HM8.out.live.lt; clear hh ho
  unfold end0
  go_wp2_with fail
  refine (cat_any _ _).mono ?_
  rintro e w9 ⟨rfl, ho⟩
  have HE9 := Lib.hid ((Blk.new w8 [.bool false, .int .i64 0, .int .i64 0, .int .i64 0] 45).only ho (by simp))
  have HD9 := Lib.hid ((HD8.out.alloc _).only ho (by simp)); have HM9 := Lib.hid ((HM8.out.alloc _).only ho (by simp) (by simp) (by simp)); have HB9 := Lib.hid (below_only (HB8.out.alloc HB8.out.size _) (Nat.le_refl _) ho (by simp)); have hs9 := HD9.out.lt; have he9 := HE9.out.lt; have hm9 := HM9.out.top.lt; have ha9 := HM9.out.words.lt; have hb9 := HM9.out.live.lt; clear ho
  go_wp2_with fail
  refine (cwait_any _ _ _ _).mono ?_
  rintro e w10 ⟨p, rfl, hp, hpq, ho⟩
  have HE10 := Lib.hid (HE9.out.only ho (by simp)); have HD10 := Lib.hid (HD9.out.only ho (by simp)); have HM10 := Lib.hid (HM9.out.only ho (by simp) (by simp) (by simp)); have HB10 := Lib.hid (below_only HB9.out (Nat.le_refl _) ho (by simp)); have HP10 := Lib.hid hp; have hs10 := HD10.out.lt; have he10 := HE10.out.lt; clear ho hp
  go_wp2_with fail
  refine (cmove_any p m a b (OpS.wait 100 1 5) (MemS.fresh 9) _ ⟨HP10.out, HM10.out, by omega, by omega, by omega⟩ ⟨Or.inl rfl, by decide, by decide⟩).mono ?_
  rintro e w11 ⟨rfl, hh, ho⟩
  rw [none_far.1]
  have HE11 := Lib.hid (HE10.out.only ho (by simp; omega)); have HD11 := Lib.hid (HD10.out.only ho (by simp; omega)); have HB11 := Lib.hid (below_only HB10.out (Nat.le_refl _) ho (fun k hk => by have := HB9.out.size; simp at hk; omega)); have HH11 := Lib.hid hh; have hs11 := HD11.out.lt; have he11 := HE11.out.lt; clear hh ho
  go_wp2_with fail
  refine (cend_any p m a b _ _ _ HH11.out).mono ?_
  rintro e w12 ⟨rfl, ho⟩
  rw [none_far.2]
  have HE12 := Lib.hid (HE11.out.only ho (by simp)); have HD12 := Lib.hid (HD11.out.only ho (by simp)); have HB12 := Lib.hid (below_only HB11.out (Nat.le_refl _) ho (by simp)); have hs12 := HD12.out.lt; have he12 := HE12.out.lt; clear ho
  unfold end0
  have k0 := HD12.out.cell 0
  have k1 := HD12.out.cell 1
  have k2 := HD12.out.cell 2
  have k3 := HD12.out.cell 3
  have n0 := HE12.out.cell 0
  have n1 := HE12.out.cell 1
  have n2 := HE12.out.cell 2
  have n3 := HE12.out.cell 3
  simp at k0 k1 k2 k3 n0 n1 n2 n3
  go_wp2_with fail
  refine (cmove_nil _ _).mono ?_
  rintro e w13 ⟨rfl, rfl⟩
  go_wp2_with fail
  refine (awake_any _).mono ?_
  rintro e wz ⟨rfl, hb⟩
  have HBz := Lib.hid (below_below (HB12.out.alloc HB12.out.size _) (Nat.le_refl _) hb); clear hb
  go_wp2_with fail
  go_ret
  exact ⟨rfl, HBz.out⟩

set_option maxRecDepth 100000 in
set_option maxHeartbeats 1000000 in
theorem cellNone_fill (v : Int) (w : World) : Calls Try.prog 5 #[.bool true, .int .i64 v] w fun e w' => e = .returned (.bool true) ∧ Below w.heap.size w w' := by
  go_enter Try.func5, Try.ntmps5
  go_wp2_with fail
  refine (cend_nil _).mono ?_
  rintro e w1 ⟨rfl, ho⟩
  have HB1 := Lib.hid ho.nil_below; clear ho
  unfold end0
  go_wp2_with fail
  refine (new_ok 9 _ (by omega)).mono ?_
  rintro e w2 ⟨m, a, b, rfl, hm, h1, h2, h3, ho⟩
  have d0 := (Blk.new w1 [.bool false, .int .i64 0, .int .i64 0, .int .i64 0] 45).only ho (by simp)
  have HD2 := Lib.hid d0
  have HM2 := Lib.hid hm; have HB2 := Lib.hid (below_only (HB1.out.alloc HB1.out.size _) (Nat.le_refl _) ho (by simp)); have hs2 := d0.lt
  have hmm : w.heap.size ≤ m ∧ w.heap.size ≤ a ∧ w.heap.size ≤ b := by have := HB1.out.size; simp at h1 h2 h3; omega
  simp at h1 h2 h3
  clear d0 hm ho
  go_wp2_with fail
  refine (cat_any _ _).mono ?_
  rintro e w3 ⟨rfl, ho⟩
  have HD3 := Lib.hid (HD2.out.only ho (by simp)); have HM3 := Lib.hid (HM2.out.only ho (by simp) (by simp) (by simp)); have HB3 := Lib.hid (below_only HB2.out (Nat.le_refl _) ho (by simp)); have hs3 := HD3.out.lt; have hm3 := HM3.out.top.lt; have ha3 := HM3.out.words.lt; have hb3 := HM3.out.live.lt; clear ho
  go_wp2_with fail
  refine (cwait_any _ _ _ _).mono ?_
  rintro e w4 ⟨o, rfl, hp, hq, ho⟩
  have HD4 := Lib.hid (HD3.out.only ho (by simp)); have HM4 := Lib.hid (HM3.out.only ho (by simp) (by simp) (by simp)); have HB4 := Lib.hid (below_only HB3.out (Nat.le_refl _) ho (by simp)); have HP4 := Lib.hid hp; have hs4 := HD4.out.lt; clear ho hp
  go_wp2_with fail
  refine (cat_any _ _).mono ?_
  rintro e w5 ⟨rfl, ho⟩
  have HD5 := Lib.hid (HD4.out.only ho (by simp)); have HM5 := Lib.hid (HM4.out.only ho (by simp) (by simp) (by simp)); have HB5 := Lib.hid (below_only HB4.out (Nat.le_refl _) ho (by simp)); have hs5 := HD5.out.lt; have hm5 := HM5.out.top.lt; have ha5 := HM5.out.words.lt; have hb5 := HM5.out.live.lt; clear ho
  go_wp2_with fail
  refine (cfill_any _ _ _ _).mono ?_
  rintro e w6 ⟨o', rfl, hp, hq', ho⟩
  have HD6 := Lib.hid (HD5.out.only ho (by simp)); have HM6 := Lib.hid (HM5.out.only ho (by simp) (by simp) (by simp)); have HB6 := Lib.hid (below_only HB5.out (Nat.le_refl _) ho (by simp)); have HP6 := Lib.hid hp; have hs6 := HD6.out.lt; clear ho hp
  go_wp2_with fail
  refine (cmove_any o' m a b (OpS.fill 0 v 0) (MemS.fresh 9) _ ⟨HP6.out, HM6.out, by omega, by omega, by omega⟩ ⟨Or.inr (Or.inr (Or.inr (Or.inr (Or.inr (Or.inl rfl))))), (by show (0 : Int) ≤ 0; omega), (by show (0 : Int) ≤ 1000000; omega)⟩).mono ?_
  rintro e w7 ⟨rfl, hh, ho⟩
  rw [(none_fill v).1]
  have HD7 := Lib.hid (HD6.out.only ho (by simp; omega)); have HB7 := Lib.hid (below_only HB6.out (Nat.le_refl _) ho (fun k hk => by have := HB6.out.size; have := HB3.out.size; simp at hk; omega)); have HH7 := Lib.hid hh; have hs7 := HD7.out.lt; clear hh ho
  go_wp2_with fail
  refine (cend_any o' m a b _ _ _ HH7.out).mono ?_
  rintro e w8 ⟨rfl, ho⟩
  rw [(none_fill v).2.1]
  have hh := HH7.out.mem
  rw [(none_fill v).2.2] at hh
  have HD8 := Lib.hid (HD7.out.only ho (by simp)); have HM8 := Lib.hid (hh.only ho (by simp) (by simp) (by simp)); have HB8 := Lib.hid (below_only HB7.out (Nat.le_refl _) ho (by simp)); have hs8 := HD8.out.lt; have hm8 := HM8.out.top.lt; have ha8 := HM8.out.words.lt; have hb8 := HM8.out.live.lt; clear hh ho
  unfold end0
  go_wp2_with fail
  refine (cat_any _ _).mono ?_
  rintro e w9 ⟨rfl, ho⟩
  have HE9 := Lib.hid ((Blk.new w8 [.bool false, .int .i64 0, .int .i64 0, .int .i64 0] 45).only ho (by simp))
  have HD9 := Lib.hid ((HD8.out.alloc _).only ho (by simp)); have HM9 := Lib.hid ((HM8.out.alloc _).only ho (by simp) (by simp) (by simp)); have HB9 := Lib.hid (below_only (HB8.out.alloc HB8.out.size _) (Nat.le_refl _) ho (by simp)); have hs9 := HD9.out.lt; have he9 := HE9.out.lt; have hm9 := HM9.out.top.lt; have ha9 := HM9.out.words.lt; have hb9 := HM9.out.live.lt; clear ho
  go_wp2_with fail
  refine (cwait_any _ _ _ _).mono ?_
  rintro e w10 ⟨p, rfl, hp, hpq, ho⟩
  have HE10 := Lib.hid (HE9.out.only ho (by simp)); have HD10 := Lib.hid (HD9.out.only ho (by simp)); have HM10 := Lib.hid (HM9.out.only ho (by simp) (by simp) (by simp)); have HB10 := Lib.hid (below_only HB9.out (Nat.le_refl _) ho (by simp)); have HP10 := Lib.hid hp; have hs10 := HD10.out.lt; have he10 := HE10.out.lt; clear ho hp
  go_wp2_with fail
  refine (cmove_any p m a b (OpS.wait 100 1 5) (MemS.fresh 9) _ ⟨HP10.out, HM10.out, by omega, by omega, by omega⟩ ⟨Or.inl rfl, by decide, by decide⟩).mono ?_
  rintro e w11 ⟨rfl, hh, ho⟩
  rw [none_far.1]
  have HE11 := Lib.hid (HE10.out.only ho (by simp; omega)); have HD11 := Lib.hid (HD10.out.only ho (by simp; omega)); have HB11 := Lib.hid (below_only HB10.out (Nat.le_refl _) ho (fun k hk => by have := HB9.out.size; simp at hk; omega)); have HH11 := Lib.hid hh; have hs11 := HD11.out.lt; have he11 := HE11.out.lt; clear hh ho
  go_wp2_with fail
  refine (cend_any p m a b _ _ _ HH11.out).mono ?_
  rintro e w12 ⟨rfl, ho⟩
  rw [none_far.2]
  have HE12 := Lib.hid (HE11.out.only ho (by simp)); have HD12 := Lib.hid (HD11.out.only ho (by simp)); have HB12 := Lib.hid (below_only HB11.out (Nat.le_refl _) ho (by simp)); have hs12 := HD12.out.lt; have he12 := HE12.out.lt; clear ho
  unfold end0
  have k0 := HD12.out.cell 0
  have k1 := HD12.out.cell 1
  have k2 := HD12.out.cell 2
  have k3 := HD12.out.cell 3
  have n0 := HE12.out.cell 0
  have n1 := HE12.out.cell 1
  have n2 := HE12.out.cell 2
  have n3 := HE12.out.cell 3
  simp at k0 k1 k2 k3 n0 n1 n2 n3
  go_wp2_with fail
  refine (cmove_nil _ _).mono ?_
  rintro e w13 ⟨rfl, rfl⟩
  go_wp2_with fail
  refine (awake_any _).mono ?_
  rintro e wz ⟨rfl, hb⟩
  have HBz := Lib.hid (below_below (HB12.out.alloc HB12.out.size _) (Nat.le_refl _) hb); clear hb
  go_wp2_with fail
  go_ret
  exact ⟨rfl, HBz.out⟩

theorem cellNone_walk (f : Bool) (v : Int) (w : World) : Calls Try.prog 5 #[.bool f, .int .i64 v] w fun e w' => e = .returned (.bool true) ∧ Below w.heap.size w w' := by
  cases f
  · exact cellNone_wait v w
  · exact cellNone_fill v w

end Go.Proofs.Ytglifjecihmbhaa
