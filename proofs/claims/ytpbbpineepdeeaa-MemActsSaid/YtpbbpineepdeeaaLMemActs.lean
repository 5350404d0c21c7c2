/- MemActs returns true, whatever the number of words and the acts are: the program's memory and the document's do the same, act by act. -/
import Derived.Test.YtpbbpineepdeeaaDoGood
import Derived.Test.YtpbbpineepdeeaaArg2
open Go Go.RowKit
namespace Go.Proofs.Ytpbbpineepdeeaa

theorem wrapMod6 (y : Int) : ∃ k : Nat, (wrap64 (y.tmod 6 + 6)).tmod 6 = k ∧ k < 6 := by
  have h1 := Int.tmod_lt_of_pos y (b := 6) (by omega)
  have h2 := Int.lt_tmod_of_pos y (b := 6) (by omega)
  have e : wrap64 (y.tmod 6 + 6) = y.tmod 6 + 6 := by unfold wrap64; omega
  rw [e]
  have h3 := Int.tmod_nonneg (a := y.tmod 6 + 6) 6 (by omega)
  have h4 := Int.tmod_lt_of_pos (y.tmod 6 + 6) (b := 6) (by omega)
  exact ⟨((y.tmod 6 + 6).tmod 6).toNat, by omega, by omega⟩

theorem do_any (m a b p q r : Nat) (s : MemS) (y at_ n was nw : Int) (w : World) (hm : IsMem w m a b s) (hr : IsRef w p q r s) (hap : ∀ i, i ∈ [m, a, b] → i ∉ [p, q, r]) :
    Calls Try.prog 21 #[.pointer (some ⟨m, 0, none⟩), .pointer (some ⟨p, 0, none⟩), .agg #[.int .i64 y, .int .i64 at_, .int .i64 n, .int .i64 was, .int .i64 nw]] w
      fun e w' => ∃ s', DoPost w m a b p q r s' e w' := by
  obtain ⟨k, hk, hk6⟩ := wrapMod6 y
  by_cases h2 : 2 ≤ k
  · by_cases hc : s.code at_ = 0
    · obtain ⟨i, rfl, hi, _⟩ := MemS.code_zero hc
      rcases (show k = 2 ∨ k = 3 ∨ k = 4 ∨ k = 5 by omega) with rfl | rfl | rfl | rfl
      · exact (do_load_good m a b p q r s y n was nw i w hm hr hap hk hc hi).mono fun _ _ h => ⟨_, h⟩
      · exact (do_store_good m a b p q r s y n was nw i w hm hr hap hk hc hi).mono fun _ _ h => ⟨_, h⟩
      · by_cases hh : s.words.getD i 0 = was
        · exact (do_swap_good_hit m a b p q r s y n was nw i w hm hr hap hk hc hi hh).mono fun _ _ h => ⟨_, h⟩
        · exact (do_swap_good_miss m a b p q r s y n was nw i w hm hr hap hk hc hi hh).mono fun _ _ h => ⟨_, h⟩
      · exact (do_add_good m a b p q r s y n was nw i w hm hr hap hk hc hi).mono fun _ _ h => ⟨_, h⟩
    · rcases (show k = 2 ∨ k = 3 ∨ k = 4 ∨ k = 5 by omega) with rfl | rfl | rfl | rfl
      · exact (do_load_bad m a b p q r s y at_ n was nw w hm hr hap hk hc).mono fun _ _ h => ⟨_, h⟩
      · exact (do_store_bad m a b p q r s y at_ n was nw w hm hr hap hk hc).mono fun _ _ h => ⟨_, h⟩
      · exact (do_swap_bad m a b p q r s y at_ n was nw w hm hr hap hk hc).mono fun _ _ h => ⟨_, h⟩
      · exact (do_add_bad m a b p q r s y at_ n was nw w hm hr hap hk hc).mono fun _ _ h => ⟨_, h⟩
  · rcases (show k = 0 ∨ k = 1 by omega) with rfl | rfl
    · exact (do_live m a b p q r s y at_ n was nw w hm hr hap hk).mono fun _ _ h => ⟨_, h⟩
    · exact (do_free m a b p q r s y at_ n was nw w hm hr hap hk).mono fun _ _ h => ⟨_, h⟩

/-- The two memories of a walk of MemActs, which read alike. -/
def Pair (w0 : World) (m a b p q r : Nat) (w : World) : Prop := (∃ s, IsMem w m a b s ∧ IsRef w p q r s) ∧ Below w0.heap.size w0 w

theorem memActs_long (z : Int) (n cap : Nat) (a : Option Addr) (w : World) (h : 60 < n) : Calls Try.prog 8 #[.int .u16 z, .slice a n cap] w fun e w' => e = .returned (.bool true) ∧ Below w.heap.size w w' := by
  go_enter Try.func8, Try.ntmps8
  go_wp2_with fail
  go_ret
  exact ⟨rfl, Below.refl _ _⟩

set_option maxRecDepth 100000 in
set_option maxHeartbeats 1000000 in
theorem memActs_short (z : Nat) (hz : z ≤ 65535) (n : Nat) (c : Nat → Nat → Int) (v : Value) (w : World) (hv : ArgRows w v n 5 (fun i j => .int .i64 (c i j))) (h : n ≤ 60) : Calls Try.prog 8 #[.int .u16 z, v] w fun e w' => e = .returned (.bool true) ∧ Below w.heap.size w w' := by
  obtain ⟨aa, cap, rfl, hv⟩ := hv
  have HV := Lib.hid hv; clear hv
  obtain ⟨k, hk⟩ : ∃ k : Nat, (z : Int) % 500 = k := ⟨z % 500, by omega⟩
  have hk5 : k ≤ 500 := by omega
  have H0 := Lib.hid (new_ok k w (by omega))
  have hn0 : ¬ 60 < n := by omega
  go_enter Try.func8, Try.ntmps8
  go_wp2_with fail
  refine H0.out.mono ?_
  rintro e w1 ⟨m, a, b, rfl, hm, h1, h2, h3, ho⟩
  have HM1 := Lib.hid hm; have HB1 := Lib.hid ho.nil_below; clear hm ho
  go_wp2_with fail
  refine (rnew_ok k _ (by omega)).mono ?_
  rintro e w2 ⟨p, q, r, rfl, hr, g1, g2, g3, ho⟩
  have hl := HM1.out
  have t1 := hl.top.lt; have t2 := hl.words.lt; have t3 := hl.live.lt
  have HAP := Lib.hid (show ∀ i, i ∈ [m, a, b] → i ∉ [p, q, r] from fun i hi => by simp at hi ⊢; omega)
  have HM2 := Lib.hid (hl.only ho (by simp) (by simp) (by simp))
  have HR2 := Lib.hid hr
  have HB2 := Lib.hid (below_only HB1.out (Nat.le_refl _) ho (by simp))
  have hpw : w.heap.size ≤ p ∧ w.heap.size ≤ q ∧ w.heap.size ≤ r := by have := HB1.out.size; omega
  clear hl hr ho
  go_wp2_with fail
  refine (words_any m a b _ _ HM2.out).mono ?_
  rintro e w3 ⟨rfl, rfl⟩
  rw [MemS.fresh_words]
  go_wp2_with fail
  go_loopw [9] (fun t wr => ∃ i : Nat, i ≤ n ∧ t = .int .i64 i ∧ Pair w m a b p q r wr) (fun t _ => n - (intOf t).toNat)
  case atStart => exact ⟨0, by omega, rfl, ⟨_, HM2.out, HR2.out⟩, HB2.out⟩
  case round =>
    obtain ⟨i, hi, rfl, hP⟩ := hrel
    obtain ⟨⟨s, hm, hr⟩, hb⟩ := hP
    have HM3 := Lib.hid hm; have HR3 := Lib.hid hr; have HB3 := Lib.hid hb; clear hm hr hb
    by_cases hlt : i < n
    · obtain ⟨bb, off, rfl, hbb, hcell⟩ := HV.out (by omega)
      have c0 := (HB3.out.cell (p := ⟨bb, off + i * 5 + 0, none⟩) hbb).trans (hcell i hlt 0 (by omega))
      have c1 := (HB3.out.cell (p := ⟨bb, off + i * 5 + 1, none⟩) hbb).trans (hcell i hlt 1 (by omega))
      have c2 := (HB3.out.cell (p := ⟨bb, off + i * 5 + 2, none⟩) hbb).trans (hcell i hlt 2 (by omega))
      have c3 := (HB3.out.cell (p := ⟨bb, off + i * 5 + 3, none⟩) hbb).trans (hcell i hlt 3 (by omega))
      have c4 := (HB3.out.cell (p := ⟨bb, off + i * 5 + 4, none⟩) hbb).trans (hcell i hlt 4 (by omega))
      rw [Nat.add_zero] at c0
      clear hcell
      generalize c i 0 = y0 at c0
      generalize c i 1 = y1 at c1
      generalize c i 2 = y2 at c2
      generalize c i 3 = y3 at c3
      generalize c i 4 = y4 at c4
      go_wp2_with fail
      go_region_with (first | (go_at_call 21; refine (do_any m a b p q r s _ _ _ _ _ _ HM3.out.drew HR3.out.drew HAP.out).mono ?_; rintro e w4 ⟨s', rfl, hm4, hr4, ho4⟩; have c9 := hr4.top.cell 2; simp at c9; have HM4 := Lib.hid hm4; have HR4 := Lib.hid hr4; have HB4 := Lib.hid (below_only HB3.out.drew (Nat.le_refl _) ho4 (fun k hk => by simp at hk; omega)); clear hm4 hr4 ho4) | (go_at_call 17; refine (steps_any m a b _ _ (by first | exact HM4.out | exact HM4.out.drew)).mono ?_; rintro e w5 ⟨rfl, rfl⟩))
      all_goals go_wp2_with fail
      all_goals
        go_roundw
        case rel => exact ⟨i + 1, by omega, by go_num, ⟨_, HM4.out, HR4.out⟩, HB4.out⟩
        case measure => simp [intOf]; omega
    · go_wp2_with fail
      go_wp2_with fail
      refine (awake_any _).mono ?_
      rintro e wz ⟨rfl, hb⟩
      have HBz := Lib.hid (below_below HB3.out (Nat.le_refl _) hb); clear hb
      go_wp2_with fail
      go_ret
      exact ⟨rfl, HBz.out⟩

theorem memActs_walk (z : Int) (hz : 0 ≤ z ∧ z ≤ 65535) (n : Nat) (c : Nat → Nat → Int) (v : Value) (w : World) (hv : ArgRows w v n 5 (fun i j => .int .i64 (c i j))) : Calls Try.prog 8 #[.int .u16 z, v] w fun e w' => e = .returned (.bool true) ∧ Below w.heap.size w w' := by
  by_cases h : n ≤ 60
  · obtain ⟨y, rfl⟩ : ∃ y : Nat, z = y := ⟨z.toNat, by omega⟩
    exact memActs_short y (by omega) n c v w hv h
  · obtain ⟨a, cap, rfl, _⟩ := hv
    exact memActs_long _ _ _ _ _ (by omega)

end Go.Proofs.Ytpbbpineepdeeaa
