/- MemSums returns true, whatever the row of numbers is: what is added comes together. -/
import Derived.Test.YtpbbpineepdeeaaMemG
import Derived.Test.YtpbbpineepdeeaaArg
open Go Go.RowKit
namespace Go.Proofs.Ytpbbpineepdeeaa

theorem wrap64_add (x y : Int) : wrap64 (wrap64 x + y) = wrap64 (x + y) := by unfold wrap64; omega
theorem wrap64_small {x : Int} (h0 : 0 ≤ x) (h1 : x ≤ 1000000) : wrap64 x = x := by unfold wrap64; omega

def sumTo (zs : List Int) : Nat → Int
  | 0 => 0
  | i + 1 => sumTo zs i + zs.getD i 0
def sumBack (zs : List Int) : Nat → Int
  | 0 => 0
  | i + 1 => sumBack zs i + zs.getD (zs.length - 1 - i) 0

theorem sumTo_take (zs : List Int) (i : Nat) (h : i ≤ zs.length) : sumTo zs i = (zs.take i).sum := by
  induction i with
  | zero => rfl
  | succ i ih =>
    rw [sumTo, ih (by omega), List.take_succ_eq_append_getElem (by omega), List.sum_append, List.getD_eq_getElem?_getD, List.getElem?_eq_getElem (by omega)]
    simp
theorem sumBack_rev (zs : List Int) (i : Nat) (h : i ≤ zs.length) : sumBack zs i = sumTo zs.reverse i := by
  induction i with
  | zero => rfl
  | succ i ih =>
    rw [sumBack, sumTo, ih (by omega)]
    congr 1
    rw [List.getD_eq_getElem?_getD, List.getD_eq_getElem?_getD, List.getElem?_reverse (by omega)]
theorem sum_rev (zs : List Int) : zs.reverse.sum = zs.sum := by
  induction zs with
  | nil => rfl
  | cons z zs ih => simp [List.sum_append, ih]; omega
theorem sums_meet (zs : List Int) : sumTo zs zs.length = sumBack zs zs.length := by
  rw [sumBack_rev _ _ (Nat.le_refl _), sumTo_take _ _ (Nat.le_refl _), sumTo_take _ _ (by simp), List.take_of_length_le (Nat.le_refl _), List.take_of_length_le (by simp), sum_rev]

def sumMem (zs : List Int) (i : Nat) : MemS := ⟨[wrap64 (sumTo zs i), wrap64 (sumBack zs i)], [true, true], 2 * i⟩

theorem code2 (x y t : Int) : MemS.code ⟨[x, y], [true, true], t⟩ 0 = 0 ∧ MemS.code ⟨[x, y], [true, true], t⟩ 1 = 0 := by
  simp [MemS.code]

theorem sumMem_add0 (zs : List Int) (i : Nat) (hi : i ≤ 1000) : (sumMem zs i).add 0 (zs.getD i 0) = ⟨[wrap64 (sumTo zs (i + 1)), wrap64 (sumBack zs i)], [true, true], 2 * i + 1⟩ := by
  rw [sumMem, MemS.add, if_pos (code2 _ _ _).1, MemS.sum, if_pos (code2 _ _ _).1]
  simp only [MemS.put, MemS.tick, MemS.mk.injEq]
  refine ⟨?_, trivial, wrap64_small (by omega) (by omega)⟩
  show List.set _ 0 _ = _
  simp only [List.set_cons_zero, sumTo]
  exact congrArg (· :: _) (wrap64_add _ _)
theorem sumMem_add1 (zs : List Int) (i : Nat) (hi : i ≤ 1000) : MemS.add ⟨[wrap64 (sumTo zs (i + 1)), wrap64 (sumBack zs i)], [true, true], 2 * i + 1⟩ 1 (zs.getD (zs.length - 1 - i) 0) = sumMem zs (i + 1) := by
  rw [sumMem, MemS.add, if_pos (code2 _ _ _).2, MemS.sum, if_pos (code2 _ _ _).2]
  simp only [MemS.put, MemS.tick, MemS.mk.injEq]
  refine ⟨?_, trivial, by rw [wrap64_small (by omega) (by omega)]; omega⟩
  show List.set _ 1 _ = _
  simp only [List.set_cons_succ, List.set_cons_zero, sumBack]
  exact congrArg (fun x => [_, x]) (wrap64_add _ _)

theorem memSums_long (n cap : Nat) (a : Option Addr) (w : World) (h : 100 < n) : Calls Try.prog 5 #[.slice a n cap] w fun e w' => e = .returned (.bool true) ∧ Below w.heap.size w w' := by
  go_enter Try.func5, Try.ntmps5
  go_wp2_with fail
  go_ret
  exact ⟨rfl, Below.refl _ _⟩

theorem memSums_short (zs : List Int) (v : Value) (w : World) (hv : ArgInts w .i64 v zs) (h : zs.length ≤ 100) : Calls Try.prog 5 #[v] w fun e w' => e = .returned (.bool true) ∧ Below w.heap.size w w' := by
  obtain ⟨aa, cap, rfl, hv⟩ := hv
  obtain ⟨n, hn⟩ : ∃ n, n = zs.length := ⟨_, rfl⟩
  rw [← hn] at hv h ⊢
  have HV := Lib.hid hv; have HN := Lib.hid hn; clear hv hn
  have H0 := Lib.hid (new_ok 2 w (by omega))
  have E1 : (MemS.fresh 2).tcode 0 2 true = 0 := by decide
  have F1 : (MemS.fresh 2).turn 0 2 true = sumMem zs 0 := by kernel_rfl
  replace F1 := Lib.hid F1
  have E2 : ∀ x y t, MemS.code ⟨[x, y], [true, true], t⟩ 0 = 0 := fun x y t => (code2 x y t).1
  have E3 : ∀ x y t, MemS.code ⟨[x, y], [true, true], t⟩ 1 = 0 := fun x y t => (code2 x y t).2
  have hn0 : ¬ 100 < n := by omega
  go_enter Try.func5, Try.ntmps5
  go_wp2_with fail
  refine H0.out.mono ?_
  rintro e w1 ⟨m, a, b, rfl, hm, h1, h2, h3, ho⟩
  have HM1 := Lib.hid hm; have HB1 := Lib.hid ho.nil_below; clear hm ho
  go_wp2_with fail
  refine (live_any m a b _ _ _ _ HM1.out).mono ?_
  rintro e w2 ⟨rfl, hm, ho⟩
  rw [F1.out] at hm
  have HM2 := Lib.hid hm; have HB2 := Lib.hid (below_only3 HB1.out (Nat.le_refl _) ho h1 h2 h3); clear hm ho
  go_wp2_with fail
  go_loopw [5] (fun t wr => ∃ i : Nat, i ≤ n ∧ t = .int .i64 i ∧ IsMem wr m a b (sumMem zs i) ∧ Below w.heap.size w wr) (fun t _ => n - (intOf t).toNat)
  case atStart => exact ⟨0, by omega, rfl, HM2.out, HB2.out⟩
  case round =>
    obtain ⟨i, hi, rfl, hm, hb⟩ := hrel
    have HM3 := Lib.hid hm; have HB3 := Lib.hid hb; clear hm hb
    by_cases hlt : i < n
    · obtain ⟨bb, off, rfl, hbb, hcell⟩ := HV.out (by omega)
      have hz := HN.out
      have c1 := (HB3.out.cell (p := ⟨bb, off + i, none⟩) hbb).trans (hcell i (by omega))
      have HC := Lib.hid ((HB3.out.cell (p := ⟨bb, off + (n - 1 - i), none⟩) hbb).trans (hcell (n - 1 - i) (by omega)))
      have HBB := Lib.hid hbb
      clear hcell hz hbb
      obtain ⟨x1, hx1⟩ : ∃ x, x = zs.getD i 0 := ⟨_, rfl⟩
      rw [← hx1] at c1
      have HX := Lib.hid hx1; clear hx1
      have e0 : MemS.code (sumMem zs i) 0 = 0 := E2 _ _ _
      go_wp2_with fail
      refine (add_any m a b _ _ _ _ HM3.out).mono ?_
      rintro e w4 ⟨rfl, hm, ho⟩
      rw [HX.out, sumMem_add0 zs i (by omega)] at hm
      have HM4 := Lib.hid hm; have HB4 := Lib.hid (below_only3 HB3.out (Nat.le_refl _) ho h1 h2 h3)
      have c2 : w4.cell? ⟨bb, off + (n - 1 - i), none⟩ = some (.int .i64 (zs.getD (n - 1 - i) 0)) := (HB4.out.cell (p := ⟨bb, off + (n - 1 - i), none⟩) HBB.out).trans ((HB3.out.cell (p := ⟨bb, off + (n - 1 - i), none⟩) HBB.out).symm.trans HC.out)
      clear hm ho
      go_wp2_with fail
      refine (add_any m a b _ _ _ _ HM4.out).mono ?_
      rintro e w5 ⟨rfl, hm, ho⟩
      have e5 : zs[n - 1 - i]?.getD 0 = zs.getD (zs.length - 1 - i) 0 := by rw [← HN.out]; simp [List.getD_eq_getElem?_getD]
      rw [e5, sumMem_add1 zs i (by omega)] at hm
      have HM5 := Lib.hid hm; have HB5 := Lib.hid (below_only3 HB4.out (Nat.le_refl _) ho h1 h2 h3); clear hm ho e5
      go_wp2_with fail
      go_roundw
      case rel => exact ⟨i + 1, by omega, by go_num, HM5.out, HB5.out⟩
      case measure => simp [intOf]; omega
    · obtain rfl : i = n := by omega
      have e0 : MemS.code (sumMem zs i) 0 = 0 := E2 _ _ _
      have e1 : (sumMem zs i).word 0 = wrap64 (sumTo zs i) := by rw [MemS.word, if_pos e0]; rfl
      have f1 : (sumMem zs i).load 0 = ⟨[wrap64 (sumTo zs i), wrap64 (sumTo zs i)], [true, true], 2 * i + 1⟩ := by
        rw [MemS.load, if_pos e0, sumMem]
        have := sums_meet zs
        rw [← HN.out] at this
        rw [← this]
        simp only [MemS.tick, MemS.mk.injEq]
        exact ⟨trivial, trivial, wrap64_small (by omega) (by omega)⟩
      have f2 : MemS.load ⟨[wrap64 (sumTo zs i), wrap64 (sumTo zs i)], [true, true], 2 * i + 1⟩ 1 = ⟨[wrap64 (sumTo zs i), wrap64 (sumTo zs i)], [true, true], 2 * i + 2⟩ := by
        rw [MemS.load, if_pos (E3 _ _ _)]
        simp only [MemS.tick, MemS.mk.injEq]
        exact ⟨trivial, trivial, by rw [wrap64_small (by omega) (by omega)]; omega⟩
      have e2 : ∀ x t, MemS.word ⟨[x, x], [true, true], t⟩ 1 = x := by intro x t; rw [MemS.word, if_pos (E3 _ _ _)]; rfl
      replace f1 := Lib.hid f1
      replace f2 := Lib.hid f2
      generalize wrap64 (sumTo zs i) = S at *
      go_wp2_with fail
      refine (load_any m a b _ _ _ HM3.out).mono ?_
      rintro e w4 ⟨rfl, hm, ho⟩
      rw [f1.out] at hm
      have HM4 := Lib.hid hm; have HB4 := Lib.hid (below_only3 HB3.out (Nat.le_refl _) ho h1 h2 h3); clear hm ho
      go_wp2_with fail
      refine (load_any m a b _ _ _ HM4.out).mono ?_
      rintro e w5 ⟨rfl, hm, ho⟩
      rw [f2.out] at hm
      have HM5 := Lib.hid hm; have HB5 := Lib.hid (below_only3 HB4.out (Nat.le_refl _) ho h1 h2 h3); clear hm ho
      go_wp2_with fail
      refine (steps_any m a b _ _ HM5.out).mono ?_
      rintro e w6 ⟨rfl, rfl⟩
      go_wp2_with fail
      refine (awake_any _).mono ?_
      rintro e wz ⟨rfl, hb⟩
      have HBz := Lib.hid (below_below HB5.out (Nat.le_refl _) hb); clear hb
      go_wp2_with fail
      go_ret
      exact ⟨rfl, HBz.out⟩

theorem memSums_walk (zs : List Int) (v : Value) (w : World) (hv : ArgInts w .i64 v zs) : Calls Try.prog 5 #[v] w fun e w' => e = .returned (.bool true) ∧ Below w.heap.size w w' := by
  by_cases h : zs.length ≤ 100
  · exact memSums_short zs v w hv h
  · obtain ⟨a, cap, rfl, _⟩ := hv
    exact memSums_long _ _ _ _ (by omega)

end Go.Proofs.Ytpbbpineepdeeaa
