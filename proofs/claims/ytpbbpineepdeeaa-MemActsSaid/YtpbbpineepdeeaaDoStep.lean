/- Layer 1: what one act that is a step does to the program's memory and to the document's: both do the same. -/
import Derived.Test.YtpbbpineepdeeaaDo01
open Go Go.RowKit
namespace Go.Proofs.Ytpbbpineepdeeaa

set_option maxRecDepth 100000 in
theorem do_load_bad (m a b p q r : Nat) (s : MemS) (y at_ n was nw : Int) (w : World) (hm : IsMem w m a b s) (hr : IsRef w p q r s) (hap : ∀ i, i ∈ [m, a, b] → i ∉ [p, q, r]) (hk : (wrap64 (y.tmod 6 + 6)).tmod 6 = 2) (hc : s.code at_ ≠ 0) :
    Calls Try.prog 21 #[.pointer (some ⟨m, 0, none⟩), .pointer (some ⟨p, 0, none⟩), .agg #[.int .i64 y, .int .i64 at_, .int .i64 n, .int .i64 was, .int .i64 nw]] w (DoPost w m a b p q r s) := by
  have hq0 : ((wrap64 (y.tmod 6 + 6)).tmod 6 == 0) = false := by rw [hk]; rfl
  have hq1 : ((wrap64 (y.tmod 6 + 6)).tmod 6 == 1) = false := by rw [hk]; rfl
  have hq2 : ((wrap64 (y.tmod 6 + 6)).tmod 6 == 2) = true := by rw [hk]; rfl
  have hq3 : ((wrap64 (y.tmod 6 + 6)).tmod 6 == 3) = false := by rw [hk]; rfl
  have hq4 : ((wrap64 (y.tmod 6 + 6)).tmod 6 == 4) = false := by rw [hk]; rfl
  have hq5 : ((wrap64 (y.tmod 6 + 6)).tmod 6 == 5) = false := by rw [hk]; rfl
  have hcb : (s.code at_ == 0) = false := by rw [beq_eq_false_iff_ne]; exact hc
  have HT := Lib.hid (two_of (cs := [.int .i64 y, .int .i64 at_, .int .i64 n, .int .i64 was, .int .i64 nw]) (w := w) (wz := w) rfl hm hr (Only.refl _ _) hap)
  have HC := Lib.hid hc
  have HK := Lib.hid hk
  have e9 : s.word at_ = 0 := by rw [MemS.word, if_neg HC.out]
  clear hm hr hap hk hc
  go_enter Try.func21, Try.ntmps21
  go_wp2_with fail
  refine (wrong_any p q r s _ _ HT.out.ref).mono ?_
  rintro e w1 ⟨rfl, rfl⟩
  go_wp2_with fail
  refine (load_any m a b s _ _ HT.out.mem).mono ?_
  rintro e w2 ⟨rfl, h1, h2⟩
  have h3 := Lib.hid (HT.out.mem' h1 h2)
  clear h1 h2
  go_wp2_with fail
  go_ret
  have e8 : s.load at_ = s := by rw [MemS.load, if_neg HC.out]
  exact ⟨rfl, e8 ▸ h3.out.mem, h3.out.ref, h3.out.only⟩

set_option maxRecDepth 100000 in
theorem do_store_bad (m a b p q r : Nat) (s : MemS) (y at_ n was nw : Int) (w : World) (hm : IsMem w m a b s) (hr : IsRef w p q r s) (hap : ∀ i, i ∈ [m, a, b] → i ∉ [p, q, r]) (hk : (wrap64 (y.tmod 6 + 6)).tmod 6 = 3) (hc : s.code at_ ≠ 0) :
    Calls Try.prog 21 #[.pointer (some ⟨m, 0, none⟩), .pointer (some ⟨p, 0, none⟩), .agg #[.int .i64 y, .int .i64 at_, .int .i64 n, .int .i64 was, .int .i64 nw]] w (DoPost w m a b p q r s) := by
  have hq0 : ((wrap64 (y.tmod 6 + 6)).tmod 6 == 0) = false := by rw [hk]; rfl
  have hq1 : ((wrap64 (y.tmod 6 + 6)).tmod 6 == 1) = false := by rw [hk]; rfl
  have hq2 : ((wrap64 (y.tmod 6 + 6)).tmod 6 == 2) = false := by rw [hk]; rfl
  have hq3 : ((wrap64 (y.tmod 6 + 6)).tmod 6 == 3) = true := by rw [hk]; rfl
  have hq4 : ((wrap64 (y.tmod 6 + 6)).tmod 6 == 4) = false := by rw [hk]; rfl
  have hq5 : ((wrap64 (y.tmod 6 + 6)).tmod 6 == 5) = false := by rw [hk]; rfl
  have hcb : (s.code at_ == 0) = false := by rw [beq_eq_false_iff_ne]; exact hc
  have HT := Lib.hid (two_of (cs := [.int .i64 y, .int .i64 at_, .int .i64 n, .int .i64 was, .int .i64 nw]) (w := w) (wz := w) rfl hm hr (Only.refl _ _) hap)
  have HC := Lib.hid hc
  have HK := Lib.hid hk
  clear hm hr hap hk hc
  go_enter Try.func21, Try.ntmps21
  go_wp2_with fail
  refine (wrong_any p q r s _ _ HT.out.ref).mono ?_
  rintro e w1 ⟨rfl, rfl⟩
  go_wp2_with fail
  refine (store_any m a b s _ _ _ HT.out.mem).mono ?_
  rintro e w2 ⟨rfl, h1, h2⟩
  have h3 := Lib.hid (HT.out.mem' h1 h2)
  clear h1 h2
  go_wp2_with fail
  go_ret
  have e8 : s.store at_ nw = s := by rw [MemS.store, if_neg HC.out]
  exact ⟨rfl, e8 ▸ h3.out.mem, h3.out.ref, h3.out.only⟩

set_option maxRecDepth 100000 in
theorem do_swap_bad (m a b p q r : Nat) (s : MemS) (y at_ n was nw : Int) (w : World) (hm : IsMem w m a b s) (hr : IsRef w p q r s) (hap : ∀ i, i ∈ [m, a, b] → i ∉ [p, q, r]) (hk : (wrap64 (y.tmod 6 + 6)).tmod 6 = 4) (hc : s.code at_ ≠ 0) :
    Calls Try.prog 21 #[.pointer (some ⟨m, 0, none⟩), .pointer (some ⟨p, 0, none⟩), .agg #[.int .i64 y, .int .i64 at_, .int .i64 n, .int .i64 was, .int .i64 nw]] w (DoPost w m a b p q r s) := by
  have hq0 : ((wrap64 (y.tmod 6 + 6)).tmod 6 == 0) = false := by rw [hk]; rfl
  have hq1 : ((wrap64 (y.tmod 6 + 6)).tmod 6 == 1) = false := by rw [hk]; rfl
  have hq2 : ((wrap64 (y.tmod 6 + 6)).tmod 6 == 2) = false := by rw [hk]; rfl
  have hq3 : ((wrap64 (y.tmod 6 + 6)).tmod 6 == 3) = false := by rw [hk]; rfl
  have hq4 : ((wrap64 (y.tmod 6 + 6)).tmod 6 == 4) = true := by rw [hk]; rfl
  have hq5 : ((wrap64 (y.tmod 6 + 6)).tmod 6 == 5) = false := by rw [hk]; rfl
  have hcb : (s.code at_ == 0) = false := by rw [beq_eq_false_iff_ne]; exact hc
  have HT := Lib.hid (two_of (cs := [.int .i64 y, .int .i64 at_, .int .i64 n, .int .i64 was, .int .i64 nw]) (w := w) (wz := w) rfl hm hr (Only.refl _ _) hap)
  have HC := Lib.hid hc
  have HK := Lib.hid hk
  have e9 : s.hit at_ was = false := by rw [MemS.hit, decide_eq_false HC.out]; rfl
  clear hm hr hap hk hc
  go_enter Try.func21, Try.ntmps21
  go_wp2_with fail
  refine (wrong_any p q r s _ _ HT.out.ref).mono ?_
  rintro e w1 ⟨rfl, rfl⟩
  go_wp2_with fail
  refine (swap_any m a b s _ _ _ _ HT.out.mem).mono ?_
  rintro e w2 ⟨rfl, h1, h2⟩
  have h3 := Lib.hid (HT.out.mem' h1 h2)
  clear h1 h2
  go_wp2_with fail
  go_ret
  have e8 : s.swap at_ was nw = s := by rw [MemS.swap, if_neg HC.out]
  exact ⟨rfl, e8 ▸ h3.out.mem, h3.out.ref, h3.out.only⟩

set_option maxRecDepth 100000 in
theorem do_add_bad (m a b p q r : Nat) (s : MemS) (y at_ n was nw : Int) (w : World) (hm : IsMem w m a b s) (hr : IsRef w p q r s) (hap : ∀ i, i ∈ [m, a, b] → i ∉ [p, q, r]) (hk : (wrap64 (y.tmod 6 + 6)).tmod 6 = 5) (hc : s.code at_ ≠ 0) :
    Calls Try.prog 21 #[.pointer (some ⟨m, 0, none⟩), .pointer (some ⟨p, 0, none⟩), .agg #[.int .i64 y, .int .i64 at_, .int .i64 n, .int .i64 was, .int .i64 nw]] w (DoPost w m a b p q r s) := by
  have hq0 : ((wrap64 (y.tmod 6 + 6)).tmod 6 == 0) = false := by rw [hk]; rfl
  have hq1 : ((wrap64 (y.tmod 6 + 6)).tmod 6 == 1) = false := by rw [hk]; rfl
  have hq2 : ((wrap64 (y.tmod 6 + 6)).tmod 6 == 2) = false := by rw [hk]; rfl
  have hq3 : ((wrap64 (y.tmod 6 + 6)).tmod 6 == 3) = false := by rw [hk]; rfl
  have hq4 : ((wrap64 (y.tmod 6 + 6)).tmod 6 == 4) = false := by rw [hk]; rfl
  have hq5 : ((wrap64 (y.tmod 6 + 6)).tmod 6 == 5) = true := by rw [hk]; rfl
  have hcb : (s.code at_ == 0) = false := by rw [beq_eq_false_iff_ne]; exact hc
  have HT := Lib.hid (two_of (cs := [.int .i64 y, .int .i64 at_, .int .i64 n, .int .i64 was, .int .i64 nw]) (w := w) (wz := w) rfl hm hr (Only.refl _ _) hap)
  have HC := Lib.hid hc
  have HK := Lib.hid hk
  have e9 : s.sum at_ nw = 0 := by rw [MemS.sum, if_neg HC.out]
  clear hm hr hap hk hc
  go_enter Try.func21, Try.ntmps21
  go_wp2_with fail
  refine (wrong_any p q r s _ _ HT.out.ref).mono ?_
  rintro e w1 ⟨rfl, rfl⟩
  go_wp2_with fail
  refine (add_any m a b s _ _ _ HT.out.mem).mono ?_
  rintro e w2 ⟨rfl, h1, h2⟩
  have h3 := Lib.hid (HT.out.mem' h1 h2)
  clear h1 h2
  go_wp2_with fail
  go_ret
  have e8 : s.add at_ nw = s := by rw [MemS.add, if_neg HC.out]
  exact ⟨rfl, e8 ▸ h3.out.mem, h3.out.ref, h3.out.only⟩

end Go.Proofs.Ytpbbpineepdeeaa
