/- Layer 1: what one act that is a step does to the program's memory and to the document's: both do the same. -/
import Derived.Test.YtpbbpineepdeeaaDoStep
open Go Go.RowKit
namespace Go.Proofs.Ytpbbpineepdeeaa

set_option maxRecDepth 100000 in
set_option maxHeartbeats 1000000 in
theorem do_load_good (m a b p q r : Nat) (s : MemS) (y n was nw : Int) (k : Nat) (w : World) (hm : IsMem w m a b s) (hr : IsRef w p q r s) (hap : ∀ i, i ∈ [m, a, b] → i ∉ [p, q, r]) (hk : (wrap64 (y.tmod 6 + 6)).tmod 6 = 2) (hc : s.code k = 0) (hkl : k < s.words.length) :
    Calls Try.prog 21 #[.pointer (some ⟨m, 0, none⟩), .pointer (some ⟨p, 0, none⟩), .agg #[.int .i64 y, .int .i64 k, .int .i64 n, .int .i64 was, .int .i64 nw]] w (DoPost w m a b p q r (s.load k)) := by
  have hq0 : ((wrap64 (y.tmod 6 + 6)).tmod 6 == 0) = false := by rw [hk]; rfl
  have hq1 : ((wrap64 (y.tmod 6 + 6)).tmod 6 == 1) = false := by rw [hk]; rfl
  have hq2 : ((wrap64 (y.tmod 6 + 6)).tmod 6 == 2) = true := by rw [hk]; rfl
  have hq3 : ((wrap64 (y.tmod 6 + 6)).tmod 6 == 3) = false := by rw [hk]; rfl
  have hq4 : ((wrap64 (y.tmod 6 + 6)).tmod 6 == 4) = false := by rw [hk]; rfl
  have hq5 : ((wrap64 (y.tmod 6 + 6)).tmod 6 == 5) = false := by rw [hk]; rfl
  have d0 := hr.top.cell 0
  have d2 := hr.top.cell 2
  have f2 := hr.top.free 2
  have dk := hr.cell hkl
  have fk := hr.words.free k
  have hpq := hr.ma
  have hps := hr.top.lt
  have hqs := hr.words.lt
  have hroom := hr.room
  simp at d0 d2
  have e9 : s.word k = s.words.getD k 0 := by rw [MemS.word, if_pos hc, Int.toNat_natCast]
  have e8 : s.load k = s.tick := by rw [MemS.load, if_pos hc]
  have HT := Lib.hid (fun (wz : World) (hz : wz = w.setCell ⟨p, 2, none⟩ (.int .i64 (wrap64 (s.steps + 1)))) => two_of (cs := [.int .i64 y, .int .i64 k, .int .i64 n, .int .i64 was, .int .i64 nw]) (w := w) (wz := wz) (by rw [hz]; simp) (hz ▸ hm.other (by have := hap m (by simp); simp at this; show m ≠ p; omega) (by have := hap a (by simp); simp at this; show a ≠ p; omega) (by have := hap b (by simp); simp at this; show b ≠ p; omega) _) (hz ▸ hr.tick) (hz ▸ (Only.refl _ _).setCell (by simp) _) hap)
  have HR := Lib.hid (two_of (cs := [.int .i64 y, .int .i64 k, .int .i64 n, .int .i64 was, .int .i64 nw]) (w := w) (wz := w) rfl hm hr (Only.refl _ _) hap)
  have HC := Lib.hid hc
  have HK := Lib.hid hk
  have E8 := Lib.hid e8
  have hcb : s.code k = 0 := hc
  obtain ⟨g, hg⟩ : ∃ g, g = s.words.getD k 0 := ⟨_, rfl⟩
  rw [← hg] at e9
  rw [← hg] at dk
  have HG := Lib.hid hg
  clear hm hr hap hk hc e8 hg
  go_enter Try.func21, Try.ntmps21
  go_wp2_with fail
  refine (wrong_any p q r s _ _ HR.out.ref).mono ?_
  rintro e w1 ⟨rfl, rfl⟩
  go_wp2_with fail
  go_region
  all_goals go_wp2_with fail
  go_region
  all_goals go_wp2_with fail
  have HT2 := Lib.hid (((HT.out _ rfl).drew).drew)
  refine (load_any m a b s _ _ HT2.out.mem).mono ?_
  rintro e w2 ⟨rfl, h1, h2⟩
  rw [E8.out] at h1
  have h3 := Lib.hid (HT2.out.mem' h1 h2)
  clear h1 h2
  go_wp2_with fail
  go_ret
  exact ⟨rfl, E8.out ▸ h3.out.mem, E8.out ▸ h3.out.ref, h3.out.only⟩

set_option maxRecDepth 100000 in
set_option maxHeartbeats 1000000 in
theorem do_store_good (m a b p q r : Nat) (s : MemS) (y n was nw : Int) (k : Nat) (w : World) (hm : IsMem w m a b s) (hr : IsRef w p q r s) (hap : ∀ i, i ∈ [m, a, b] → i ∉ [p, q, r]) (hk : (wrap64 (y.tmod 6 + 6)).tmod 6 = 3) (hc : s.code k = 0) (hkl : k < s.words.length) :
    Calls Try.prog 21 #[.pointer (some ⟨m, 0, none⟩), .pointer (some ⟨p, 0, none⟩), .agg #[.int .i64 y, .int .i64 k, .int .i64 n, .int .i64 was, .int .i64 nw]] w (DoPost w m a b p q r (s.store k nw)) := by
  have hq0 : ((wrap64 (y.tmod 6 + 6)).tmod 6 == 0) = false := by rw [hk]; rfl
  have hq1 : ((wrap64 (y.tmod 6 + 6)).tmod 6 == 1) = false := by rw [hk]; rfl
  have hq2 : ((wrap64 (y.tmod 6 + 6)).tmod 6 == 2) = false := by rw [hk]; rfl
  have hq3 : ((wrap64 (y.tmod 6 + 6)).tmod 6 == 3) = true := by rw [hk]; rfl
  have hq4 : ((wrap64 (y.tmod 6 + 6)).tmod 6 == 4) = false := by rw [hk]; rfl
  have hq5 : ((wrap64 (y.tmod 6 + 6)).tmod 6 == 5) = false := by rw [hk]; rfl
  have d0 := hr.top.cell 0
  have d2 := hr.top.cell 2
  have f2 := hr.top.free 2
  have dk := hr.cell hkl
  have fk := hr.words.free k
  have hpq := hr.ma
  have hps := hr.top.lt
  have hqs := hr.words.lt
  have hroom := hr.room
  simp at d0 d2
  have e8 : s.store k nw = (s.put k nw).tick := by rw [MemS.store, if_pos hc]
  have HT := Lib.hid (fun (wz : World) (hz : wz = (w.setCell ⟨p, 2, none⟩ (.int .i64 (wrap64 (s.steps + 1)))).setCell ⟨q, k, none⟩ (.int .i64 nw)) => two_of (cs := [.int .i64 y, .int .i64 k, .int .i64 n, .int .i64 was, .int .i64 nw]) (w := w) (wz := wz) (t := s.tick.put k nw) (by rw [hz]; simp)
    (hz ▸ (hm.other (by have := hap m (by simp); simp at this; show m ≠ p; omega) (by have := hap a (by simp); simp at this; show a ≠ p; omega) (by have := hap b (by simp); simp at this; show b ≠ p; omega) _).other (by have := hap m (by simp); simp at this; show m ≠ q; omega) (by have := hap a (by simp); simp at this; show a ≠ q; omega) (by have := hap b (by simp); simp at this; show b ≠ q; omega) _) (hz ▸ hr.tick.put k _) (hz ▸ ((Only.refl _ _).setCell (by simp) _).setCell (by simp) _) hap)
  have HR := Lib.hid (two_of (cs := [.int .i64 y, .int .i64 k, .int .i64 n, .int .i64 was, .int .i64 nw]) (w := w) (wz := w) rfl hm hr (Only.refl _ _) hap)
  have HC := Lib.hid hc
  have HK := Lib.hid hk
  have E8 := Lib.hid e8
  have hcb : s.code k = 0 := hc
  obtain ⟨g, hg⟩ : ∃ g, g = s.words.getD k 0 := ⟨_, rfl⟩
  rw [← hg] at dk
  have HG := Lib.hid hg
  clear hm hr hap hk hc e8 hg
  go_enter Try.func21, Try.ntmps21
  go_wp2_with fail
  refine (wrong_any p q r s _ _ HR.out.ref).mono ?_
  rintro e w1 ⟨rfl, rfl⟩
  go_wp2_with fail
  go_region
  all_goals go_wp2_with fail
  go_region
  all_goals go_wp2_with fail
  go_region
  all_goals go_wp2_with fail
  have HT2 := Lib.hid ((((HT.out _ rfl).drew).drew).drew)
  refine (store_any m a b s _ _ _ HT2.out.mem).mono ?_
  rintro e w2 ⟨rfl, h1, h2⟩
  rw [E8.out] at h1
  have h3 := Lib.hid (HT2.out.mem' h1 h2)
  clear h1 h2
  go_wp2_with fail
  go_ret
  exact ⟨rfl, E8.out ▸ h3.out.mem, E8.out ▸ h3.out.ref, h3.out.only⟩

set_option maxRecDepth 100000 in
set_option maxHeartbeats 1000000 in
theorem do_swap_good_hit (m a b p q r : Nat) (s : MemS) (y n was nw : Int) (k : Nat) (w : World) (hm : IsMem w m a b s) (hr : IsRef w p q r s) (hap : ∀ i, i ∈ [m, a, b] → i ∉ [p, q, r]) (hk : (wrap64 (y.tmod 6 + 6)).tmod 6 = 4) (hc : s.code k = 0) (hkl : k < s.words.length) (hh : s.words.getD k 0 = was) :
    Calls Try.prog 21 #[.pointer (some ⟨m, 0, none⟩), .pointer (some ⟨p, 0, none⟩), .agg #[.int .i64 y, .int .i64 k, .int .i64 n, .int .i64 was, .int .i64 nw]] w (DoPost w m a b p q r (s.swap k was nw)) := by
  have hq0 : ((wrap64 (y.tmod 6 + 6)).tmod 6 == 0) = false := by rw [hk]; rfl
  have hq1 : ((wrap64 (y.tmod 6 + 6)).tmod 6 == 1) = false := by rw [hk]; rfl
  have hq2 : ((wrap64 (y.tmod 6 + 6)).tmod 6 == 2) = false := by rw [hk]; rfl
  have hq3 : ((wrap64 (y.tmod 6 + 6)).tmod 6 == 3) = false := by rw [hk]; rfl
  have hq4 : ((wrap64 (y.tmod 6 + 6)).tmod 6 == 4) = true := by rw [hk]; rfl
  have hq5 : ((wrap64 (y.tmod 6 + 6)).tmod 6 == 5) = false := by rw [hk]; rfl
  have d0 := hr.top.cell 0
  have d2 := hr.top.cell 2
  have f2 := hr.top.free 2
  have dk := hr.cell hkl
  have fk := hr.words.free k
  have hpq := hr.ma
  have hps := hr.top.lt
  have hqs := hr.words.lt
  have hroom := hr.room
  simp at d0 d2
  have hb : (s.words.getD k 0 == was) = true := by simpa using hh
  have e9 : s.hit k was = true := by rw [MemS.hit, hc, Int.toNat_natCast, hb]; rfl
  have e8 : s.swap k was nw = (s.put k nw).tick := by rw [MemS.swap, if_pos hc, Int.toNat_natCast, if_pos hb]
  have HT := Lib.hid (fun (wz : World) (hz : wz = (w.setCell ⟨p, 2, none⟩ (.int .i64 (wrap64 (s.steps + 1)))).setCell ⟨q, k, none⟩ (.int .i64 nw)) => two_of (cs := [.int .i64 y, .int .i64 k, .int .i64 n, .int .i64 was, .int .i64 nw]) (w := w) (wz := wz) (t := s.tick.put k nw) (by rw [hz]; simp)
    (hz ▸ (hm.other (by have := hap m (by simp); simp at this; show m ≠ p; omega) (by have := hap a (by simp); simp at this; show a ≠ p; omega) (by have := hap b (by simp); simp at this; show b ≠ p; omega) _).other (by have := hap m (by simp); simp at this; show m ≠ q; omega) (by have := hap a (by simp); simp at this; show a ≠ q; omega) (by have := hap b (by simp); simp at this; show b ≠ q; omega) _) (hz ▸ hr.tick.put k _) (hz ▸ ((Only.refl _ _).setCell (by simp) _).setCell (by simp) _) hap)
  have HR := Lib.hid (two_of (cs := [.int .i64 y, .int .i64 k, .int .i64 n, .int .i64 was, .int .i64 nw]) (w := w) (wz := w) rfl hm hr (Only.refl _ _) hap)
  have HC := Lib.hid hc
  have HK := Lib.hid hk
  have E8 := Lib.hid e8
  have hcb : s.code k = 0 := hc
  have HH := Lib.hid hh
  obtain ⟨g, hg⟩ : ∃ g, g = s.words.getD k 0 := ⟨_, rfl⟩
  rw [← hg] at dk hb
  have HG := Lib.hid hg
  clear hm hr hap hk hc e8 hg hh
  go_enter Try.func21, Try.ntmps21
  go_wp2_with fail
  refine (wrong_any p q r s _ _ HR.out.ref).mono ?_
  rintro e w1 ⟨rfl, rfl⟩
  go_wp2_with fail
  go_region
  all_goals go_wp2_with fail
  go_region
  all_goals go_wp2_with fail
  go_region
  all_goals go_wp2_with fail
  have HT2 := Lib.hid ((((HT.out _ rfl).drew).drew).drew)
  refine (swap_any m a b s _ _ _ _ HT2.out.mem).mono ?_
  rintro e w2 ⟨rfl, h1, h2⟩
  rw [E8.out] at h1
  have h3 := Lib.hid (HT2.out.mem' h1 h2)
  clear h1 h2
  go_wp2_with fail
  go_ret
  exact ⟨rfl, E8.out ▸ h3.out.mem, E8.out ▸ h3.out.ref, h3.out.only⟩

set_option maxRecDepth 100000 in
set_option maxHeartbeats 1000000 in
theorem do_swap_good_miss (m a b p q r : Nat) (s : MemS) (y n was nw : Int) (k : Nat) (w : World) (hm : IsMem w m a b s) (hr : IsRef w p q r s) (hap : ∀ i, i ∈ [m, a, b] → i ∉ [p, q, r]) (hk : (wrap64 (y.tmod 6 + 6)).tmod 6 = 4) (hc : s.code k = 0) (hkl : k < s.words.length) (hh : s.words.getD k 0 ≠ was) :
    Calls Try.prog 21 #[.pointer (some ⟨m, 0, none⟩), .pointer (some ⟨p, 0, none⟩), .agg #[.int .i64 y, .int .i64 k, .int .i64 n, .int .i64 was, .int .i64 nw]] w (DoPost w m a b p q r (s.swap k was nw)) := by
  have hq0 : ((wrap64 (y.tmod 6 + 6)).tmod 6 == 0) = false := by rw [hk]; rfl
  have hq1 : ((wrap64 (y.tmod 6 + 6)).tmod 6 == 1) = false := by rw [hk]; rfl
  have hq2 : ((wrap64 (y.tmod 6 + 6)).tmod 6 == 2) = false := by rw [hk]; rfl
  have hq3 : ((wrap64 (y.tmod 6 + 6)).tmod 6 == 3) = false := by rw [hk]; rfl
  have hq4 : ((wrap64 (y.tmod 6 + 6)).tmod 6 == 4) = true := by rw [hk]; rfl
  have hq5 : ((wrap64 (y.tmod 6 + 6)).tmod 6 == 5) = false := by rw [hk]; rfl
  have d0 := hr.top.cell 0
  have d2 := hr.top.cell 2
  have f2 := hr.top.free 2
  have dk := hr.cell hkl
  have fk := hr.words.free k
  have hpq := hr.ma
  have hps := hr.top.lt
  have hqs := hr.words.lt
  have hroom := hr.room
  simp at d0 d2
  have hb : (s.words.getD k 0 == was) = false := by simpa using hh
  have e9 : s.hit k was = false := by rw [MemS.hit, hc, Int.toNat_natCast, hb]; rfl
  have e8 : s.swap k was nw = s.tick := by rw [MemS.swap, if_pos hc, Int.toNat_natCast, if_neg (by rw [hb]; decide)]
  have HT := Lib.hid (fun (wz : World) (hz : wz = w.setCell ⟨p, 2, none⟩ (.int .i64 (wrap64 (s.steps + 1)))) => two_of (cs := [.int .i64 y, .int .i64 k, .int .i64 n, .int .i64 was, .int .i64 nw]) (w := w) (wz := wz) (by rw [hz]; simp) (hz ▸ hm.other (by have := hap m (by simp); simp at this; show m ≠ p; omega) (by have := hap a (by simp); simp at this; show a ≠ p; omega) (by have := hap b (by simp); simp at this; show b ≠ p; omega) _) (hz ▸ hr.tick) (hz ▸ (Only.refl _ _).setCell (by simp) _) hap)
  have HR := Lib.hid (two_of (cs := [.int .i64 y, .int .i64 k, .int .i64 n, .int .i64 was, .int .i64 nw]) (w := w) (wz := w) rfl hm hr (Only.refl _ _) hap)
  have HC := Lib.hid hc
  have HK := Lib.hid hk
  have E8 := Lib.hid e8
  have hcb : s.code k = 0 := hc
  have HH := Lib.hid hh
  obtain ⟨g, hg⟩ : ∃ g, g = s.words.getD k 0 := ⟨_, rfl⟩
  rw [← hg] at dk hb
  have HG := Lib.hid hg
  clear hm hr hap hk hc e8 hg hh
  go_enter Try.func21, Try.ntmps21
  go_wp2_with fail
  refine (wrong_any p q r s _ _ HR.out.ref).mono ?_
  rintro e w1 ⟨rfl, rfl⟩
  go_wp2_with fail
  go_region
  all_goals go_wp2_with fail
  go_region
  all_goals go_wp2_with fail
  have HT2 := Lib.hid (((HT.out _ rfl).drew).drew)
  refine (swap_any m a b s _ _ _ _ HT2.out.mem).mono ?_
  rintro e w2 ⟨rfl, h1, h2⟩
  rw [E8.out] at h1
  have h3 := Lib.hid (HT2.out.mem' h1 h2)
  clear h1 h2
  go_wp2_with fail
  go_ret
  exact ⟨rfl, E8.out ▸ h3.out.mem, E8.out ▸ h3.out.ref, h3.out.only⟩

set_option maxRecDepth 100000 in
set_option maxHeartbeats 1000000 in
theorem do_add_good (m a b p q r : Nat) (s : MemS) (y n was nw : Int) (k : Nat) (w : World) (hm : IsMem w m a b s) (hr : IsRef w p q r s) (hap : ∀ i, i ∈ [m, a, b] → i ∉ [p, q, r]) (hk : (wrap64 (y.tmod 6 + 6)).tmod 6 = 5) (hc : s.code k = 0) (hkl : k < s.words.length) :
    Calls Try.prog 21 #[.pointer (some ⟨m, 0, none⟩), .pointer (some ⟨p, 0, none⟩), .agg #[.int .i64 y, .int .i64 k, .int .i64 n, .int .i64 was, .int .i64 nw]] w (DoPost w m a b p q r (s.add k nw)) := by
  have hq0 : ((wrap64 (y.tmod 6 + 6)).tmod 6 == 0) = false := by rw [hk]; rfl
  have hq1 : ((wrap64 (y.tmod 6 + 6)).tmod 6 == 1) = false := by rw [hk]; rfl
  have hq2 : ((wrap64 (y.tmod 6 + 6)).tmod 6 == 2) = false := by rw [hk]; rfl
  have hq3 : ((wrap64 (y.tmod 6 + 6)).tmod 6 == 3) = false := by rw [hk]; rfl
  have hq4 : ((wrap64 (y.tmod 6 + 6)).tmod 6 == 4) = false := by rw [hk]; rfl
  have hq5 : ((wrap64 (y.tmod 6 + 6)).tmod 6 == 5) = true := by rw [hk]; rfl
  have d0 := hr.top.cell 0
  have d2 := hr.top.cell 2
  have f2 := hr.top.free 2
  have dk := hr.cell hkl
  have fk := hr.words.free k
  have hpq := hr.ma
  have hps := hr.top.lt
  have hqs := hr.words.lt
  have hroom := hr.room
  simp at d0 d2
  have e9 : s.sum k nw = wrap64 (s.words.getD k 0 + nw) := by rw [MemS.sum, if_pos hc, Int.toNat_natCast]
  have e8 : s.add k nw = (s.put k (wrap64 (s.words.getD k 0 + nw))).tick := by rw [MemS.add, if_pos hc, e9]
  have HT := Lib.hid (fun (wz : World) (hz : wz = (w.setCell ⟨p, 2, none⟩ (.int .i64 (wrap64 (s.steps + 1)))).setCell ⟨q, k, none⟩ (.int .i64 (wrap64 (s.words.getD k 0 + nw)))) => two_of (cs := [.int .i64 y, .int .i64 k, .int .i64 n, .int .i64 was, .int .i64 nw]) (w := w) (wz := wz) (t := s.tick.put k (wrap64 (s.words.getD k 0 + nw))) (by rw [hz]; simp)
    (hz ▸ (hm.other (by have := hap m (by simp); simp at this; show m ≠ p; omega) (by have := hap a (by simp); simp at this; show a ≠ p; omega) (by have := hap b (by simp); simp at this; show b ≠ p; omega) _).other (by have := hap m (by simp); simp at this; show m ≠ q; omega) (by have := hap a (by simp); simp at this; show a ≠ q; omega) (by have := hap b (by simp); simp at this; show b ≠ q; omega) _) (hz ▸ hr.tick.put k _) (hz ▸ ((Only.refl _ _).setCell (by simp) _).setCell (by simp) _) hap)
  have HR := Lib.hid (two_of (cs := [.int .i64 y, .int .i64 k, .int .i64 n, .int .i64 was, .int .i64 nw]) (w := w) (wz := w) rfl hm hr (Only.refl _ _) hap)
  have HC := Lib.hid hc
  have HK := Lib.hid hk
  have E8 := Lib.hid e8
  have hcb : s.code k = 0 := hc
  obtain ⟨g, hg⟩ : ∃ g, g = s.words.getD k 0 := ⟨_, rfl⟩
  rw [← hg] at e9
  rw [← hg] at dk
  rw [← hg] at HT E8
  have HG := Lib.hid hg
  clear hm hr hap hk hc e8 hg
  go_enter Try.func21, Try.ntmps21
  go_wp2_with fail
  refine (wrong_any p q r s _ _ HR.out.ref).mono ?_
  rintro e w1 ⟨rfl, rfl⟩
  go_wp2_with fail
  go_region
  all_goals go_wp2_with fail
  go_region
  all_goals go_wp2_with fail
  go_region
  all_goals go_wp2_with fail
  have HT2 := Lib.hid ((((HT.out _ rfl).drew).drew).drew)
  refine (add_any m a b s _ _ _ HT2.out.mem).mono ?_
  rintro e w2 ⟨rfl, h1, h2⟩
  rw [E8.out] at h1
  have h3 := Lib.hid (HT2.out.mem' h1 h2)
  clear h1 h2
  go_wp2_with fail
  go_ret
  exact ⟨rfl, E8.out ▸ h3.out.mem, E8.out ▸ h3.out.ref, h3.out.only⟩

end Go.Proofs.Ytpbbpineepdeeaa
