/- Layer 10: the document's Give. -/
import Derived.Test.YtccadafajocbgaaPoolRB
import Derived.Test.YtccadafajocbgaaPoolRC
open Go Go.RowKit
set_option linter.unusedSimpArgs false
namespace Go.Proofs.Ytccadafajocbgaa

section
variable {w w1 w' : World} {B : Nat} {L : RLay} {s : Shp} {S S' : PS}

theorem DPost.of {r : Value} {e : Ending} (h1 : Turn (fun k => L.own s.W k) w w1) (h : DPost w1 B L s S' r e w') : DPost w B L s S' r e w' := by
  obtain ⟨rfl, L', hr, hd, ht, ho⟩ := h
  exact ⟨rfl, L', hr, hd, h1.trans ht (fun _ q => .inl q), fun k hk => (ho k hk).imp id (fun q => Nat.le_trans h1.size q)⟩

theorem rwhere_any (h : DocS w B L s S) (hR : s.Right) (x : Int) : Calls Try.prog 30 #[.pointer (some ⟨L.r, 0, none⟩), .int .i64 x] w fun e w' => (∃ a b c d ok, e = .returned (.tuple #[.int .i64 a, .int .i64 b, .int .i64 c, .int .i64 d, .bool ok])) ∧ Turn (fun _ => False) w w' := by
  by_cases hx : 1 ≤ x ∧ x ≤ s.off 3
  · obtain ⟨j, rfl⟩ : ∃ j : Nat, x = (j : Int) + 1 := ⟨(x - 1).toNat, by omega⟩
    refine (rwhere_at h.lies hR h.tkLen j (by omega)).mono ?_
    rintro e w' ⟨rfl, ht⟩
    exact ⟨⟨_, _, _, _, _, rfl⟩, ht⟩
  · refine (rwhere_none h.lies hR h.tkLen x hx).mono ?_
    rintro e w' ⟨rfl, ht⟩
    exact ⟨⟨0, 0, 0, 0, false, by rw [show s.whereV x = #[.int .i64 0, .int .i64 0, .int .i64 0, .int .i64 0, .bool false] from if_neg hx]⟩, ht⟩

theorem rgive_out (h : DocS w B L s S) (hR : s.Right) (v x : Int) (ho : v < 0 ∨ S.W ≤ v) : Calls Try.prog 18 #[.pointer (some ⟨L.r, 0, none⟩), .int .i64 v, .int .i64 x] w fun e w' => e = .returned (.int .i64 1) ∧ Turn (fun _ => False) w w' := by
  have CW := Lib.hid (rwhere_any h hR x)
  have CR := Lib.hid (fun w' (ht : Turn (fun _ => False) w w') => rworker_any (h.lies.still ht) v)
  rw [show decide (0 ≤ v ∧ v < s.W) = false from decide_eq_false (by have := h.W; omega)] at CR
  generalize L.r = r at CW CR ⊢
  clear h hR ho
  go_enter Try.func18, Try.ntmps18
  go_wp2_with fail
  refine CW.out.mono ?_
  rintro e w1 ⟨⟨a, b, c, d, ok, rfl⟩, ht⟩
  have HT1 := Lib.hid ht; clear ht
  go_wp2_with fail
  refine (CR.out _ HT1.out).mono ?_
  rintro e w2 ⟨rfl, rfl⟩
  go_wp2_with fail
  go_ret
  exact ⟨rfl, HT1.out⟩

theorem rgive_none (h : DocS w B L s S) (hR : s.Right) (v x : Int) (hv : 0 ≤ v ∧ v < s.W) (hx : ¬ (1 ≤ x ∧ x ≤ s.off 3)) : Calls Try.prog 18 #[.pointer (some ⟨L.r, 0, none⟩), .int .i64 v, .int .i64 x] w fun e w' => e = .returned (.int .i64 12) ∧ Turn (fun _ => False) w w' := by
  have CW := Lib.hid (rwhere_none h.lies hR h.tkLen x hx)
  rw [show s.whereV x = #[.int .i64 0, .int .i64 0, .int .i64 0, .int .i64 0, .bool false] from if_neg hx] at CW
  have CR := Lib.hid (fun w' (ht : Turn (fun _ => False) w w') => rworker_any (h.lies.still ht) v)
  rw [show decide (0 ≤ v ∧ v < s.W) = true from decide_eq_true hv] at CR
  generalize L.r = r at CW CR ⊢
  clear h hR hv hx
  go_enter Try.func18, Try.ntmps18
  go_wp2_with fail
  refine CW.out.mono ?_
  rintro e w1 ⟨rfl, ht⟩
  have HT1 := Lib.hid ht; clear ht
  go_wp2_with fail
  refine (CR.out _ HT1.out).mono ?_
  rintro e w2 ⟨rfl, rfl⟩
  go_wp2_with fail
  go_ret
  exact ⟨rfl, HT1.out⟩

theorem rgive_state (h : DocS w B L s S) (hR : s.Right) (v x : Int) (hv : 0 ≤ v ∧ v < s.W) (hx : S.there x) (htk : (S.blk x).taken = false) : Calls Try.prog 18 #[.pointer (some ⟨L.r, 0, none⟩), .int .i64 v, .int .i64 x] w fun e w' => e = .returned (.int .i64 11) ∧ Turn (fun _ => False) w w' := by
  have hx' := h.there.1 hx
  obtain ⟨j, hjx⟩ : ∃ j : Nat, x = (j : Int) + 1 := ⟨(x - 1).toNat, by omega⟩
  have CW := Lib.hid (rwhere_at h.lies hR h.tkLen j (by omega))
  rw [← hjx] at CW
  have CR := Lib.hid (fun w' (ht : Turn (fun _ => False) w w') => rworker_any (h.lies.still ht) v)
  rw [show decide (0 ≤ v ∧ v < s.W) = true from decide_eq_true hv] at CR
  obtain ⟨tg, tcap, htv, -⟩ := h.taken
  have HC := Lib.hid (fun w' (ht : Turn (fun _ => False) w w') => show w'.cell? ⟨L.r, 9, none⟩ = some (.slice (some ⟨tg, 0, none⟩) (s.off 3 + 1) tcap) ∧ w'.cell? ⟨tg, x.toNat, none⟩ = some (.bool false) from by
    obtain ⟨-, -, -, -, -, c9⟩ := (h.still ht).lies.cellS
    obtain ⟨tg', tcap', htv', hh⟩ := (h.still ht).taken
    rw [htv] at htv' c9
    injection htv' with e1 e2 e3
    injection e1 with e1
    injection e1 with e1
    subst e1
    exact ⟨c9, by rw [(hh x hx).1, htk]⟩)
  have hoff := Shp.off_le hR
  generalize L.r = r at CW CR HC ⊢
  generalize (s.place 0 j).pos = po at CW
  generalize (s.place 0 j).size = sz at CW
  generalize (s.place 0 j).owner = a at CW
  generalize (s.place 0 j).cls = c at CW
  generalize s.off 3 = N at HC hx' hoff
  obtain ⟨xn, rfl⟩ : ∃ xn : Nat, x = xn := ⟨x.toNat, by omega⟩
  rw [Int.toNat_natCast] at HC
  clear h hR hv hx htk htv hjx
  have x0 : (xn : Int) < (N : Int) + 1 := by omega
  go_enter Try.func18, Try.ntmps18
  go_wp2_with fail
  refine CW.out.mono ?_
  rintro e w1 ⟨rfl, ht⟩
  have HT1 := Lib.hid ht; clear ht
  go_wp2_with fail
  refine (CR.out _ HT1.out).mono ?_
  rintro e w2 ⟨rfl, rfl⟩
  obtain ⟨c9, cT⟩ := HC.out _ HT1.out
  go_wp2_with fail
  go_ret
  exact ⟨rfl, HT1.out⟩

set_option maxRecDepth 100000 in
set_option maxHeartbeats 2000000 in
theorem rgive_home (h : DocS w B L s S) (hR : s.Right) (hok : S.Ok) (hBw : B ≤ w.heap.size) (v : Nat) (x : Int) (hv : v < s.W) (hx : S.there x) (htk : (S.blk x).taken = true) (how : (S.blk x).owner = v) :
    Calls Try.prog 18 #[.pointer (some ⟨L.r, 0, none⟩), .int .i64 v, .int .i64 x] w (DPost w B L s ((S.setTaken x false).setRow (S.home x) (x :: S.row (S.home x))) (.int .i64 0)) := by
  have hx' := h.there.1 hx
  obtain ⟨j, hjx⟩ : ∃ j : Nat, x = (j : Int) + 1 := ⟨(x - 1).toNat, by omega⟩
  obtain ⟨pa, pc⟩ := h.place hx
  obtain ⟨i1, i2⟩ := h.info _ hx
  rw [show (x - 1).toNat = j by omega] at i1 i2
  have CW := Lib.hid (rwhere_at h.lies hR h.tkLen j (by omega))
  rw [← hjx, ← i1, ← i2] at CW
  have CR := Lib.hid (fun w' (ht : Turn (fun _ => False) w w') => rworker_any (h.lies.still ht) v)
  rw [show decide (0 ≤ (v : Int) ∧ (v : Int) < s.W) = true from decide_eq_true (by omega)] at CR
  obtain ⟨tg, tcap, htv, -⟩ := h.taken
  have HC := Lib.hid (fun w' (ht : Turn (fun _ => False) w w') => show w'.cell? ⟨L.r, 9, none⟩ = some (.slice (some ⟨tg, 0, none⟩) (s.off 3 + 1) tcap) ∧ w'.cell? ⟨tg, x.toNat, none⟩ = some (.bool true) ∧ w'.frozen? ⟨tg, x.toNat, none⟩ = false from by
    obtain ⟨-, -, -, -, -, c9⟩ := (h.still ht).lies.cellS
    obtain ⟨tg', tcap', htv', hh⟩ := (h.still ht).taken
    rw [htv] at htv' c9
    injection htv' with e1 e2 e3
    injection e1 with e1
    injection e1 with e1
    subst e1
    exact ⟨c9, by rw [(hh x hx).1, htk], (hh x hx).2⟩)
  have hoff := Shp.off_le hR
  rw [how] at CW
  have CH := Lib.hid (fun (w1 : World) (ht : Turn (fun _ => False) w w1) => show Calls Try.prog 42 #[.pointer (some ⟨L.r, 0, none⟩), .int .i64 x] (w1.setCell ⟨tg, x.toNat, none⟩ (.bool false)) (DPost w B L s ((S.setTaken x false).setRow (S.home x) (x :: S.row (S.home x))) (.tuple #[])) from by
    have hd := (h.still ht).setTaken (t := false) hx htv
    have hlt := hok.place x hx
    have hk : S.home x < 4 * S.W := by unfold PS.home; omega
    have H := rhome_any hd hR (by have := ht.size; simp; omega) x (PS.setTaken_there.2 hx) (by
      rw [PS.setTaken_home false hx hx.1]
      have := hok.short hk
      show (S.row (S.home x)).length ≤ 400000
      omega)
    rw [PS.setTaken_home false hx hx.1] at H
    exact H.mono fun e w' hp => hp.of ((ht.mono (fun _ q => q.elim)).setCell (.inl (.inr (.inr (.inr (.inl (by rw [htv]; rfl)))))) _))
  obtain ⟨r, hr0⟩ : ∃ r, r = L.r := ⟨_, rfl⟩
  rw [← hr0] at CW CR HC CH ⊢
  generalize (s.place 0 j).pos = po at CW
  generalize (s.place 0 j).size = sz at CW
  generalize (S.blk x).cls = c at CW
  generalize s.off 3 = N at HC hx' hoff
  have HN := Lib.hid (show x.toNat = x.toNat from rfl)
  obtain ⟨xn, hxn⟩ : ∃ xn : Nat, x = xn := ⟨x.toNat, by omega⟩
  rw [show x.toNat = xn by omega] at HC CH
  obtain ⟨S2, hS2⟩ : ∃ S2, S2 = (S.setTaken x false).setRow (S.home x) (x :: S.row (S.home x)) := ⟨_, rfl⟩
  rw [← hS2] at CH ⊢
  clear h hR hok hBw hx htk htv hjx i1 i2 how pa pc hr0 hS2 HN
  subst hxn
  have x0 : (xn : Int) < (N : Int) + 1 := by omega
  go_enter Try.func18, Try.ntmps18
  go_wp2_with fail
  refine CW.out.mono ?_
  rintro e w1 ⟨rfl, ht⟩
  have HT1 := Lib.hid ht; clear ht
  go_wp2_with fail
  refine (CR.out _ HT1.out).mono ?_
  rintro e w2 ⟨rfl, rfl⟩
  obtain ⟨c9, cT, fT⟩ := HC.out _ HT1.out
  go_wp2_with fail
  refine (CH.out _ HT1.out).mono ?_
  rintro e w3 ⟨rfl, hp⟩
  have HP := Lib.hid hp
  clear hp c9 cT fT
  go_wp2_with fail
  go_ret
  exact ⟨rfl, HP.out⟩

set_option maxRecDepth 100000 in
set_option maxHeartbeats 2000000 in
theorem rgive_far (h : DocS w B L s S) (hR : s.Right) (hok : S.Ok) (hBw : B ≤ w.heap.size) (v : Nat) (x : Int) (hv : v < s.W) (hx : S.there x) (htk : (S.blk x).taken = true) (how : (S.blk x).owner ≠ v) :
    Calls Try.prog 18 #[.pointer (some ⟨L.r, 0, none⟩), .int .i64 v, .int .i64 x] w (DPost w B L s ((S.setTaken x false).setRow (S.far x) (S.row (S.far x) ++ [x])) (.int .i64 0)) := by
  have hx' := h.there.1 hx
  obtain ⟨j, hjx⟩ : ∃ j : Nat, x = (j : Int) + 1 := ⟨(x - 1).toNat, by omega⟩
  obtain ⟨pa, pc⟩ := h.place hx
  obtain ⟨i1, i2⟩ := h.info _ hx
  rw [show (x - 1).toNat = j by omega] at i1 i2
  have CW := Lib.hid (rwhere_at h.lies hR h.tkLen j (by omega))
  rw [← hjx, ← i1, ← i2] at CW
  have CR := Lib.hid (fun w' (ht : Turn (fun _ => False) w w') => rworker_any (h.lies.still ht) v)
  rw [show decide (0 ≤ (v : Int) ∧ (v : Int) < s.W) = true from decide_eq_true (by omega)] at CR
  obtain ⟨tg, tcap, htv, -⟩ := h.taken
  have HC := Lib.hid (fun w' (ht : Turn (fun _ => False) w w') => show w'.cell? ⟨L.r, 9, none⟩ = some (.slice (some ⟨tg, 0, none⟩) (s.off 3 + 1) tcap) ∧ w'.cell? ⟨tg, x.toNat, none⟩ = some (.bool true) ∧ w'.frozen? ⟨tg, x.toNat, none⟩ = false from by
    obtain ⟨-, -, -, -, -, c9⟩ := (h.still ht).lies.cellS
    obtain ⟨tg', tcap', htv', hh⟩ := (h.still ht).taken
    rw [htv] at htv' c9
    injection htv' with e1 e2 e3
    injection e1 with e1
    injection e1 with e1
    subst e1
    exact ⟨c9, by rw [(hh x hx).1, htk], (hh x hx).2⟩)
  have hoff := Shp.off_le hR
  obtain ⟨a, ha⟩ : ∃ a, a = (S.blk x).owner := ⟨_, rfl⟩
  have hk : S.far x = 4 * a + 3 := by unfold PS.far; rw [ha]
  rw [hk]
  rw [← ha] at CW pa how
  have hkk : 4 * a + 3 < 4 * s.W := by omega
  have hlen : (S.row (4 * a + 3)).length ≤ 192000 := hok.short (by rw [h.W]; exact hkk)
  have HD1 := Lib.hid (fun (w1 : World) (ht : Turn (fun _ => False) w w1) => (h.still ht).setTaken (t := false) hx htv)
  have HO1 := Lib.hid (show L.own s.W tg from .inr (.inr (.inr (.inl (by rw [htv]; rfl)))))
  have hne : ((a : Int) == (v : Int)) = false := by rw [beq_eq_false_iff_ne]; omega
  have HBw := Lib.hid hBw; have HKK := Lib.hid hkk
  obtain ⟨r, hr0⟩ : ∃ r, r = L.r := ⟨_, rfl⟩
  rw [← hr0] at CW CR HC ⊢
  generalize (s.place 0 j).pos = po at CW
  generalize (s.place 0 j).size = sz at CW
  generalize (S.blk x).cls = c at CW
  obtain ⟨W, hW⟩ : ∃ W, W = s.W := ⟨_, rfl⟩
  generalize s.off 3 = N at HC hx' hoff
  obtain ⟨xn, hxn⟩ : ∃ xn : Nat, x = xn := ⟨x.toNat, by omega⟩
  rw [show x.toNat = xn by omega] at HC HD1
  obtain ⟨S1, hS1⟩ : ∃ S1, S1 = S.setTaken x false := ⟨_, rfl⟩
  obtain ⟨rl, hrl⟩ : ∃ rl, rl = S.row (4 * a + 3) := ⟨_, rfl⟩
  have hrl1 : S1.row (4 * a + 3) = rl := by rw [hrl, hS1]; rfl
  rw [← hS1] at HD1 ⊢
  rw [← hrl] at hlen ⊢
  rw [← hW] at pa
  have HR0 := Lib.hid hr0; have HW := Lib.hid hW; have HRL := Lib.hid hrl1
  clear h hR hok hBw hx htk htv hjx i1 i2 ha hk hkk hr0 hS1 hrl hrl1 hW pc hv
  subst hxn
  have x0 : (xn : Int) < (N : Int) + 1 := by omega
  go_enter Try.func18, Try.ntmps18
  go_wp2_with fail
  refine CW.out.mono ?_
  rintro e w1 ⟨rfl, ht⟩
  have HT1 := Lib.hid ht; clear ht
  go_wp2_with fail
  refine (CR.out _ HT1.out).mono ?_
  rintro e w2 ⟨rfl, rfl⟩
  obtain ⟨c9, cT, fT⟩ := HC.out _ HT1.out
  go_upto_region 11 with fail
  have hD := HD1.out _ HT1.out
  have hT2 : Turn (fun k => L.own s.W k) w (w1.setCell ⟨tg, xn, none⟩ (.bool false)) := (HT1.out.mono (fun _ q => q.elim)).setCell (.inl HO1.out) _
  obtain ⟨w2, hw2⟩ : ∃ w2, w2 = w1.setCell ⟨tg, xn, none⟩ (.bool false) := ⟨_, rfl⟩
  rw [← hw2] at hD hT2 ⊢
  have HD2 := Lib.hid hD; have HT2 := Lib.hid hT2
  clear hw2 hD hT2 c9 cT fT HC CW CR HD1
  obtain ⟨-, -, -, -, c8, -⟩ := HD2.out.lies.cellS
  obtain ⟨cV, fV⟩ := HD2.out.lies.cellQ (by rw [← HW.out]; exact pa)
  rw [← HR0.out, ← HW.out] at c8
  obtain ⟨rv, hrv⟩ : ∃ rv, rv = L.V (4 * a + 3) := ⟨_, rfl⟩
  obtain ⟨f, hf⟩ : ∃ f, f = L.q := ⟨_, rfl⟩
  rw [← hf] at c8 fV
  rw [← hf, ← hrv] at cV
  have HROW := Lib.hid (show RowI w2 B rv rl from by
    have := (HD2.out.lies.rows _ HKK.out).far (by omega)
    rw [HRL.out] at this
    rw [hrv]; exact this)
  have hps : r ≠ f := by rw [HR0.out, hf]; exact HD2.out.lies.top.ne_type HD2.out.lies.fars (by decide)
  have HB2 := Lib.hid (show B ≤ w2.heap.size from Nat.le_trans HBw.out HT2.out.size)
  have KP2 := Lib.hid (fun (o : Obj) (w3 : World) (hg : ((w2.alloc o).drew).grownBy w3 rv.ownBlock) => show w3.cell? ⟨r, 8, none⟩ = some (.slice (some ⟨f, 0, none⟩) W W) ∧ w3.cell? ⟨f, a, none⟩ = some rv ∧ w3.frozen? ⟨f, a, none⟩ = false from by
    have ht : Turn (fun g => (L.V (4 * a + 3)).ownBlock = some g) w2 w3 := Turn.trans (((Turn.refl _ w2).alloc o).drew) (Turn.of_grown hg) (fun k hk => .inl (by rw [← hrv]; exact hk.symm))
    have hne : ¬ (L.V (4 * a + 3)).ownBlock = some f := by rw [hf]; exact (HD2.out.lies.rows _ HKK.out).rd.ne_type HD2.out.lies.fars (by decide)
    have hne2 : ¬ (L.V (4 * a + 3)).ownBlock = some r := by rw [HR0.out]; exact (HD2.out.lies.rows _ HKK.out).rd.ne_type HD2.out.lies.top (by decide)
    have hpl : f < w2.heap.size := by rw [hf]; exact HD2.out.lies.fars.lt
    have hpl2 : r < w2.heap.size := by rw [HR0.out]; exact HD2.out.lies.top.lt
    rw [ht.cell (a := ⟨f, a, none⟩) hpl hne, ht.frozen (a := ⟨f, a, none⟩) hpl hne, ht.cell (a := ⟨r, 8, none⟩) hpl2 hne2]
    exact ⟨c8, cV, fV⟩)
  have HRV := Lib.hid hrv; have HF := Lib.hid hf
  clear hrv hf
  have v0 : (0 : Int) ≤ (a : Int) := by omega
  have v1 : (a : Int) < (W : Int) := by omega
  have hlt3 := World.block_lt_of_cell? _ _ c8
  have hlt4 := World.block_lt_of_cell? _ _ cV
  simp only [] at hlt3 hlt4
  obtain ⟨j0', hj0, hy0, hy1, hy2⟩ := info_parts info_int10
  have HJ0 := Lib.hid hj0; have HY0 := Lib.hid hy0; have HY1 := Lib.hid hy1; have HY2 := Lib.hid hy2
  clear hj0 hy0 hy1 hy2
  refine wpL_begin (by kernel_rfl) [16] (fun w' => w'.cell? ⟨r, 8, none⟩ = some (.slice (some ⟨f, 0, none⟩) W W) ∧ w'.cell? ⟨f, a, none⟩ = some rv) ?_
  have HS1 : w2.drew.cell? ⟨r, 8, none⟩ = some (.slice (some ⟨f, 0, none⟩) W W) ∧ w2.drew.cell? ⟨f, a, none⟩ = some rv := ⟨c8, cV⟩
  refine wpL_pure (i := 0) (v := ?_) rfl (by kernel_rfl) (by kernel_rfl) (by kernel_rfl) (fun _ _ _ h => h) (Or.inl ⟨by rfl, ?_⟩) ?_
  rotate_left
  · intro w' hSw
    (try dsimp only at hSw)
    go_simp
    (try with_reducible rfl)
  (try simp only [Act.put, List.setIfInBounds_toArray, List.set_cons_zero, List.set_cons_succ])
  refine wpL_pure (i := 1) (v := ?_) rfl (by kernel_rfl) (by kernel_rfl) (by kernel_rfl) (fun _ _ _ h => h) (Or.inl ⟨by rfl, ?_⟩) ?_
  rotate_left
  · intro w' hSw
    (try dsimp only at hSw)
    go_simp
    (try with_reducible rfl)
  (try simp only [Act.put, List.setIfInBounds_toArray, List.set_cons_zero, List.set_cons_succ])
  refine wpL_pure (i := 2) (v := ?_) rfl (by kernel_rfl) (by kernel_rfl) (by kernel_rfl) (fun _ _ _ h => h) (Or.inl ⟨by rfl, ?_⟩) ?_
  rotate_left
  · intro w' hSw
    (try dsimp only at hSw)
    go_simp
    (try with_reducible rfl)
  (try simp only [Act.put, List.setIfInBounds_toArray, List.set_cons_zero, List.set_cons_succ])
  refine wpL_take (i := 3) (v := ?_) rfl (by kernel_rfl) (by kernel_rfl) (by kernel_rfl) (by kernel_rfl) (fun _ _ _ h => h) (Or.inl ⟨by rfl, ?_⟩) (by assumption) ?_
  rotate_left
  · intro w' hSw
    (try dsimp only at hSw)
    go_simp
    (try with_reducible rfl)
  (try simp only [Act.put, List.setIfInBounds_toArray, List.set_cons_zero, List.set_cons_succ])
  refine wpL_pure (i := 4) (v := ?_) rfl (by kernel_rfl) (by kernel_rfl) (by kernel_rfl) (fun _ _ _ h => h) (Or.inl ⟨by rfl, ?_⟩) ?_
  rotate_left
  · intro w' hSw
    (try dsimp only at hSw)
    go_simp
    (try with_reducible rfl)
  (try simp only [Act.put, List.setIfInBounds_toArray, List.set_cons_zero, List.set_cons_succ])
  refine wpL_pure (i := 5) (v := ?_) rfl (by kernel_rfl) (by kernel_rfl) (by kernel_rfl) (fun _ _ _ h => h) (Or.inl ⟨by rfl, ?_⟩) ?_
  rotate_left
  · intro w' hSw
    (try dsimp only at hSw)
    go_simp
    (try with_reducible rfl)
  (try simp only [Act.put, List.setIfInBounds_toArray, List.set_cons_zero, List.set_cons_succ])
  refine wpL_pure (i := 6) (v := ?_) rfl (by kernel_rfl) (by kernel_rfl) (by kernel_rfl) (fun _ _ _ h => h) (Or.inl ⟨by rfl, ?_⟩) ?_
  rotate_left
  · intro w' hSw
    (try dsimp only at hSw)
    go_simp
    (try with_reducible rfl)
  (try simp only [Act.put, List.setIfInBounds_toArray, List.set_cons_zero, List.set_cons_succ])
  refine wpL_pure (i := 7) (v := ?_) rfl (by kernel_rfl) (by kernel_rfl) (by kernel_rfl) (fun _ _ _ h => h) (Or.inl ⟨by rfl, ?_⟩) ?_
  rotate_left
  · intro w' hSw
    (try dsimp only at hSw)
    go_simp
    (try with_reducible rfl)
  (try simp only [Act.put, List.setIfInBounds_toArray, List.set_cons_zero, List.set_cons_succ])
  refine wpL_take (i := 8) (v := ?_) rfl (by kernel_rfl) (by kernel_rfl) (by kernel_rfl) (by kernel_rfl) (fun _ _ _ h => h) (Or.inl ⟨by rfl, ?_⟩) (by assumption) ?_
  rotate_left
  · intro w' hSw
    (try dsimp only at hSw)
    go_simp
    (try with_reducible rfl)
  (try simp only [Act.put, List.setIfInBounds_toArray, List.set_cons_zero, List.set_cons_succ])
  refine wpL_pure (i := 9) (v := ?_) rfl (by kernel_rfl) (by kernel_rfl) (by kernel_rfl) (fun _ _ _ h => h) (Or.inl ⟨by rfl, ?_⟩) ?_
  rotate_left
  · intro w' hSw
    (try dsimp only at hSw)
    go_simp
    (try with_reducible rfl)
  (try simp only [Act.put, List.setIfInBounds_toArray, List.set_cons_zero, List.set_cons_succ])
  refine wpL_pure (i := 10) (v := ?_) rfl (by kernel_rfl) (by kernel_rfl) (by kernel_rfl) (fun _ _ _ h => h) (Or.inl ⟨by rfl, ?_⟩) ?_
  rotate_left
  · intro w' hSw
    (try dsimp only at hSw)
    go_simp
    (try with_reducible rfl)
  (try simp only [Act.put, List.setIfInBounds_toArray, List.set_cons_zero, List.set_cons_succ])
  refine wpL_take (i := 11) (v := ?_) rfl (by kernel_rfl) (by kernel_rfl) (by kernel_rfl) (by kernel_rfl) (fun _ _ _ h => h) (Or.inl ⟨by rfl, ?_⟩) (by assumption) ?_
  rotate_left
  · intro w' hSw
    (try dsimp only at hSw)
    go_simp
    (try with_reducible rfl)
  (try simp only [Act.put, List.setIfInBounds_toArray, List.set_cons_zero, List.set_cons_succ])
  refine wpL_pure (i := 12) (v := ?_) rfl (by kernel_rfl) (by kernel_rfl) (by kernel_rfl) (fun _ _ _ h => h) (Or.inl ⟨by rfl, ?_⟩) ?_
  rotate_left
  · intro w' hSw
    (try dsimp only at hSw)
    go_simp
    (try with_reducible rfl)
  (try simp only [Act.put, List.setIfInBounds_toArray, List.set_cons_zero, List.set_cons_succ])
  refine wpL_one (i := 13) (by kernel_rfl) rfl (fun K hK => ?_)
  go_simp
  refine hK _ _ (fun _ _ => ?_) ?_
  · (refine ⟨?_, ?_⟩ <;> go_keep)
  clear hK K
  (try simp only [Act.put, List.setIfInBounds_toArray, List.set_cons_zero, List.set_cons_succ])
  refine wpL_one (i := 14) (by kernel_rfl) rfl (fun K hK => ?_)
  have HRO := Lib.hid (fun (o : Obj) => show ((w2.alloc o).drew).ownsRow B 3 1 rv rl.length (rl.map (Value.int .i64)) from own_turn (HROW.out.alloc o) ((Turn.refl (fun _ => False) _).drew) (fun _ _ h => h))
  refine step_append_lies _ (by rfl) (.tmp 58) (.tmp 60) 74 (by rfl) B 3 j0' _ 1 8 Try.underlying74 HJ0.out HY0.out HY1.out HY2.out rfl (by decide) rv rl.length (rl.map (Value.int .i64)) (by rfl) (HRO.out _) ⟨w2.heap.size, 0, none⟩ 1 1 [.int .i64 xn] (by rfl) rfl (World.news_of_block (heap_alloc_new w2 _)) (by intro u hu; simp at hu; subst hu; rfl) (by omega) (by unfold maxLen; omega) (by omega) (by have := HB2.out; simp; omega) (w2.heap.size + 1) (by simp) ?_
  intro g2 cap2 w3 hown hgrow hat hltg
  have HOWN2 := Lib.hid hown
  have HGR2 := Lib.hid hgrow
  have HAT2 := Lib.hid hat
  obtain ⟨d8, dV, fdV⟩ := KP2.out _ _ hgrow
  clear hown hgrow hat
  refine hK _ _ (fun _ _ => ⟨d8, dV⟩) ?_
  clear hK K HS1
  (try simp only [Act.put, List.setIfInBounds_toArray, List.set_cons_zero, List.set_cons_succ])
  refine wpL_pure (i := 15) (v := ?_) rfl (by kernel_rfl) (by kernel_rfl) (by kernel_rfl) (fun _ _ _ h => h) (Or.inl ⟨by rfl, ?_⟩) ?_
  rotate_left
  · intro w' hSw
    (try dsimp only at hSw)
    go_simp
    (try with_reducible rfl)
  (try simp only [Act.put, List.setIfInBounds_toArray, List.set_cons_zero, List.set_cons_succ])
  refine wpL_one (i := 16) (by kernel_rfl) rfl (fun K hK => ?_)
  go_simp
  refine hK _ _ (fun h _ => absurd (List.mem_singleton.2 rfl) h) ?_
  clear hK K
  refine wpL_done (by kernel_rfl) ?_ _
  (try simp only [Act.put, List.setIfInBounds_toArray, List.set_cons_zero, List.set_cons_succ])
  go_wp2_with fail
  go_ret
  have hT3 : Turn (fun g => (L.V (4 * a + 3)).ownBlock = some g) w2 w3 := Turn.trans (((Turn.refl _ w2).alloc _).drew) (Turn.of_grown HGR2.out) (fun k hk => .inl (by rw [← HRV.out]; exact hk.symm))
  have hR2 : RowI w3 B (.slice (some ⟨g2, 0, none⟩) (rl.length + 1) cap2) (rl ++ [(xn : Int)]) := by
    unfold RowI
    rw [List.map_append, List.length_append]
    exact HOWN2.out
  have hob : ∀ q, (Value.slice (some ⟨g2, 0, none⟩) (rl.length + 1) cap2).ownBlock = some q → (L.V (4 * a + 3)).ownBlock = some q ∨ w2.heap.size ≤ q := by
    intro q hq
    simp [Value.ownBlock] at hq
    subst hq
    rcases HAT2.out with e | e
    · exact .inl (by rw [← HRV.out]; exact e)
    · exact .inr (by omega)
  have hs := HD2.out.lies.setFar (a := a) (by rw [← HW.out]; exact pa) hR2 hT3 hob
  rw [← HF.out] at hs
  refine ⟨rfl, L.setV (4 * a + 3) (.slice (some ⟨g2, 0, none⟩) (rl.length + 1) cap2), rfl, HD2.out.setRow hs, ?_, ?_⟩
  · refine Turn.setCell (HT2.out.trans hT3 (fun q hq => .inl (.inr (.inr (.inr (.inr ⟨_, HKK.out, hq⟩)))))) (.inl (.inr (.inr (.inl HF.out)))) _
  · intro q hq
    rcases RLay.own_setV hob HKK.out hq with e | e
    · exact .inl e
    · exact .inr (Nat.le_trans HT2.out.size e)

theorem rgive_any (h : DocS w B L s S) (hR : s.Right) (hok : S.Ok) (hBw : B ≤ w.heap.size) (v x : Int) : Calls Try.prog 18 #[.pointer (some ⟨L.r, 0, none⟩), .int .i64 v, .int .i64 x] w (DPost w B L s (S.giveS v x) (.int .i64 (S.giveR v x))) := by
  have hW := h.W
  unfold PS.giveS PS.giveR
  by_cases h1 : v < 0 ∨ S.W ≤ v
  · rw [if_pos h1, if_pos h1]
    refine (rgive_out h hR v x h1).mono ?_
    rintro e w' ⟨rfl, ht⟩
    exact h.stillPost ht _
  · rw [if_neg h1, if_neg h1]
    by_cases h2 : x < 1 ∨ S.blks.length < x
    · rw [if_pos h2, if_pos h2]
      refine (rgive_none h hR v x (by omega) (by rw [h.N] at h2; omega)).mono ?_
      rintro e w' ⟨rfl, ht⟩
      exact h.stillPost ht _
    · rw [if_neg h2, if_neg h2]
      have hx : S.there x := ⟨by omega, by omega⟩
      by_cases h3 : (S.blk x).taken = false
      · rw [if_pos h3, if_pos h3]
        refine (rgive_state h hR v x (by omega) hx h3).mono ?_
        rintro e w' ⟨rfl, ht⟩
        exact h.stillPost ht _
      · rw [if_neg h3, if_neg h3]
        have ht : (S.blk x).taken = true := by simpa using h3
        obtain ⟨a, rfl⟩ : ∃ a : Nat, v = a := ⟨v.toNat, by omega⟩
        rw [Int.toNat_natCast]
        by_cases h4 : (S.blk x).owner = a
        · rw [if_pos h4]
          exact rgive_home h hR hok hBw a x (by omega) hx ht h4
        · rw [if_neg h4]
          exact rgive_far h hR hok hBw a x (by omega) hx ht h4
end

end Go.Proofs.Ytccadafajocbgaa
