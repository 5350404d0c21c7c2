/- Layer 10's laws: small, of; the document's Words and Right. -/
import Derived.Test.YtccadafajocbgaaPoolO
import Derived.Laws.ShiftsVarLaws
open Go Go.RowKit
namespace Go.Proofs.Ytccadafajocbgaa

/-- a shape's cells -/
def Shp.cells (s : Shp) : List Value := [.int .i64 s.W, .int .i64 (s.z 0), .int .i64 (s.z 1), .int .i64 (s.z 2), .int .i64 (s.n 0), .int .i64 (s.n 1), .int .i64 (s.n 2)]
theorem Shp.cells_z (s : Shp) {k : Nat} (hk : k < 3) (v : Nat) : s.cells.set (1 + k) (.int .i64 v) = Shp.cells ⟨s.W, fun j => if j = k then v else s.z j, s.n⟩ := by
  rcases (show k = 0 ∨ k = 1 ∨ k = 2 by omega) with rfl | rfl | rfl <;> rfl
theorem Shp.cells_n (s : Shp) {k : Nat} (hk : k < 3) (v : Nat) : s.cells.set (4 + k) (.int .i64 v) = Shp.cells ⟨s.W, s.z, fun j => if j = k then v else s.n j⟩ := by
  rcases (show k = 0 ∨ k = 1 ∨ k = 2 by omega) with rfl | rfl | rfl <;> rfl

/-- a small shape, up to class k -/
def Shp.Upto (s : Shp) (k : Nat) : Prop := 1 ≤ s.W ∧ s.W ≤ 4 ∧ ∀ j, j < k → 1 ≤ s.z j ∧ s.z j ≤ 4 ∧ s.n j ≤ 4
theorem Shp.Upto.right {s : Shp} (h : s.Upto 3) : s.Right := ⟨h.1, by have := h.2.1; omega, fun k hk => by have := h.2.2 k hk; omega, fun k hk => by have := h.2.2 k hk; omega⟩

theorem Shp.stored {s : Shp} {w : World} {y k : Nat} {zv nv : Int} (h : Blk w y s.cells 26) (hk : k < 3) (hz : 0 ≤ zv) (hn : 0 ≤ nv) :
    Blk ((w.setCell ⟨y, 1 + k, none⟩ (.int .i64 zv)).setCell ⟨y, 4 + k, none⟩ (.int .i64 nv)) y (Shp.cells ⟨s.W, fun j => if j = k then zv.toNat else s.z j, fun j => if j = k then nv.toNat else s.n j⟩) 26 := by
  have h1 := (h.set (1 + k) (.int .i64 zv)).set (4 + k) (.int .i64 nv)
  rw [show zv = ((zv.toNat : Nat) : Int) by omega, s.cells_z hk, show nv = ((nv.toNat : Nat) : Int) by omega, Shp.cells_n _ hk] at h1
  simpa [Int.toNat_of_nonneg hz, Int.toNat_of_nonneg hn] using h1
theorem Shp.Upto.more {s : Shp} {k zv nv : Nat} (h : s.Upto k) (hz : 1 ≤ zv ∧ zv ≤ 4) (hn : nv ≤ 4) : Shp.Upto ⟨s.W, fun j => if j = k then zv else s.z j, fun j => if j = k then nv else s.n j⟩ (k + 1) := by
  refine ⟨h.1, h.2.1, fun j hj => ?_⟩
  simp only []
  by_cases e : j = k
  · rw [if_pos e, if_pos e]; exact ⟨hz.1, hz.2, hn⟩
  · rw [if_neg e, if_neg e]; exact h.2.2 j (by omega)

theorem small_any (n : Nat) (hn : n ≤ 4294967295) (w : World) : Calls Try.prog 9 #[.int .u32 n] w fun e w' => ∃ s : Shp, e = .returned s.val ∧ s.Upto 3 ∧ Turn (fun _ => False) w w' := by
  obtain ⟨q, hq⟩ : ∃ q : Nat, (n : Int) % 4 = q := ⟨n % 4, by omega⟩
  have hq4 : q < 4 := by omega
  go_enter Try.func9, Try.ntmps9
  go_wp2_with fail
  obtain ⟨wL, hwL⟩ : ∃ wL, wL = (w.alloc (Obj.cells #[.int .i64 0, .int .i64 0, .int .i64 0, .int .i64 0, .int .i64 0, .int .i64 0, .int .i64 0] 26)).alloc (Obj.cells #[.int .i64 (1 + (q : Int)), .int .i64 0, .int .i64 0, .int .i64 0, .int .i64 0, .int .i64 0, .int .i64 0] 26) := ⟨_, rfl⟩
  have hb0 : Blk wL w.heap.size (Shp.cells ⟨0, fun _ => 0, fun _ => 0⟩) 26 := by rw [hwL]; exact (Blk.new w _ _).alloc _
  have hb1 : Blk wL (w.heap.size + 1) (Shp.cells ⟨1 + q, fun _ => 0, fun _ => 0⟩) 26 := by
    rw [hwL]
    have := Blk.new (w.alloc (Obj.cells #[.int .i64 0, .int .i64 0, .int .i64 0, .int .i64 0, .int .i64 0, .int .i64 0, .int .i64 0] 26)) [.int .i64 (1 + (q : Int)), .int .i64 0, .int .i64 0, .int .i64 0, .int .i64 0, .int .i64 0, .int .i64 0] 26
    simpa [Shp.cells] using this
  have hT : Turn (fun _ => False) w wL := by rw [hwL]; exact ((Turn.refl _ w).alloc _).alloc _
  rw [← hwL]
  obtain ⟨x, hx⟩ : ∃ x, x = w.heap.size := ⟨_, rfl⟩
  obtain ⟨y, hy⟩ : ∃ y, y = w.heap.size + 1 := ⟨_, rfl⟩
  rw [← hx] at hb0 ⊢
  rw [← hy] at hb1
  rw [show x + 1 = y by omega]
  have HB0 := Lib.hid hb0; have HB1 := Lib.hid hb1; have HT := Lib.hid hT; have HX := Lib.hid hx; have HY := Lib.hid hy
  clear hb0 hb1 hT hwL hx hy hq
  go_loopw [4] (fun t4 wr => ∃ (k : Nat) (s : Shp), k ≤ 3 ∧ t4 = .int .i64 k ∧ s.Upto k ∧ Blk wr x (Shp.cells ⟨0, fun _ => 0, fun _ => 0⟩) 26 ∧ Blk wr y s.cells 26 ∧ Turn (fun _ => False) w wr) (fun t _ => 3 - (intOf t).toNat)
  case atStart => exact ⟨0, _, by omega, rfl, ⟨by show 1 ≤ 1 + q; omega, by show 1 + q ≤ 4; omega, fun j hj => by omega⟩, HB0.out, HB1.out, HT.out⟩
  case round =>
    obtain ⟨k, s, hk, rfl, hu, hb0, hb1, ht⟩ := hrel
    have HU := Lib.hid hu; have HC0 := Lib.hid hb0; have HC1 := Lib.hid hb1; have HR := Lib.hid ht
    clear HB0 HB1 HT hu ht
    by_cases hlt : k < 3
    · rcases (show k = 0 ∨ k = 1 ∨ k = 2 by omega) with rfl | rfl | rfl
      · have c1 := hb1.cell 1
        have c4 := hb1.cell 4
        have f1 := hb1.free 1
        have f4 := hb1.free 4
        simp [Shp.cells] at c1 c4
        clear hb0 hb1
        go_wp2_with fail
        refine ⟨⟨1, _, by omega, rfl, HU.out.more (zv := (1 + (n : Int) / 16 % 4).toNat) (nv := ((n : Int) / 4096 % 5).toNat) (by omega) (by omega), ?_, Shp.stored HC1.out (k := 0) (by omega) (by omega) (by omega), ?_⟩, by simp [intOf]⟩
        · exact (HC0.out.other (by show x ≠ y; have := HX.out; have := HY.out; omega) _).other (by show x ≠ y; have := HX.out; have := HY.out; omega) _
        · exact (HR.out.setCell (p := ⟨y, 1, none⟩) (.inr (by show w.heap.size ≤ y; have := HX.out; have := HY.out; omega)) _).setCell (p := ⟨y, 4, none⟩) (.inr (by show w.heap.size ≤ y; have := HX.out; have := HY.out; omega)) _
      · have c1 := hb1.cell 2
        have c4 := hb1.cell 5
        have f1 := hb1.free 2
        have f4 := hb1.free 5
        simp [Shp.cells] at c1 c4
        clear hb0 hb1
        go_wp2_with fail
        refine ⟨⟨2, _, by omega, rfl, HU.out.more (zv := (1 + (n : Int) / 64 % 4).toNat) (nv := ((n : Int) / 32768 % 5).toNat) (by omega) (by omega), ?_, Shp.stored HC1.out (k := 1) (by omega) (by omega) (by omega), ?_⟩, by simp [intOf]⟩
        · exact (HC0.out.other (by show x ≠ y; have := HX.out; have := HY.out; omega) _).other (by show x ≠ y; have := HX.out; have := HY.out; omega) _
        · exact (HR.out.setCell (p := ⟨y, 2, none⟩) (.inr (by show w.heap.size ≤ y; have := HX.out; have := HY.out; omega)) _).setCell (p := ⟨y, 5, none⟩) (.inr (by show w.heap.size ≤ y; have := HX.out; have := HY.out; omega)) _
      · have c1 := hb1.cell 3
        have c4 := hb1.cell 6
        have f1 := hb1.free 3
        have f4 := hb1.free 6
        simp [Shp.cells] at c1 c4
        clear hb0 hb1
        go_wp2_with fail
        refine ⟨⟨3, _, by omega, rfl, HU.out.more (zv := (1 + (n : Int) / 256 % 4).toNat) (nv := ((n : Int) / 262144 % 5).toNat) (by omega) (by omega), ?_, Shp.stored HC1.out (k := 2) (by omega) (by omega) (by omega), ?_⟩, by simp [intOf]⟩
        · exact (HC0.out.other (by show x ≠ y; have := HX.out; have := HY.out; omega) _).other (by show x ≠ y; have := HX.out; have := HY.out; omega) _
        · exact (HR.out.setCell (p := ⟨y, 3, none⟩) (.inr (by show w.heap.size ≤ y; have := HX.out; have := HY.out; omega)) _).setCell (p := ⟨y, 6, none⟩) (.inr (by show w.heap.size ≤ y; have := HX.out; have := HY.out; omega)) _
    · obtain rfl : k = 3 := by omega
      obtain ⟨d0, d1, d2, d3, d4, d5, d6⟩ := shp_cells hb1
      obtain ⟨e0, e1, e2, e3, e4, e5, e6⟩ := shp_cells hb0
      have g0 := hb0.free 0; have g1 := hb0.free 1; have g2 := hb0.free 2; have g3 := hb0.free 3; have g4 := hb0.free 4; have g5 := hb0.free 5; have g6 := hb0.free 6
      clear hb0 hb1
      go_wp2_with fail
      have hxw : w.heap.size ≤ x := by rw [HX.out]; exact Nat.le_refl _
      refine bodyPost_ret (v := s.val) (by simp [results, Try.results9, go_sem, Shp.val, shpV, e0, e1, e2, e3, e4, e5, e6]) rfl ⟨s, rfl, HU.out, ?_⟩
      exact ((((((HR.out.setCell (.inr hxw) _).setCell (.inr hxw) _).setCell (.inr hxw) _).setCell (.inr hxw) _).setCell (.inr hxw) _).setCell (.inr hxw) _).setCell (.inr hxw) _

theorem of_any (W z0 z1 z2 n0 n1 n2 : Int) (w : World) : Calls Try.prog 13 #[shpV W z0 z1 z2 n0 n1 n2] w fun e w' => e = .returned (shpV W z0 z1 z2 n0 n1 n2) ∧ Turn (fun _ => False) w w' := by
  unfold shpV
  go_enter Try.func13, Try.ntmps13
  go_wp2_with fail
  refine bodyPost_ret (v := .agg #[.int .i64 W, .int .i64 z0, .int .i64 z1, .int .i64 z2, .int .i64 n0, .int .i64 n1, .int .i64 n2]) (by simp [results, Try.results13, go_sem]) rfl ⟨rfl, ?_⟩
  have h0 := ((Turn.refl (fun _ => False) w).alloc (Obj.cells #[.int .i64 W, .int .i64 z0, .int .i64 z1, .int .i64 z2, .int .i64 n0, .int .i64 n1, .int .i64 n2] 26)).alloc (Obj.cells #[.int .i64 W, .int .i64 z0, .int .i64 z1, .int .i64 z2, .int .i64 n0, .int .i64 n1, .int .i64 n2] 36)
  exact h0

theorem rwords_any (s : Shp) (h : s.Right) (w : World) : Calls Try.prog 11 #[s.val] w fun e w' => e = .returned (.int .i64 (s.ws 3)) ∧ Turn (fun _ => False) w w' := by
  unfold Shp.val shpV
  have q : ∀ k, k < 3 → s.n k * s.z k ≤ 64000 := fun k hk => by
    have := Nat.mul_le_mul (h.n1 k hk) (h.z1 k hk).2
    omega
  have q0 := q 0 (by omega); have q1 := q 1 (by omega); have q2 := q 2 (by omega)
  obtain ⟨p0, h0⟩ : ∃ p0 : Nat, p0 = s.n 0 * s.z 0 := ⟨_, rfl⟩
  obtain ⟨p1, h1⟩ : ∃ p1 : Nat, p1 = s.n 1 * s.z 1 := ⟨_, rfl⟩
  obtain ⟨p2, h2⟩ : ∃ p2 : Nat, p2 = s.n 2 * s.z 2 := ⟨_, rfl⟩
  rw [← h0] at q0; rw [← h1] at q1; rw [← h2] at q2
  have hws : s.ws 3 = s.W * (p0 + p1 + p2) := by
    rw [h0, h1, h2]
    simp only [Shp.ws, Nat.mul_add, Nat.mul_assoc, Nat.zero_add]
  have ht : s.W * (p0 + p1 + p2) ≤ 64 * 192000 := Nat.mul_le_mul h.W2 (by omega)
  obtain ⟨t, htt⟩ : ∃ t : Nat, t = s.W * (p0 + p1 + p2) := ⟨_, rfl⟩
  rw [hws, ← htt]
  rw [← htt] at ht
  have e0 : (s.n 0 : Int) * (s.z 0 : Int) = p0 := by rw [h0, Int.natCast_mul]
  have e1 : (s.n 1 : Int) * (s.z 1 : Int) = p1 := by rw [h1, Int.natCast_mul]
  have e2 : (s.n 2 : Int) * (s.z 2 : Int) = p2 := by rw [h2, Int.natCast_mul]
  have e3 : (s.W : Int) * ((p0 : Int) + (p1 : Int) + (p2 : Int)) = t := by rw [htt, Int.natCast_mul, Int.natCast_add, Int.natCast_add]
  generalize s.n 0 = n0 at *
  generalize s.n 1 = n1 at *
  generalize s.n 2 = n2 at *
  generalize s.z 0 = z0 at *
  generalize s.z 1 = z1 at *
  generalize s.z 2 = z2 at *
  generalize s.W = W at *
  clear h q hws htt h0 h1 h2
  go_enter Try.func11, Try.ntmps11
  go_wp2_with fail
  go_ret
  exact ⟨by first | rfl | (simp [e0, e1, e2, e3]), (Turn.refl _ w).alloc _⟩

end Go.Proofs.Ytccadafajocbgaa
