/- Layer 9: the law's own functions: are the words the document's; a move. -/
import Derived.Test.YtlogmfpnjpamgaaDeqX
import Derived.Test.YtlogmfpnjpamgaaOnceH
import Derived.Deep.RegionHeld3
open Go Go.RowKit
namespace Go.Proofs.Ytlogmfpnjpamgaa

section
variable {w0 w w1 : World} {Y : Lay9} {kind room i p q : Nat} {Dm Dd : Dq} {po dh : Nat → Option DOp} {pushed : Nat} {full handed : List Int} {fv hv : Value}

theorem load_hm {m a b base : Nat} {D : Dq} (h : HM w m a b base room D) (at_ : Int) (k : Nat) (hk : k < room + 2) (ha : at_ = ((base + k : Nat) : Int)) :
    Calls Try.prog 28 #[.pointer (some ⟨m, 0, none⟩), .int .i64 at_] w fun e w1 => e = .returned (.tuple #[.int .i64 (D k), .int .i64 0]) ∧ HM w1 m a b base room D ∧ Only [m, a, b] w w1 := by
  obtain ⟨⟨t, hm, hr⟩, h4, h5⟩ := h
  have hc := hr.code k hk
  have hw := hr.word k hk
  rw [← ha] at hc hw
  refine (load_any m a b t at_ w hm).mono ?_
  rintro e w1 ⟨rfl, h1, h2⟩
  rw [hc, hw]
  exact ⟨rfl, ⟨⟨_, h1, hr.load _⟩, h4, h5⟩, h2⟩

theorem VX.memset (h : VX w0 w Y kind room Dm Dd po dh pushed full handed fv hv) (hm : HM w1 Y.m Y.a Y.b 3 room Dm) (ho : Only [Y.m, Y.a, Y.b] w w1) : VX w0 w1 Y kind room Dm Dd po dh pushed full handed fv hv := by
  obtain ⟨t0, t1, t2, t3, t4, t5⟩ := h.tags
  have hS : ∀ k, k ∈ [Y.m, Y.a, Y.b] → Y.tag k = 1 ∨ Y.tag k = 2 ∨ Y.tag k = 3 := by
    intro k hk; simp at hk; rcases hk with rfl | rfl | rfl <;> omega
  have nin : ∀ k, Y.tag k ≠ 1 → Y.tag k ≠ 2 → Y.tag k ≠ 3 → k ∉ [Y.m, Y.a, Y.b] := fun k a1 a2 a3 hk => by have := hS k hk; omega
  exact ⟨h.top.only ho (nin _ (by omega) (by omega) (by omega)), hm, h.rt.only ho (nin _ (by omega) (by omega) (by omega)), h.rs.only ho (nin _ (by omega) (by omega) (by omega)), fun j hj => (h.hs j hj).only ho (fun k hk => by have := hS k hk; omega),
    ⟨h.rowf.1.only ho (fun k hk => nin k (by have := h.rowf.2 k hk; omega) (by have := h.rowf.2 k hk; omega) (by have := h.rowf.2 k hk; omega)), h.rowf.2⟩,
    ⟨h.rowh.1.only ho (fun k hk => nin k (by have := h.rowh.2 k hk; omega) (by have := h.rowh.2 k hk; omega) (by have := h.rowh.2 k hk; omega)), h.rowh.2⟩,
    h.tags, h.ge, below_only h.bel (Nat.le_refl _) ho (fun k hk => by obtain ⟨g0, g1, g2, g3, g4, g5⟩ := h.ge; simp at hk; rcases hk with rfl | rfl | rfl <;> omega), h.hk⟩

theorem VX.load (h : VX w0 w Y kind room Dm Dd po dh pushed full handed fv hv) (at_ : Int) (k : Nat) (hk : k < room + 2) (ha : at_ = ((3 + k : Nat) : Int)) :
    Calls Try.prog 28 #[.pointer (some ⟨Y.m, 0, none⟩), .int .i64 at_] w fun e w1 => e = .returned (.tuple #[.int .i64 (Dm k), .int .i64 0]) ∧ VX w0 w1 Y kind room Dm Dd po dh pushed full handed fv hv := by
  refine (load_hm h.mem at_ k hk ha).mono ?_
  rintro e w1 ⟨rfl, h1, h2⟩
  exact ⟨rfl, h.memset h1 h2⟩

theorem VX.rcells (h : VX w0 w Y kind room Dm Dd po dh pushed full handed fv hv) :
    w.cell? ⟨Y.v, 0, none⟩ = some (.pointer (some ⟨Y.m, 0, none⟩)) ∧ w.cell? ⟨Y.v, 4, none⟩ = some (.pointer (some ⟨Y.r, 0, none⟩)) ∧ w.cell? ⟨Y.r, 1, none⟩ = some (.int .i64 room) ∧ w.cell? ⟨Y.r, 2, none⟩ = some (.int .i64 (Dd 0)) ∧ w.cell? ⟨Y.r, 3, none⟩ = some (.int .i64 (Dd 1)) ∧ w.cell? ⟨Y.r, 4, none⟩ = some (.slice (some ⟨Y.l, 0, none⟩) room room) :=
  ⟨h.top.cell 0, h.top.cell 4, h.rt.cell 1, h.rt.cell 2, h.rt.cell 3, h.rt.cell 4⟩

set_option maxRecDepth 100000 in
theorem words_any {D : Dq} (h : VX w0 w Y kind room D D po dh pushed full handed fv hv) (hr : room ≤ 1000) :
    Calls Try.prog 16 #[.pointer (some ⟨Y.v, 0, none⟩)] w fun e w1 => e = .returned (.bool true) ∧ VX w0 w1 Y kind room D D po dh pushed full handed fv hv := by
  obtain ⟨c0, c4, r1, r2, r3, r4⟩ := h.rcells
  have H := Lib.hid h; clear h
  go_enter Try.func16, Try.ntmps16
  go_wp2_with fail
  refine (H.out.load _ 0 (by omega) rfl).mono ?_
  rintro e w2 ⟨rfl, h⟩
  clear c0 c4 r1 r2 r3 r4
  obtain ⟨c0, c4, r1, r2, r3, r4⟩ := h.rcells
  have H2 := Lib.hid h; clear h
  go_wp2_with fail
  refine (H2.out.load _ 1 (by omega) rfl).mono ?_
  rintro e w3 ⟨rfl, h⟩
  clear c0 c4 r1 r2 r3 r4
  obtain ⟨c0, c4, r1, r2, r3, r4⟩ := h.rcells
  have H3 := Lib.hid h; clear h
  go_wp2_with fail
  go_loopw [7] (fun t wr => ∃ k : Nat, k ≤ room ∧ t = .int .i64 k ∧ VX w0 wr Y kind room D D po dh pushed full handed fv hv) (fun t _ => room - (intOf t).toNat)
  case atStart => exact ⟨0, by omega, rfl, H3.out⟩
  case round =>
    obtain ⟨k, hk, rfl, h⟩ := hrel
    clear H3 c0 c4 r1 r2 r3 r4
    obtain ⟨c0, c4, r1, r2, r3, r4⟩ := h.rcells
    by_cases hlt : k < room
    · have C := Lib.hid (h.load (5 + (k : Int)) (2 + k) (by omega) (by omega)); clear h
      go_wp2_with fail
      refine C.out.mono ?_
      rintro e w4 ⟨rfl, h⟩
      clear c0 c4 r1 r2 r3 r4
      obtain ⟨c0, c4, r1, r2, r3, r4⟩ := h.rcells
      have ls : w4.cell? ⟨Y.l, k, none⟩ = some (.int .i64 (D (2 + k))) := by rw [h.rs.cell, slotsL_get hlt]
      have H4 := Lib.hid h; clear h C
      go_wp2_with fail
      go_roundw
      case rel => exact ⟨k + 1, by omega, by go_num, H4.out⟩
      case measure => simp [intOf]; omega
    · obtain rfl : k = room := by omega
      have H4 := Lib.hid h; clear h
      go_wp2_with fail
      go_ret
      exact ⟨rfl, H4.out⟩
end

end Go.Proofs.Ytlogmfpnjpamgaa
