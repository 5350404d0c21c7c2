/- Layer 13: one move of a world of the law's: it is the document's. -/
import Derived.Test.YtglifjecihmbhaaCellJ
open Go Go.RowKit
namespace Go.Proofs.Ytglifjecihmbhaa

theorem Lay.cell6 (L : Lay) (C : ACell) (k : Nat) (hk : k ≤ 5) : (L.cells C)[6 + k]? = some (.pointer (some ⟨L.ops k, 0, none⟩)) := by
  rcases (show k = 0 ∨ k = 1 ∨ k = 2 ∨ k = 3 ∨ k = 4 ∨ k = 5 by omega) with rfl | rfl | rfl | rfl | rfl | rfl <;> rfl
theorem Lay.cell12 (L : Lay) (C : ACell) (k : Nat) (hk : k ≤ 5) : (L.cells C)[12 + k]? = some (.pointer (some ⟨L.own k, 0, none⟩)) := by
  rcases (show k = 0 ∨ k = 1 ∨ k = 2 ∨ k = 3 ∨ k = 4 ∨ k = 5 by omega) with rfl | rfl | rfl | rfl | rfl | rfl <;> rfl
theorem ACell.link (C : ACell) (x : Nat) (h1 : 1 ≤ x) (h5 : x ≤ 5) : C.words.getD (10 + x) 0 = C.L.getD x 0 := by
  rcases (show x = 1 ∨ x = 2 ∨ x = 3 ∨ x = 4 ∨ x = 5 by omega) with rfl | rfl | rfl | rfl | rfl <;> rfl

theorem Inv.cells {w0 w : World} {L : Lay} {C : ACell} {A : Nat → AOp} (h : Inv w0 w L C A) :
    w.cell? ⟨L.v, 0, none⟩ = some (.pointer (some ⟨L.m, 0, none⟩)) ∧ w.cell? ⟨L.v, 2, none⟩ = some (.int .i64 C.H) ∧ w.cell? ⟨L.v, 3, none⟩ = some (.int .i64 C.V) ∧ w.cell? ⟨L.v, 4, none⟩ = some (.int .i64 C.Y) ∧ w.cell? ⟨L.v, 5, none⟩ = some (.slice (some ⟨L.lk, 0, none⟩) 6 6) :=
  ⟨h.top.cell 0, h.top.cell 2, h.top.cell 3, h.top.cell 4, h.top.cell 5⟩
theorem Inv.hand {w0 w : World} {L : Lay} {C : ACell} {A : Nat → AOp} (h : Inv w0 w L C A) (k : Nat) (hk : k ≤ 5) :
    w.cell? ⟨L.own k, 0, none⟩ = some (.int .i64 (A k).x) ∧ w.cell? ⟨L.own k, 3, none⟩ = some (.int .i64 (A k).value) ∧ w.cell? ⟨L.own k, 4, none⟩ = some (.int .i64 (A k).why) ∧ w.cell? ⟨L.own k, 5, none⟩ = some (.bool (A k).ended) ∧ w.cell? ⟨L.own k, 6, none⟩ = some (.bool (A k).waits) ∧ w.cell? ⟨L.own k, 7, none⟩ = some (.int .i64 (A k).first) :=
  ⟨(h.own k hk).cell 0, (h.own k hk).cell 3, (h.own k hk).cell 4, (h.own k hk).cell 5, (h.own k hk).cell 6, (h.own k hk).cell 7⟩

set_option maxRecDepth 100000 in
set_option maxHeartbeats 2000000 in
theorem move_any {w0 w : World} {L : Lay} {C : ACell} {A : Nat → AOp} (h : Inv w0 w L C A) {B : Nat} (hL : L.fine B) (y : Nat) (hy : y ≤ 255) (k : Nat) (hk : (y : Int) % 6 = k) (hk5 : k ≤ 5) :
    Calls Try.prog 9 #[.pointer (some ⟨L.v, 0, none⟩), .int .u8 y] w fun e w' => e = .returned (.bool true) ∧ Inv w0 w' L (C.go A k) (opsGo C A k) := by
  obtain ⟨c0, c2, c3, c4, c5⟩ := h.cells
  have c6 := (h.top.cell (6 + k)).trans (L.cell6 C k hk5)
  have c12 := (h.top.cell (12 + k)).trans (L.cell12 C k hk5)
  have H := Lib.hid h
  have HL := Lib.hid hL
  clear h hL
  go_enter Try.func9, Try.ntmps9
  go_wp2_with fail
  go_quiet (fail)
  go_wp2_with fail
  refine ((H.out.only0 ((Only.refl _ _).drewN nq)).first HL.out k hk5).mono ?_
  rintro e w1 ⟨rfl, h⟩
  have d0 := h.top.cell 0
  simp [Lay.cells] at d0
  have HM1 := Lib.hid h; clear h
  clear c0 c2 c3 c4 c5 c6 c12
  go_wp2_with fail
  refine (HM1.out.second HL.out hk5 H.out.good H.out.len).mono ?_
  rintro e w2 ⟨rfl, h⟩
  have hend : (opsGo C A k k) = ((A k).step C).2 := by unfold opsGo; rw [if_pos rfl]
  rw [← hend]
  have HEND := Lib.hid hend; clear hend
  generalize hC : C.go A k = C' at *
  generalize hA : opsGo C A k = A' at *
  have HC := Lib.hid hC; have HA := Lib.hid hA; clear hC hA
  clear HM1 d0
  obtain ⟨c0, c2, c3, c4, c5⟩ := h.cells; have H2 := Lib.hid h; clear h
  go_wp2_with fail
  refine (H2.out.loadI HL.out _ (by omega) (by omega)).mono ?_
  rintro e w3 ⟨rfl, h⟩
  rw [show C'.words.getD (Int.toNat 2) 0 = C'.H from rfl]
  clear c0 c2 c3 c4 c5
  obtain ⟨c0, c2, c3, c4, c5⟩ := h.cells; have H3 := Lib.hid h; clear h
  go_wp2_with fail
  refine (H3.out.loadI HL.out _ (by omega) (by omega)).mono ?_
  rintro e w4 ⟨rfl, h⟩
  rw [show C'.words.getD (Int.toNat 3) 0 = C'.V from rfl]
  clear c0 c2 c3 c4 c5
  obtain ⟨c0, c2, c3, c4, c5⟩ := h.cells; have H4 := Lib.hid h; clear h
  go_wp2_with fail
  refine (H4.out.loadI HL.out _ (by omega) (by omega)).mono ?_
  rintro e w5 ⟨rfl, h⟩
  rw [show C'.words.getD (Int.toNat 4) 0 = C'.Y from rfl]
  clear c0 c2 c3 c4 c5
  obtain ⟨c0, c2, c3, c4, c5⟩ := h.cells
  obtain ⟨o0, o3, o4, o5, o6, o7⟩ := h.hand k hk5
  have H5 := Lib.hid h; clear h
  go_wp2_with fail
  clear c0 c2 c3 c4 c5 o0 o3 o4 o5 o6 o7
  go_loopw [15] (fun t wr => ∃ x : Nat, 1 ≤ x ∧ x ≤ 6 ∧ t = .int .i64 x ∧ Inv w0 wr L C' A') (fun t _ => 6 - (intOf t).toNat)
  case atStart => exact ⟨1, by omega, by omega, rfl, H5.out⟩
  case round =>
    obtain ⟨x, hx1, hx6, rfl, h⟩ := hrel
    obtain ⟨c0, c2, c3, c4, c5⟩ := h.cells
    have H6 := Lib.hid h; clear h
    by_cases hlt : x ≤ 5
    · go_wp2_with fail
      refine (H6.out.loadI HL.out _ (by omega) (by omega)).mono ?_
      rintro e w6 ⟨rfl, h⟩
      rw [show (10 + (x : Int)).toNat = 10 + x from by omega, ACell.link C' x hx1 hlt]
      clear c0 c2 c3 c4 c5
      obtain ⟨c0, c2, c3, c4, c5⟩ := h.cells
      have cl := h.lk.cell x
      rw [getElem?_map_int _ _ (by rw [h.len]; omega)] at cl
      generalize C'.L.getD x 0 = lx at *
      have H7 := Lib.hid h; clear h
      go_wp2_with fail
      go_roundw
      case rel => exact ⟨x + 1, by omega, by omega, by go_num, H7.out⟩
      case measure => simp [intOf]; omega
    · clear c0 c2 c3 c4 c5
      have hx : ¬ x ≤ 5 := hlt
      go_wp2_with fail
      refine (H6.out.endI HL.out k hk5).mono ?_
      rintro e w6 ⟨rfl, h⟩
      obtain ⟨o0, o3, o4, o5, o6, o7⟩ := h.hand k hk5
      have H7 := Lib.hid h; clear h
      have hg := H7.out.good k hk5
      have hlt6 := (H7.out.own k hk5).lt
      cases hend : (A' k).ended with
      | false =>
        have ev : ((A' k).prog k).endV = .tuple #[.agg #[.bool false, .int .i64 0, .int .i64 0, .int .i64 0], .int .i64 11] := by
          show Value.tuple #[if (A' k).ended = true then _ else _, .int .i64 (if (A' k).ended = true then _ else _)] = _
          rw [hend]; rfl
        rw [ev]
        have HG := Lib.hid hg; have HE := Lib.hid ev; clear hg ev
        go_wp2_with fail
        go_ret
        exact ⟨rfl, by rw [HC.out, HA.out]; exact H7.out.only0 ((Only.refl _ _).alloc _)⟩
      | true =>
        rw [hend] at o5
        have hxx := hg.1
        by_cases hk0 : k = 0
        · have ev : ((A' k).prog k).endV = .tuple #[.agg #[.bool (A' k).waits, .int .i64 0, .int .i64 0, .int .i64 (A' k).first], .int .i64 0] := by
            show Value.tuple #[if (A' k).ended = true then .agg #[_, .int .i64 (if k = 0 ∧ (A' k).ended = true then 0 else _), .int .i64 (if k = 0 ∧ (A' k).ended = true then 0 else _), _] else _, .int .i64 (if (A' k).ended = true then _ else _)] = _
            rw [if_pos hend, if_pos hend, if_pos ⟨hk0, hend⟩, if_pos ⟨hk0, hend⟩]; rfl
          rw [ev]
          have hx0 : (A' k).x = 0 := by rw [hxx, hk0]; rfl
          rw [hx0] at o0
          have HG := Lib.hid hg; have HE := Lib.hid ev; have HK := Lib.hid hk0; have HX := Lib.hid hxx; clear hg ev hk0 hxx hx0 hend
          generalize (A' k).waits = b6 at *
          generalize (A' k).first = b7 at *
          go_wp2_with fail
          go_region
          all_goals go_wp2_with fail
          all_goals go_ret
          all_goals exact ⟨rfl, by rw [HC.out, HA.out]; exact H7.out.only0 (by repeat (first | exact Only.refl _ _ | apply Only.drew | apply Only.alloc))⟩
        · have hk1 : 1 ≤ k := by omega
          obtain ⟨z1, z2, z3⟩ := hg.2.2.2 hk1
          have hxp : 0 < (A' k).x := by rw [hxx]; omega
          cases hwt : (A' k).waits with
          | true =>
            have hp3 := z3 hwt
            have ev : ((A' k).prog k).endV = .tuple #[.agg #[.bool true, .int .i64 0, .int .i64 0, .int .i64 (A' k).first], .int .i64 0] := by
              show Value.tuple #[if (A' k).ended = true then .agg #[.bool (A' k).waits, .int .i64 (if k = 0 ∧ (A' k).ended = true then 0 else (A' k).value), .int .i64 (if k = 0 ∧ (A' k).ended = true then 0 else (A' k).why), _] else _, .int .i64 (if (A' k).ended = true then _ else _)] = _
              rw [if_pos hend, if_pos hend, if_neg (fun h => hk0 h.1), if_neg (fun h => hk0 h.1), z1 hp3, z2 (by omega), hwt]; rfl
            rw [ev]
            rw [hwt] at o6
            have HG := Lib.hid hg; have HE := Lib.hid ev; have HX := Lib.hid hxx; clear hg ev hxx hend z1 z2 z3 hp3 hwt
            generalize (A' k).first = b7 at *
            generalize (A' k).x = b0 at *
            go_wp2_with fail
            go_region
            all_goals go_wp2_with fail
            all_goals go_ret
            all_goals exact ⟨rfl, by rw [HC.out, HA.out]; exact H7.out.only0 (by repeat (first | exact Only.refl _ _ | apply Only.drew | apply Only.alloc))⟩
          | false =>
            have ev : ((A' k).prog k).endV = .tuple #[.agg #[.bool false, .int .i64 (A' k).value, .int .i64 (A' k).why, .int .i64 (A' k).first], .int .i64 0] := by
              show Value.tuple #[if (A' k).ended = true then .agg #[.bool (A' k).waits, .int .i64 (if k = 0 ∧ (A' k).ended = true then 0 else (A' k).value), .int .i64 (if k = 0 ∧ (A' k).ended = true then 0 else (A' k).why), _] else _, .int .i64 (if (A' k).ended = true then _ else _)] = _
              rw [if_pos hend, if_pos hend, if_neg (fun h => hk0 h.1), if_neg (fun h => hk0 h.1), hwt]; rfl
            rw [ev]
            rw [hwt] at o6
            have HG := Lib.hid hg; have HE := Lib.hid ev; have HX := Lib.hid hxx; clear hg ev hxx hend z1 z2 z3 hwt
            generalize (A' k).first = b7 at *
            generalize (A' k).x = b0 at *
            generalize (A' k).value = b3 at *
            generalize (A' k).why = b4 at *
            go_wp2_with fail
            go_region
            all_goals go_wp2_with fail
            all_goals go_region
            all_goals go_wp2_with fail
            all_goals go_ret
            all_goals exact ⟨rfl, by rw [HC.out, HA.out]; exact H7.out.only0 (by repeat (first | exact Only.refl _ _ | apply Only.drew | apply Only.alloc))⟩

end Go.Proofs.Ytglifjecihmbhaa
