/- Layer 13: world, walked. -/
import Derived.Test.YtglifjecihmbhaaCellL
import Derived.Deep.CutRange
import Derived.Deep.LoopGhost
open Go Go.RowKit
namespace Go.Proofs.Ytglifjecihmbhaa

def WPost (value why : Int) (w0 : World) (e : Ending) (w' : World) : Prop :=
  ∃ L : Lay, e = .returned (.tuple #[.pointer (some ⟨L.v, 0, none⟩), .bool true]) ∧ L.fine w0.heap.size ∧ Inv w0 w' L C0 (A0 value why)

theorem make6 (w : World) : (Instr.makeSlice 35 (.int .i64 6) (.int .i64 6)).run Try.prog w = .ok (.slice (some ⟨w.heap.size, 0, none⟩) 6 6) (w.alloc (.cells #[.int .i64 0, .int .i64 0, .int .i64 0, .int .i64 0, .int .i64 0, .int .i64 0] 2)) :=
  make_i64 6 (by omega) w

set_option maxRecDepth 100000 in
set_option maxHeartbeats 2000000 in
theorem world_any (value why : Int) (w : World) : Calls Try.prog 8 #[.int .i64 value, .int .i64 why] w (WPost value why w) := by
  have H0 := Lib.hid (new_ok 20 w (by omega))
  have E1 : (MemS.fresh 20).tcode 0 20 true = 0 := by decide +kernel
  have F1 : (MemS.fresh 20).turn 0 20 true = C0.mem 0 := by kernel_rfl
  replace F1 := Lib.hid F1
  have hmk := make6
  go_enter Try.func8, Try.ntmps8
  go_wp2_with fail
  refine H0.out.mono ?_
  rintro e w1 ⟨m, a, b, rfl, hm, h1, h2, h3, ho⟩
  have HM1 := Lib.hid hm; have HB1 := Lib.hid ho.nil_below; clear hm ho
  go_wp2_with fail
  refine (live_any m a b _ _ _ _ HM1.out).mono ?_
  rintro e w2 ⟨rfl, hm, ho⟩
  rw [F1.out] at hm
  have HM2 := Lib.hid hm; have HB2 := Lib.hid (below_only3 HB1.out (Nat.le_refl _) ho h1 h2 h3); clear hm ho
  go_upto_region 4 with fail
  go_cut [8] from 21 to 26 (fun s8 wx => ∃ L : Lay, s8 = .pointer (some ⟨L.v, 0, none⟩) ∧ WS value why w wx L 0)
  case first =>
    go_region_with (go_at_call 14; refine (cat_any _ _).mono ?_; rintro e w3 ⟨rfl, ho3⟩; have HO3 := Lib.hid ho3; clear ho3)
    all_goals go_wp2_with fail
    all_goals go_meet
    · have hs := HO3.out.size
      refine ⟨⟨m, a, b, _, _, fun _ => 0, fun _ => 0⟩, rfl, WS.start HM2.out HB2.out (((((Only.refl _ _).drew.trans HO3.out).alloc _).alloc _)) ((Blk.new w3 (C0.L.map (.int .i64)) _).alloc _) (newBlk (w3.alloc _) _ (Lay.cellsN ⟨m, a, b, _, _, fun _ => 0, fun _ => 0⟩ 0) _ (by simp)) hs (Nat.le_succ_of_le hs) (by omega) h1 h2 h3⟩
    · have hs := HO3.out.size
      have hs : w2.heap.size + 1 ≤ w3.heap.size := by simpa using hs
      refine ⟨⟨m, a, b, _, _, fun _ => 0, fun _ => 0⟩, rfl, WS.start HM2.out HB2.out ((((Only.refl _ _).alloc _).drew.trans HO3.out).alloc _) ((Blk.only (Blk.drew (Blk.new w2 (C0.L.map (.int .i64)) _)) HO3.out (by simp)).alloc _) (Blk.new w3 (Lay.cellsN ⟨m, a, b, _, _, fun _ => 0, fun _ => 0⟩ 0) _) (Nat.le_refl _) (Nat.le_of_succ_le hs) (Nat.ne_of_gt hs) h1 h2 h3⟩
  case rest =>
    obtain ⟨L, rfl, h⟩ := hcut
    clear F1 HM1 HB1 HM2 HB2 h1 h2 h3 hmk H0 E1
    have c1 := h.top.cell 1
    have c6 := h.top.cell 6
    have f6 := h.top.free 6
    have c12 := h.top.cell 12
    have f12 := h.top.free 12
    have hv := h.top.lt
    simp [Lay.cellsN, Lay.ifp] at c1 c6 c12
    have HL := Lib.hid h; clear h
    go_upto_region 5 with fail
    go_cut [8] from 27 to 45 (fun s8 wx => ∃ L' : Lay, L'.v = L.v ∧ s8 = .pointer (some ⟨L'.v, 0, none⟩) ∧ WS value why w wx L' 1)
    case first =>
      go_region_with (go_at_call 16; refine (cfill_any 2 value why _).mono ?_; rintro e w4 ⟨o, rfl, hb, hl, ho⟩; have hv : Blk w4 L.v (L.cellsN 0) 42 := (by first | exact HL.out.top.drew.only ho (by simp) | exact (HL.out.top.drew.alloc _).only ho (by simp) | exact (HL.out.top.alloc _).drew.only ho (by simp) | exact HL.out.top.only ho (by simp) | exact (HL.out.top.alloc _).only ho (by simp)); have d6 := hv.cell 6; have g6 := hv.free 6; have d12 := hv.cell 12; have g12 := hv.free 12; simp [Lay.cellsN, Lay.ifp] at d6 d12; have hv4 := hv.lt; clear hv; have HB4 := Lib.hid hb; have HO4 := Lib.hid ho; clear hb ho)
      all_goals go_wp2_with fail
      all_goals go_meet
      · exact ⟨L.put 0 o _, rfl, rfl, HL.out.stepA (by omega) HO4.out (by rw [← A0_fill]; exact HB4.out) hl _ rfl⟩
      · exact ⟨L.put 0 o _, rfl, rfl, HL.out.stepA (by omega) HO4.out (by rw [← A0_fill]; exact HB4.out) hl _ rfl⟩
      · exact ⟨L.put 0 o _, rfl, rfl, HL.out.stepB (by omega) _ rfl HO4.out (by rw [← A0_fill]; exact HB4.out) hl⟩
      · exact ⟨L.put 0 o _, rfl, rfl, HL.out.stepB (by omega) _ rfl HO4.out (by rw [← A0_fill]; exact HB4.out) hl⟩
    case rest =>
      obtain ⟨L', hv', rfl, h⟩ := hcut
      clear HL c1 c6 c12 f6 f12 hv
      have H1 := Lib.hid h
      clear h hv' L
      have hv0 : ∃ v, v = L'.v := ⟨_, rfl⟩
      obtain ⟨v, hv0⟩ := hv0
      rw [← hv0]
      have HV := Lib.hid hv0
      clear hv0
      go_wp2_with fail
      go_loopw [9] (fun t wr => ∃ (x : Nat) (L : Lay), 1 ≤ x ∧ x ≤ 6 ∧ t = .int .i64 x ∧ v = L.v ∧ WS value why w wr L x) (fun t _ => 6 - (intOf t).toNat)
      case atStart => exact ⟨1, L', by omega, by omega, rfl, HV.out, H1.out⟩
      case round =>
        obtain ⟨x, L, hx1, hx6, rfl, hvL, h⟩ := hrel
        clear HV H1
        subst hvL
        by_cases hlt : x ≤ 5
        · have c1 : wr.cell? ⟨L.v, 1, none⟩ = some (.int .i64 2) := h.top.cell 1
          have c6 := (h.top.cell (6 + x)).trans (L.cellsN_6 x hlt)
          have f6 := h.top.free (6 + x)
          have c12 := (h.top.cell (12 + x)).trans (L.cellsN_12 x hlt)
          have f12 := h.top.free (12 + x)
          have hv := h.top.lt
          have HL := Lib.hid h; clear h
          have hwr : IntKind.i64.wrap (10 + (x : Int)) = 10 + x := by rw [IntKind.wrap_i64]; omega
          go_wp2_with fail
          go_region_with (go_at_call 15; refine (cwait_any 2 x (10 + (x : Int)) _).mono ?_; rintro e w4 ⟨o, rfl, hb, hl, ho⟩; have hv : Blk w4 L.v (L.cellsN x) 42 := (by first | exact HL.out.top.drew.only ho (by simp) | exact (HL.out.top.drew.alloc _).only ho (by simp) | exact (HL.out.top.alloc _).drew.only ho (by simp)); have d6 := (hv.cell (6 + x)).trans (L.cellsN_6 x hlt); have g6 := hv.free (6 + x); have d12 := (hv.cell (12 + x)).trans (L.cellsN_12 x hlt); have g12 := hv.free (12 + x); have hv4 := hv.lt; clear hv; have HB4 := Lib.hid hb; have HO4 := Lib.hid ho; clear hb ho)
          all_goals go_wp2_with fail
          all_goals go_roundw
          all_goals first
            | exact ⟨x + 1, L.put x o _, by omega, by omega, by go_num, rfl, HL.out.stepA hlt HO4.out (by rw [← A0_wait value why x o hx1 hlt]; exact HB4.out) hl _ (by rw [A0_own value why x hx1]; rfl)⟩
            | exact ⟨x + 1, L.put x o _, by omega, by omega, by go_num, rfl, HL.out.stepB hlt _ (by rw [A0_own value why x hx1]; rfl) HO4.out (by rw [← A0_wait value why x o hx1 hlt]; exact HB4.out) hl⟩
            | (simp [intOf]; omega)
        · have HL := Lib.hid h; clear h
          have hx : ¬ x ≤ 5 := hlt
          go_wp2_with fail
          go_ret2
          obtain rfl : x = 6 := by omega
          exact ⟨L, rfl, HL.out.inv.1, HL.out.inv.2⟩

end Go.Proofs.Ytglifjecihmbhaa
