/- CellOnce returns true, whatever the numbers are. -/
import Derived.Test.YtglifjecihmbhaaCellO
import Derived.Test.YtglifjecihmbhaaLCellMoves
open Go Go.RowKit
namespace Go.Proofs.Ytglifjecihmbhaa

set_option maxRecDepth 100000 in
theorem cellOnce_long (value why : Int) (n : Nat) (a : Option Addr) (cap : Nat) (w : World) (h : 300 < n) : Calls Try.prog 4 #[.int .i64 value, .int .i64 why, .slice a n cap] w fun e w' => e = .returned (.bool true) ∧ Below w.heap.size w w' := by
  have hn : (300 : Int) < (n : Int) := by omega
  go_enter Try.func4, Try.ntmps4
  go_wp2_with fail
  go_ret
  exact ⟨rfl, Below.refl _ _⟩

def Settled (A : Nat → AOp) (k : Nat) : Prop := ∀ j, j < k → (A j).ended = true
theorem Settled.more {A : Nat → AOp} {k : Nat} (h : Settled A k) (e : (A k).ended = true) : Settled A (k + 1) := by
  intro j hj
  by_cases ej : j = k
  · subst ej; exact e
  · exact h j (by omega)
theorem Settled.go {C : ACell} {A : Nat → AOp} {k j : Nat} (h : Settled A k) : Settled (opsGo C A j) k := by
  intro i hi
  unfold opsGo
  by_cases e : i = j
  · subst e; rw [if_pos rfl, AOp.step_ended C _ (h i hi)]; exact h i hi
  · rw [if_neg e]; exact h i hi

set_option maxRecDepth 100000 in
set_option maxHeartbeats 2000000 in
theorem cellOnce_short (value why : Int) (zs : List Int) (v : Value) (w : World) (hv : ArgInts w .u8 v zs) (h : zs.length ≤ 300) (hz : ∀ z ∈ zs, (Lit.int .u8 z).wf = true) :
    Calls Try.prog 4 #[.int .i64 value, .int .i64 why, v] w fun e w' => e = .returned (.bool true) ∧ Below w.heap.size w w' := by
  have hz : ∀ i, i < zs.length → ∃ y : Nat, y ≤ 255 ∧ zs.getD i 0 = (y : Int) := fun i hi => by
    have e : zs.getD i 0 = zs[i] := by simp [List.getD_eq_getElem?_getD, hi]
    have := hz zs[i] (List.getElem_mem hi)
    rw [e]
    simp [Lit.wf] at this
    have m1 : IntKind.u8.min = 0 := by decide
    have m2 : IntKind.u8.max = 255 := by decide
    rw [m1, m2] at this
    exact ⟨zs[i].toNat, by omega, by omega⟩
  obtain ⟨aa, cap, rfl, hv⟩ := hv
  obtain ⟨n, hn⟩ : ∃ n, n = zs.length := ⟨_, rfl⟩
  rw [← hn] at hv h hz ⊢
  have HV := Lib.hid hv; have HN := Lib.hid hn; have HZ := Lib.hid hz; clear hv hn hz
  have hn0 : ¬ 300 < n := by omega
  go_enter Try.func4, Try.ntmps4
  go_wp2_with fail
  refine (world_any value why w).mono ?_
  rintro e w1 ⟨L, rfl, hL, hI⟩
  have HL := Lib.hid hL; have HI := Lib.hid hI; clear hL hI
  go_wp2_with fail
  go_loopw [9] (fun t wr => ∃ (i : Nat) (C : ACell) (A : Nat → AOp), i ≤ n ∧ t = .int .i64 i ∧ Inv w wr L C A ∧ J value why C A) (fun t _ => n - (intOf t).toNat)
  case atStart => exact ⟨0, _, _, by omega, rfl, HI.out, J.start value why⟩
  case round =>
    obtain ⟨i, C, A, hi, rfl, h, hj⟩ := hrel
    have HI2 := Lib.hid h; have HJ2 := Lib.hid hj; clear h hj HI
    by_cases hlt : i < n
    · obtain ⟨bb, off, rfl, hbb, hcell⟩ := HV.out (by omega)
      obtain ⟨y, hy, hzy⟩ := HZ.out i hlt
      have c1 := (HI2.out.bel.cell (p := ⟨bb, off + i, none⟩) hbb).trans (hcell i (by omega))
      rw [hzy] at c1
      have hk : (y : Int) % 6 = ((y % 6 : Nat) : Int) := by omega
      have HK := Lib.hid hk
      clear hcell hzy hk
      go_wp2_with fail
      refine (move_any HI2.out HL.out y hy (y % 6) HK.out (by omega)).mono ?_
      rintro e w2 ⟨rfl, h⟩
      have HI3 := Lib.hid h; have HJ3 := Lib.hid (HJ2.out.step HI2.out.good HI2.out.len (y % 6) (by omega)); clear h
      go_wp2_with fail
      go_roundw
      case rel => exact ⟨i + 1, _, _, by omega, by go_num, HI3.out, HJ3.out⟩
      case measure => simp [intOf]; omega
    · clear HV HN HZ
      go_wp2_with fail
      go_loopw [10] (fun t wr => ∃ (k : Nat) (C : ACell) (A : Nat → AOp), k ≤ 6 ∧ t = .int .i64 k ∧ Inv w wr L C A ∧ J value why C A ∧ Settled A k) (fun t _ => 6 - (intOf t).toNat)
      case atStart => exact ⟨0, _, _, by omega, rfl, HI2.out, HJ2.out, (fun j hj => by omega)⟩
      case round =>
        obtain ⟨k, C, A, hk, rfl, h, hj, hs⟩ := hrel
        clear HI2 HJ2
        have HI2 := Lib.hid h; have HJ2 := Lib.hid hj; have HS2 := Lib.hid hs; clear h hj hs
        by_cases hlt6 : k < 6
        · go_wp2_with fail
          rw [show decide ((k : Int) < 6) = true from decide_eq_true (by omega)]
          go_loopw [11] (fun t wr => ∃ (i : Nat) (C : ACell) (A : Nat → AOp), i ≤ 5 ∧ t = .int .i64 i ∧ Inv w wr L C A ∧ J value why C A ∧ Settled A k ∧ ((A k).ended = true ∨ i + (A k).mu C k ≤ 5)) (fun t _ => 20 - (intOf t).toNat)
          case atStart => exact ⟨0, _, _, by omega, rfl, HI2.out, HJ2.out, HS2.out, Or.inr (by have := AOp.mu_le C (A k) k; omega)⟩
          case round =>
            obtain ⟨i2, C, A, hi2, rfl, h, hj, hs, he⟩ := hrel
            clear HI2 HJ2 HS2
            have c12 := (h.top.cell (12 + k)).trans (L.cell12 C k (by omega))
            obtain ⟨o0, o3, o4, o5, o6, o7⟩ := h.hand k (by omega)
            clear o0 o3 o4 o6 o7
            have HI2 := Lib.hid h; have HJ2 := Lib.hid hj; have HS2 := Lib.hid hs; have HE2 := Lib.hid he; clear h hj hs he
            cases hend : (A k).ended with
            | true =>
              rw [hend] at o5
              have HEND := Lib.hid hend; clear hend
              go_wp2_with fail
              go_roundw
              case rel => exact ⟨k + 1, C, A, by omega, by go_num, HI2.out, HJ2.out, HS2.out.more HEND.out⟩
              case measure => simp [intOf]; omega
            | false =>
              rw [hend] at o5
              have HEND := Lib.hid hend
              have hmu : i2 + (A k).mu C k ≤ 5 := by
                rcases HE2.out with h | h
                · rw [hend] at h; cases h
                · exact h
              have hmu1 := AOp.mu_pos C (A k) k (HI2.out.good k (by omega)) hend
              clear hend
              have hcu : IntKind.u8.wrap (k : Int) = k := by
                rcases (show k = 0 ∨ k = 1 ∨ k = 2 ∨ k = 3 ∨ k = 4 ∨ k = 5 by omega) with rfl | rfl | rfl | rfl | rfl | rfl <;> decide
              have hk6 : (k : Int) % 6 = (k : Int) := by omega
              have HK6 := Lib.hid hk6; clear hk6
              go_wp2_with fail
              refine (move_any HI2.out HL.out k (by omega) k HK6.out (by omega)).mono ?_
              rintro e w2 ⟨rfl, h⟩
              have HI3 := Lib.hid h; have HJ3 := Lib.hid (HJ2.out.step HI2.out.good HI2.out.len k (by omega)); clear h
              go_wp2_with fail
              go_roundw
              case rel =>
                refine ⟨i2 + 1, _, _, by omega, by go_num, HI3.out, HJ3.out, HS2.out.go, ?_⟩
                have ek : opsGo C A k k = ((A k).step C).2 := if_pos rfl
                rw [ek]
                rcases AOp.mu_step C (A k) k (HI2.out.good k (by omega)) HEND.out with h | h
                · exact Or.inl h
                · exact Or.inr (by show i2 + 1 + ((A k).step C).2.mu ((A k).step C).1 k ≤ 5; omega)
              case measure => simp [intOf]; omega
        · obtain rfl : k = 6 := by omega
          have hE0 : (A 0).ended = true := HS2.out 0 (by omega)
          have hH : C.H = -1 := HJ2.out.fill.1.2 hE0
          obtain ⟨l, hln, hlc, hlm⟩ := HJ2.out.chain
          rw [if_pos hH] at hlc
          have hl5 := nodup_len hln (Chain.low hlc)
          have HLN := Lib.hid hln; have HLC := Lib.hid hlc; have HLM := Lib.hid hlm; have HE0 := Lib.hid hE0; have HH := Lib.hid hH; clear hln hlc hlm hE0 hH
          have c6 := (HI2.out.top.cell (6 + 0)).trans (L.cell6 C 0 (by omega))
          simp at c6
          have hvlt := HI2.out.top.lt
          go_wp2_with fail
          refine ((HI2.out.only0 ((Only.refl _ _).alloc _)).endJ HL.out 0 (by omega)).mono ?_
          rintro e w2 ⟨rfl, h, ho⟩
          rw [AOp.endV0 _ HE0.out]
          have hb := (Blk.new wr (tm []) 43).only ho (by simp)
          obtain ⟨b, hbe⟩ : ∃ b, b = wr.heap.size := ⟨_, rfl⟩
          have haw := HI2.out.new (Nat.le_of_eq hbe.symm)
          have hbw : w.heap.size ≤ b := by rw [hbe]; exact HI2.out.bel.size
          rw [← hbe] at hb ⊢
          have HBE := Lib.hid hbe
          have HB3 := Lib.hid hb; have HI3 := Lib.hid h; have HAW := Lib.hid haw; have hlt2 := hb.lt
          clear hbe hb h haw ho c6
          go_wp2_with fail
          go_loopw [15, 16] (fun t15 t16 wr => ∃ (l1 l2 : List Nat) (at0 : Int), l = l1 ++ l2 ∧ t15 = .int .i64 at0 ∧ t16 = .int .i64 l1.length ∧ Chain C.L at0 l2 ∧ Inv w wr L C A ∧ Blk wr b (tm l1) 43) (fun _ t _ => 9 - (intOf t).toNat)
          case atStart => exact ⟨[], l, _, rfl, rfl, rfl, HLC.out, HI3.out.only0 ((Only.refl _ _).alloc _), HB3.out.alloc _⟩
          case round =>
            obtain ⟨l1, l2, at0, hl12, rfl, rfl, hc, h, hb⟩ := hrel
            clear HI3 HB3 hlt2
            have hlen : l1.length + l2.length ≤ 5 := by rw [hl12, List.length_append] at hl5; exact hl5
            cases l2 with
            | cons x l2 =>
              obtain ⟨hc1, hx1, hx5, hc2⟩ := hc
              subst hc1
              have hlen' : l1.length + (l2.length + 1) ≤ 5 := by simpa using hlen
              have c0 := h.top.cell 0
              simp [Lay.cells] at c0
              have hnx : x ∉ l1 := fun hx => by
                have := HLN.out
                rw [hl12, List.nodup_append] at this
                exact this.2.2 x hx x (by simp) rfl
              have e1 := (hb.cell x).trans (tm_get l1 x hx5)
              rw [if_neg hnx] at e1
              have f1 := hb.free x
              have HI4 := Lib.hid h; have HB4 := Lib.hid hb; have HC2 := Lib.hid hc2; have HL12 := Lib.hid hl12; have HNX := Lib.hid hnx
              have hbv : b ≠ L.v := HAW.out.2.2.2.1
              have hwr : IntKind.i64.wrap (10 + (x : Int)) = 10 + x := by rw [IntKind.wrap_i64]; omega
              generalize hl1 : l1.length = n1 at *
              have HN1 := Lib.hid hl1
              clear h hb hc2 hl12 hnx hlen hl1
              go_wp2_with fail
              refine ((HI4.out.onlyB ((Only.refl _ _).setCell (by simp) _) HAW.out hbw).loadJ HL.out _ (by omega) (by omega)).mono ?_
              rintro e w3 ⟨rfl, h, ho⟩
              rw [show (10 + (x : Int)).toNat = 10 + x from by omega, ACell.link C x hx1 hx5]
              have hb := HB4.out.set x (.int .i64 1)
              rw [tm_set l1 x hx5] at hb
              have hb := hb.only ho (by have := HAW.out.1; have := HAW.out.2.1; have := HAW.out.2.2.1; simp; omega)
              have HI5 := Lib.hid h; have HB5 := Lib.hid hb
              generalize C.L.getD x 0 = at1 at *
              clear h hb ho c0 e1 f1
              go_wp2_with fail
              go_roundw
              case rel => exact ⟨l1 ++ [x], l2, at1, by rw [HL12.out]; simp, rfl, by rw [List.length_append, HN1.out]; go_num, HC2.out, HI5.out, HB5.out⟩
              case measure => simp [intOf]; omega
            | nil =>
              have h0 : at0 = 0 := hc
              subst h0
              have hl1 : l1 = l := by rw [hl12]; simp
              subst hl1
              have HI4 := Lib.hid h; have HB4 := Lib.hid hb
              have hlen' : l1.length ≤ 5 := by simpa using hlen
              generalize hln1 : l1.length = n1 at *
              have HN1 := Lib.hid hln1
              clear h hb hl12 hc hlen hl5 hln1
              go_wp2_with fail
              go_loopw [19] (fun t wr => ∃ x : Nat, 1 ≤ x ∧ x ≤ 6 ∧ t = .int .i64 x ∧ Inv w wr L C A ∧ Blk wr b (tm l1) 43) (fun t _ => 6 - (intOf t).toNat)
              case atStart => exact ⟨1, by omega, by omega, rfl, HI4.out, HB4.out⟩
              case round =>
                obtain ⟨x, hx1, hx6, rfl, h, hb⟩ := hrel
                clear HI4 HB4
                have HI4 := Lib.hid h; have HB4 := Lib.hid hb
                by_cases hlt5 : x ≤ 5
                · have c6 := (h.top.cell (6 + x)).trans (L.cell6 C x hlt5)
                  have hvb := hb.lt
                  clear h hb
                  have hex := HS2.out x (by omega)
                  have HEX := Lib.hid hex; clear hex
                  go_wp2_with fail
                  refine (HI4.out.endJ HL.out x hlt5).mono ?_
                  rintro e w3 ⟨rfl, h, ho⟩
                  rw [AOp.endVx _ x (by omega) HEX.out]
                  have hb := HB4.out.only ho (by simp)
                  have e1 := (hb.cell x).trans (tm_get l1 x hlt5)
                  have hbl := hb.lt
                  have HI5 := Lib.hid h; have HB5 := Lib.hid hb
                  clear h hb ho
                  cases hw : (A x).waits with
                  | true =>
                    rw [if_pos ((HLM.out x hx1 hlt5).2 hw)] at e1
                    generalize (A x).value = v1 at *
                    generalize (A x).why = v2 at *
                    generalize (A x).first = v3 at *
                    clear hw
                    go_wp2_with fail
                    go_quiet (fail)
                    go_wp2_with fail
                    go_roundw
                    case rel => exact ⟨x + 1, by omega, by omega, by go_num, HI5.out.only0 (((Only.refl _ _).alloc _).drewN _), (HB5.out.alloc _).drewN _⟩
                    case measure => simp [intOf]; omega
                  | false =>
                    have hnx : x ∉ l1 := fun h => by have := (HLM.out x hx1 hlt5).1 h; rw [hw] at this; cases this
                    rw [if_neg hnx] at e1
                    obtain ⟨hv1, hv2⟩ := (HJ2.out.wait x hx1 hlt5).2 HEX.out hw
                    rw [hv1, hv2]
                    generalize (A x).first = v3 at *
                    clear hw hnx hv1 hv2
                    go_wp2_with fail
                    go_quiet (fail)
                    go_wp2_with fail
                    go_roundw
                    case rel => exact ⟨x + 1, by omega, by omega, by go_num, HI5.out.only0 (((Only.refl _ _).alloc _).drewN _), (HB5.out.alloc _).drewN _⟩
                    case measure => simp [intOf]; omega
                · clear h hb
                  have hx : ¬ x ≤ 5 := hlt5
                  go_wp2_with fail
                  refine (awake_any _).mono ?_
                  rintro e wz ⟨rfl, hb⟩
                  have HBz := Lib.hid (below_below HI4.out.bel (Nat.le_refl _) hb); clear hb
                  go_wp2_with fail
                  go_ret
                  exact ⟨rfl, HBz.out⟩

theorem cellOnce_walk (value why : Int) (zs : List Int) (v : Value) (w : World) (hv : ArgInts w .u8 v zs) (hz : ∀ z ∈ zs, (Lit.int .u8 z).wf = true) : Calls Try.prog 4 #[.int .i64 value, .int .i64 why, v] w fun e w' => e = .returned (.bool true) ∧ Below w.heap.size w w' := by
  by_cases h : zs.length ≤ 300
  · exact cellOnce_short value why zs v w hv h hz
  · obtain ⟨a, cap, rfl, _⟩ := hv
    exact cellOnce_long _ _ _ _ _ _ (by omega)

end Go.Proofs.Ytglifjecihmbhaa
