/- CellMoves returns true, whatever the numbers are. -/
import Derived.Test.YtglifjecihmbhaaCellM
import Derived.Test.YtglifjecihmbhaaArg
open Go Go.RowKit
namespace Go.Proofs.Ytglifjecihmbhaa

theorem cellMoves_long (value why : Int) (n : Nat) (a : Option Addr) (cap : Nat) (w : World) (h : 300 < n) : Calls Try.prog 3 #[.int .i64 value, .int .i64 why, .slice a n cap] w fun e w' => e = .returned (.bool true) ∧ Below w.heap.size w w' := by
  have hn : (300 : Int) < (n : Int) := by omega
  go_enter Try.func3, Try.ntmps3
  go_wp2_with fail
  go_ret
  exact ⟨rfl, Below.refl _ _⟩

set_option maxRecDepth 100000 in
set_option maxHeartbeats 1000000 in
theorem cellMoves_short (value why : Int) (zs : List Int) (v : Value) (w : World) (hv : ArgInts w .u8 v zs) (h : zs.length ≤ 300) (hz : ∀ z ∈ zs, (Lit.int .u8 z).wf = true) :
    Calls Try.prog 3 #[.int .i64 value, .int .i64 why, v] w fun e w' => e = .returned (.bool true) ∧ Below w.heap.size w w' := by
  have hz : ∀ i, i < zs.length → ∃ y : Nat, y ≤ 255 ∧ zs.getD i 0 = (y : Int) := fun i hi => by
    have e : zs.getD i 0 = zs[i] := by simp [List.getD_eq_getElem?_getD, hi]
    have := hz zs[i] (List.getElem_mem hi)
    rw [e]
    simp [Lit.wf] at this
    have m1 : IntKind.u8.min = 0 := by decide
    have m2 : IntKind.u8.max = 255 := by decide
    rw [m1, m2] at this
    exact ⟨zs[i].toNat, by omega, by omega⟩
  obtain ⟨aa, cap, rfl, hv⟩ := hv
  obtain ⟨n, hn⟩ : ∃ n, n = zs.length := ⟨_, rfl⟩
  rw [← hn] at hv h hz ⊢
  have HV := Lib.hid hv; have HN := Lib.hid hn; have HZ := Lib.hid hz; clear hv hn hz
  have hn0 : ¬ 300 < n := by omega
  go_enter Try.func3, Try.ntmps3
  go_wp2_with fail
  refine (world_any value why w).mono ?_
  rintro e w1 ⟨L, rfl, hL, hI⟩
  have HL := Lib.hid hL; have HI := Lib.hid hI; clear hL hI
  go_wp2_with fail
  go_loopw [9] (fun t wr => ∃ (i : Nat) (C : ACell) (A : Nat → AOp), i ≤ n ∧ t = .int .i64 i ∧ Inv w wr L C A) (fun t _ => n - (intOf t).toNat)
  case atStart => exact ⟨0, _, _, by omega, rfl, HI.out⟩
  case round =>
    obtain ⟨i, C, A, hi, rfl, h⟩ := hrel
    have HI2 := Lib.hid h; clear h
    by_cases hlt : i < n
    · obtain ⟨bb, off, rfl, hbb, hcell⟩ := HV.out (by omega)
      obtain ⟨y, hy, hzy⟩ := HZ.out i hlt
      have c1 := (HI2.out.bel.cell (p := ⟨bb, off + i, none⟩) hbb).trans (hcell i (by omega))
      rw [hzy] at c1
      have hk : (y : Int) % 6 = ((y % 6 : Nat) : Int) := by omega
      have HK := Lib.hid hk
      clear hcell hzy hk
      go_wp2_with fail
      refine (move_any HI2.out HL.out y hy (y % 6) HK.out (by omega)).mono ?_
      rintro e w2 ⟨rfl, h⟩
      have HI3 := Lib.hid h; clear h
      go_wp2_with fail
      go_roundw
      case rel => exact ⟨i + 1, _, _, by omega, by go_num, HI3.out⟩
      case measure => simp [intOf]; omega
    · go_wp2_with fail
      refine (awake_any _).mono ?_
      rintro e wz ⟨rfl, hb⟩
      have HBz := Lib.hid (below_below HI2.out.bel (Nat.le_refl _) hb); clear hb
      go_wp2_with fail
      go_ret
      exact ⟨rfl, HBz.out⟩

theorem cellMoves_walk (value why : Int) (zs : List Int) (v : Value) (w : World) (hv : ArgInts w .u8 v zs) (hz : ∀ z ∈ zs, (Lit.int .u8 z).wf = true) : Calls Try.prog 3 #[.int .i64 value, .int .i64 why, v] w fun e w' => e = .returned (.bool true) ∧ Below w.heap.size w w' := by
  by_cases h : zs.length ≤ 300
  · exact cellMoves_short value why zs v w hv h hz
  · obtain ⟨a, cap, rfl, _⟩ := hv
    exact cellMoves_long _ _ _ _ _ _ (by omega)

end Go.Proofs.Ytglifjecihmbhaa
