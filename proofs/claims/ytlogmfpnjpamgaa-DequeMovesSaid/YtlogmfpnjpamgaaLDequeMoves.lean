/- DequeMoves returns true, whatever the kind, the room and the acts are. -/
import Derived.Test.YtlogmfpnjpamgaaDeqK
import Derived.Test.YtlogmfpnjpamgaaDeqS
import Derived.Test.YtlogmfpnjpamgaaArg3
open Go Go.RowKit
namespace Go.Proofs.Ytlogmfpnjpamgaa

theorem Good.words {w0 w : World} {v kind room N : Nat} {A : AW} (h : Good w0 w v kind room N A) (hr : room ≤ 1000) :
    Calls Try.prog 16 #[.pointer (some ⟨v, 0, none⟩)] w fun e w1 => e = .returned (.bool true) ∧ Good w0 w1 v kind room N A := by
  obtain ⟨⟨Y, fv, hv, hva, rfl⟩, h1, h2, h3, h4⟩ := h
  refine (words_any hva hr).mono ?_
  rintro e w1 ⟨rfl, hw⟩
  exact ⟨rfl, ⟨Y, fv, hv, hw, rfl⟩, h1, h2, h3, h4⟩

theorem Good.bel {w0 w : World} {v kind room N : Nat} {A : AW} (h : Good w0 w v kind room N A) : Below w0.heap.size w0 w := by
  obtain ⟨⟨Y, fv, hv, hva, rfl⟩, _⟩ := h
  exact hva.bel

theorem dequeMoves_long (kind room : Int) (n : Nat) (a : Option Addr) (cap : Nat) (w : World) (h : 300 < n) : Calls Try.prog 4 #[.int .u8 kind, .int .u8 room, .slice a n cap] w fun e w' => e = .returned (.bool true) ∧ Below w.heap.size w w' := by
  have hn : (300 : Int) < (n : Int) := by omega
  go_enter Try.func4, Try.ntmps4
  go_wp2_with fail
  go_ret
  exact ⟨rfl, Below.refl _ _⟩

set_option maxRecDepth 100000 in
set_option maxHeartbeats 1000000 in
theorem dequeMoves_short (kind room : Nat) (n : Nat) (x : Nat → Nat) (b : Nat → Bool) (v : Value) (w : World) (hkk : kind ≤ 255) (hrr : room ≤ 255) (hv : ArgRows w v n 2 (fun i j => if j = 0 then .int .u8 (x i) else .bool (b i))) (hx : ∀ i, i < n → x i ≤ 255) (h : n ≤ 300) :
    Calls Try.prog 4 #[.int .u8 kind, .int .u8 room, v] w fun e w' => e = .returned (.bool true) ∧ Below w.heap.size w w' := by
  obtain ⟨aa, cap, rfl, hv⟩ := hv
  have HV := Lib.hid hv; have HX := Lib.hid hx; clear hv hx
  obtain ⟨k, hk⟩ : ∃ k : Nat, (kind : Int) % 3 + 1 = k := ⟨kind % 3 + 1, by omega⟩
  obtain ⟨r, hr⟩ : ∃ r : Nat, (room : Int) % 6 + 1 = r := ⟨room % 6 + 1, by omega⟩
  have HK : Hid (k = 1 ∨ k = 2 ∨ k = 3) := Lib.hid (by omega)
  have HR : Hid (1 ≤ r ∧ r ≤ 1000) := Lib.hid (by omega)
  have C := Lib.hid (fun w => world_any kind room k r w hkk hrr hk hr)
  clear hk hr hkk hrr
  have hn0 : ¬ 300 < n := by omega
  go_enter Try.func4, Try.ntmps4
  go_wp2_with fail
  refine (C.out _).mono ?_
  rintro e w1 ⟨p, rfl, hg⟩
  have HG := Lib.hid hg; clear hg C
  go_wp2_with fail
  go_loopw [9] (fun t wr => ∃ (i : Nat) (A : AW), i ≤ n ∧ t = .int .i64 i ∧ Good w wr p k r i A) (fun t _ => n - (intOf t).toNat)
  case atStart => exact ⟨0, _, by omega, rfl, HG.out⟩
  case round =>
    obtain ⟨i, A, hi, rfl, hg⟩ := hrel
    clear HG
    have HG := Lib.hid hg; clear hg
    by_cases hlt : i < n
    · obtain ⟨bb, off, rfl, hbb, hcell⟩ := HV.out (by omega)
      have c0 := (HG.out.bel.cell (p := ⟨bb, off + i * 2 + 0, none⟩) hbb).trans (hcell i hlt 0 (by omega))
      have c1 := (HG.out.bel.cell (p := ⟨bb, off + i * 2 + 1, none⟩) hbb).trans (hcell i hlt 1 (by omega))
      rw [Nat.add_zero, if_pos rfl] at c0
      rw [if_neg (by omega)] at c1
      have hxi := HX.out i hlt
      clear hcell
      generalize x i = y at c0 hxi
      generalize b i = q at c1
      have C := Lib.hid (HG.out.move HK.out HR.out.1 HR.out.2 (by omega) y q hxi)
      clear hxi
      go_wp2_with fail
      refine C.out.mono ?_
      rintro e w2 ⟨rfl, hg⟩
      clear HG C
      have HG := Lib.hid hg; clear hg
      go_wp2_with fail
      refine (HG.out.words HR.out.2).mono ?_
      rintro e w3 ⟨rfl, hg⟩
      clear HG
      have HG := Lib.hid hg; clear hg
      go_wp2_with fail
      go_roundw
      case rel => exact ⟨i + 1, _, by omega, by go_num, HG.out⟩
      case measure => simp [intOf]; omega
    · go_wp2_with fail
      refine (awake_any _).mono ?_
      rintro e wz ⟨rfl, hb⟩
      have HBz := Lib.hid (below_below HG.out.bel (Nat.le_refl _) hb); clear hb
      go_wp2_with fail
      go_ret
      exact ⟨rfl, HBz.out⟩

theorem dequeMoves_walk (kind room : Int) (n : Nat) (x : Nat → Nat) (b : Nat → Bool) (v : Value) (w : World) (h1 : 0 ≤ kind ∧ kind ≤ 255) (h2 : 0 ≤ room ∧ room ≤ 255) (hv : ArgRows w v n 2 (fun i j => if j = 0 then .int .u8 (x i) else .bool (b i))) (hx : ∀ i, i < n → x i ≤ 255) :
    Calls Try.prog 4 #[.int .u8 kind, .int .u8 room, v] w fun e w' => e = .returned (.bool true) ∧ Below w.heap.size w w' := by
  by_cases h : n ≤ 300
  · obtain ⟨i, rfl⟩ : ∃ i : Nat, kind = i := ⟨kind.toNat, by omega⟩
    obtain ⟨j, rfl⟩ : ∃ j : Nat, room = j := ⟨room.toNat, by omega⟩
    exact dequeMoves_short i j n x b v w (by omega) (by omega) hv hx h
  · obtain ⟨a, cap, rfl, _⟩ := hv
    exact dequeMoves_long _ _ _ _ _ _ (by omega)

end Go.Proofs.Ytlogmfpnjpamgaa
