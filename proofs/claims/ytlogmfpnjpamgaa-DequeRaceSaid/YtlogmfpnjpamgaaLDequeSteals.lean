/- DequeSteals returns true, whatever the kind, the room and the number of those pushed are. -/
import Derived.Test.YtlogmfpnjpamgaaDeqV
open Go Go.RowKit
namespace Go.Proofs.Ytlogmfpnjpamgaa

/-- 1 to n. -/
def seqL (n : Nat) : List Int := (List.range n).map (fun j => ((j + 1 : Nat) : Int))
theorem seqL_len (n : Nat) : (seqL n).length = n := by simp [seqL]
theorem seqL_succ (n : Nat) : seqL (n + 1) = seqL n ++ [((n + 1 : Nat) : Int)] := by simp [seqL, List.range_succ]
theorem seqL_getD {n i : Nat} (h : i < n) : (seqL n).getD i 0 = ((i + 1 : Nat) : Int) := by
  simp [seqL, List.getD_eq_getElem?_getD, h]
theorem seqL_dropLast (n : Nat) : (seqL (n + 1)).dropLast = seqL n := by rw [seqL_succ, List.dropLast_concat]

/-- What is left behind i steals. -/
def stealL (k top i : Nat) : List Int := if k = 2 then seqL (top - i) else (seqL top).drop i
def stealN (k top i : Nat) : Int := if k = 2 then ((top - i : Nat) : Int) else ((i + 1 : Nat) : Int)

theorem steals_run {k room top i u : Nat} (hk : k = 1 ∨ k = 2 ∨ k = 3) (hr : room ≤ 1000) (hi : i < top) (D : Dq) (h : Rep k room (stealL k top i) u D) : Runs k room D 2 0 (stealN k top i) 0 (stealL k top (i + 1)) (if k = 2 then u - 1 else u) := by
  unfold stealL stealN at *
  by_cases h2 : k = 2
  · subst h2
    rw [if_pos rfl] at h
    rw [if_pos rfl, if_pos rfl, if_pos rfl]
    have := alone_steal_last h (by rw [seqL_len]; omega)
    obtain ⟨n, hn⟩ : ∃ n, top - i = n + 1 := ⟨top - i - 1, by omega⟩
    rw [hn, seqL_dropLast, seqL_len, seqL_getD (by omega)] at this
    rw [hn, show top - (i + 1) = n by omega]
    exact this
  · rw [if_neg h2] at h
    rw [if_neg h2, if_neg h2, if_neg h2]
    have := alone_steal_first (by omega) h hr (by rw [List.length_drop, seqL_len]; omega)
    rw [List.tail_drop] at this
    have e : ((seqL top).drop i).getD 0 0 = ((i + 1 : Nat) : Int) := by
      have := seqL_getD hi
      rw [List.getD_eq_getElem?_getD] at this ⊢
      rw [List.getElem?_drop]
      exact this
    rw [e] at this
    exact this

set_option maxRecDepth 100000 in
set_option maxHeartbeats 1000000 in
theorem dequeSteals_core (kind room many : Nat) (w : World) (h1 : kind ≤ 255) (h2 : room ≤ 255) (h3 : many ≤ 255) : Calls Try.prog 8 #[.int .u8 kind, .int .u8 room, .int .u8 many] w fun e w' => e = .returned (.bool true) ∧ Below w.heap.size w w' := by
  obtain ⟨k, hk⟩ : ∃ k : Nat, (kind : Int) % 3 + 1 = k := ⟨kind % 3 + 1, by omega⟩
  obtain ⟨n, hn⟩ : ∃ n : Nat, (room : Int) % 6 + 1 = n := ⟨room % 6 + 1, by omega⟩
  have hk' : k = 1 ∨ k = 2 ∨ k = 3 := by omega
  have hn1 : 1 ≤ n := by omega
  have hn6 : n ≤ 6 := by omega
  obtain ⟨top, ht⟩ : ∃ top : Nat, (many : Int) % ((n : Int) + 1) = top := ⟨many % (n + 1), by rw [Int.natCast_emod]; rfl⟩
  have htn : top ≤ n := by have := Int.emod_lt_of_pos (many : Int) (show (0 : Int) < (n : Int) + 1 by omega); omega
  have HK := Lib.hid hk'
  have hk1 : 1 ≤ k := by omega
  have hk3 : k ≤ 3 := by omega
  clear hk'
  go_enter Try.func8, Try.ntmps8
  go_wp2_with fail
  refine (new_ok 20 _ (by omega)).mono ?_
  rintro e w1 ⟨m, a, b, rfl, hm, h1, h2, h3, ho⟩
  have HB1 := Lib.hid ho.nil_below
  have C := dnew_live m a b (MemS.fresh 20) k (0 : Nat) n w1 hm (by omega) (by omega) (by omega)
  rw [fresh_tcode (by omega), if_pos rfl] at C
  have HC := Lib.hid C; clear C hm ho
  go_wp2_with fail
  refine HC.out.mono ?_
  rintro e w2 ⟨rfl, hm, ho⟩
  have HB2 := Lib.hid (below_only3 HB1.out (Nat.le_refl _) ho h1 h2 h3)
  have HM2 := Lib.hid hm
  clear hm ho HC
  unfold aggD
  go_wp2_with fail
  obtain ⟨d, hd⟩ : ∃ d, d = w2.heap.size := ⟨_, rfl⟩
  have hS := DS.begin (kind := k) (room := n) (d := d) HM2.out (by omega) (by omega) HB2.out ⟨h1, h2, h3⟩ HK.out hd rfl
  have HS := Lib.hid hS
  rw [← hd, ht]
  clear hS hd HM2
  go_loopw [14] (fun t wr => ∃ i : Nat, i ≤ top ∧ t = .int .i64 (i + 1 : Nat) ∧ DS w wr m a b d k n (20 * i) (seqL i) i) (fun t _ => top + 1 - (intOf t).toNat)
  case atStart => exact ⟨0, by omega, rfl, HS.out⟩
  case round =>
    obtain ⟨i, hi, rfl, hs⟩ := hrel
    clear HS
    by_cases hlt : i < top
    · have HS := Lib.hid hs; clear hs
      obtain ⟨d0, d1, d2⟩ := HS.out.cells
      have C := Lib.hid (HS.out.push ((i + 1 : Nat) : Int) HK.out)
      go_wp2_with fail
      refine C.out.mono ?_
      rintro e wTx ⟨o, rfl, hs⟩
      have HO := Lib.hid hs; clear hs C d0 d1 d2
      have C := Lib.hid (HO.out.run HK.out (by omega) (by omega) (fun D hr => alone_push HK.out hn1 (by omega) hr (by rw [seqL_len]; omega)))
      go_wp2_with fail
      refine C.out.mono ?_
      rintro e wT ⟨rfl, hs⟩
      have HT := Lib.hid hs; clear hs C HO
      go_wp2_with fail
      go_roundw
      case rel => exact ⟨i + 1, by omega, by go_num, by rw [seqL_succ]; exact HT.out.mono (by omega)⟩
      case measure => simp [intOf]; omega
    · obtain rfl : i = top := by omega
      have hs0 : DS w wr m a b d k n (20 * i) (stealL k i 0) i := by
        have e : stealL k i 0 = seqL i := by unfold stealL; split <;> simp
        rw [e]; exact hs
      have HS := Lib.hid hs0; clear hs hs0
      obtain ⟨wo, rfl⟩ : ∃ wo : World, wo = wr := ⟨_, rfl⟩
      go_wp2_with fail
      rw [show ((i + 1 : Nat) : Int) = (i : Int) + 1 from by omega]
      go_loopw [17] (fun t wr => ∃ j u : Nat, j ≤ i ∧ t = .int .i64 (j + 1 : Nat) ∧ DS w wr m a b d k n (20 * i + 20 * j) (stealL k i j) u) (fun t _ => i + 1 - (intOf t).toNat)
      case atStart => exact ⟨0, i, by omega, rfl, HS.out⟩
      case round =>
        obtain ⟨j, u, hj, rfl, hs⟩ := hrel
        clear HS
        have HS := Lib.hid hs; clear hs
        by_cases hjt : j < i
        · by_cases hk2 : k = 2
          · have hb2 : ((k : Int) == 2) = true := by simp; omega
            have hsn : stealN k i j = (i : Int) + 1 - ((j + 1 : Nat) : Int) := by unfold stealN; rw [if_pos hk2]; omega
            have HSN := Lib.hid hsn; have HK2 := Lib.hid hk2; clear hsn hk2
            obtain ⟨d0, d1, d2⟩ := HS.out.cells
            have C := Lib.hid (HS.out.steal HK.out)
            go_wp2_with fail
            refine C.out.mono ?_
            rintro e wTx ⟨o, rfl, hs⟩
            have HO := Lib.hid hs; clear hs C d0 d1 d2
            have C := Lib.hid (HO.out.run HK.out (by omega) (by omega) (fun D hr => steals_run HK.out (by omega) hjt D hr))
            go_wp2_with fail
            refine C.out.mono ?_
            rintro e wT ⟨rfl, hs⟩
            have HT := Lib.hid hs; clear hs C HO
            rw [HSN.out]
            go_wp2_with fail
            go_roundw
            case rel => exact ⟨j + 1, _, by omega, by go_num, HT.out.mono (by omega)⟩
            case measure => simp [intOf]; omega
          · have hb2 : ((k : Int) == 2) = false := by simp; omega
            have hsn : stealN k i j = ((j + 1 : Nat) : Int) := by unfold stealN; rw [if_neg hk2]
            have HSN := Lib.hid hsn; have HK2 := Lib.hid hk2; clear hsn hk2
            obtain ⟨d0, d1, d2⟩ := HS.out.cells
            have C := Lib.hid (HS.out.steal HK.out)
            go_wp2_with fail
            refine C.out.mono ?_
            rintro e wTx ⟨o, rfl, hs⟩
            have HO := Lib.hid hs; clear hs C d0 d1 d2
            have C := Lib.hid (HO.out.run HK.out (by omega) (by omega) (fun D hr => steals_run HK.out (by omega) hjt D hr))
            go_wp2_with fail
            refine C.out.mono ?_
            rintro e wT ⟨rfl, hs⟩
            have HT := Lib.hid hs; clear hs C HO
            rw [HSN.out]
            go_wp2_with fail
            go_roundw
            case rel => exact ⟨j + 1, _, by omega, by go_num, HT.out.mono (by omega)⟩
            case measure => simp [intOf]; omega
        · obtain rfl : j = i := by omega
          have hs := HS.out
          rw [show stealL k j j = [] by unfold stealL; split <;> simp [seqL]] at hs
          clear HS
          have HS := Lib.hid hs; clear hs
          obtain ⟨d0, d1, d2⟩ := HS.out.cells
          have C := Lib.hid (HS.out.steal HK.out)
          go_wp2_with fail
          refine C.out.mono ?_
          rintro e wTx ⟨o, rfl, hs⟩
          have HO := Lib.hid hs; clear hs C d0 d1 d2
          have C := Lib.hid (HO.out.run HK.out (by omega) (by omega) (fun D hr => alone_steal_none HK.out hr))
          go_wp2_with fail
          refine C.out.mono ?_
          rintro e wT ⟨rfl, hs⟩
          have HT := Lib.hid hs; clear hs C HO
          obtain ⟨d0, d1, d2⟩ := HT.out.cells
          have C := Lib.hid (HT.out.pop HK.out)
          go_wp2_with fail
          refine C.out.mono ?_
          rintro e wUx ⟨o, rfl, hs⟩
          have HO := Lib.hid hs; clear hs C d0 d1 d2
          have C := Lib.hid (HO.out.run HK.out (by omega) (by omega) (fun D hr => alone_pop_none HK.out hr))
          go_wp2_with fail
          refine C.out.mono ?_
          rintro e wU ⟨rfl, hs⟩
          have HU := Lib.hid hs; clear hs C HO
          go_wp2_with fail
          refine (awake_any _).mono ?_
          rintro e w9 ⟨rfl, hb⟩
          have HB9 := Lib.hid (below_below HU.out.hb (Nat.le_refl _) hb)
          clear hb
          go_wp2_with fail
          go_ret
          exact ⟨rfl, HB9.out⟩

theorem dequeSteals_walk (kind room many : Int) (w : World) (h1 : 0 ≤ kind ∧ kind ≤ 255) (h2 : 0 ≤ room ∧ room ≤ 255) (h3 : 0 ≤ many ∧ many ≤ 255) : Calls Try.prog 8 #[.int .u8 kind, .int .u8 room, .int .u8 many] w fun e w' => e = .returned (.bool true) ∧ Below w.heap.size w w' := by
  obtain ⟨i, rfl⟩ : ∃ i : Nat, kind = i := ⟨kind.toNat, by omega⟩
  obtain ⟨j, rfl⟩ : ∃ j : Nat, room = j := ⟨room.toNat, by omega⟩
  obtain ⟨k, rfl⟩ : ∃ k : Nat, many = k := ⟨many.toNat, by omega⟩
  exact dequeSteals_core i j k w (by omega) (by omega) (by omega)

end Go.Proofs.Ytlogmfpnjpamgaa
